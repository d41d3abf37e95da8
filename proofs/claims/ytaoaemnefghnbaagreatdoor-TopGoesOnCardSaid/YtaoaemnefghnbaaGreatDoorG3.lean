/- Texts of this claim, one behind the other. -/
import Derived.Test.YtaoaemnefghnbaaGreatDoorG2
import Derived.Shelf.Slices.In.SortNone
import Derived.Maps.RangeRun
set_option linter.unusedVariables false
set_option linter.unusedSectionVars false
set_option maxRecDepth 100000
set_option maxHeartbeats 16000000
namespace Go.V
end Go.V
namespace Go.Proofs.YtaoaemnefghnbaaGreatDoor
end Go.Proofs.YtaoaemnefghnbaaGreatDoor
open Go.V Go.Proofs.YtaoaemnefghnbaaGreatDoor
namespace Go.Proofs.YtaoaemnefghnbaaGreatDoor
structure au where
 prod:Int
 dot:Int
deriving DecidableEq
instance:tQ au:={ n:=2,rd:=λ_ x vs=>vs=[iI x.prod,iI x.dot],mono:=λ_ h=>h,len:=λh=>by simp_all }
def au.lt(x y:au):Prop:=x.prod<y.prod\/x.prod=y.prod/\x.dot<y.dot
instance (x y:au):Decidable (x.lt y):=inferInstanceAs (Decidable (_\/_))
theorem au.ext'{x y:au}(h1:x.prod=y.prod)(h2:x.dot=y.dot):x=y:=by cases x;simp_all
theorem au.lt_irrefl(x:au):¬x.lt x:=by simp[au.lt]
theorem au.lt_trans{x y z:au}(h1:x.lt y)(h2:y.lt z):x.lt z:=by grind[au.lt]
theorem au.WA{x y:au}(h:x≠y):x.lt y\/y.lt x:=by grind[au.lt,au.ext']
abbrev nZ(l:List au):Prop:=l.Pairwise au.lt
def Hn(x:au):List au->List au
 |[]=>[x]
 |y::l=>if x=y then y::l else if x.lt y then x::y::l else y::Hn x l
def lay(l:List au):List au:=l.foldl (λout x=>Hn x out) []
theorem Ho{x y:au}:∀{l:List au},y∈Hn x l↔y=x\/y∈l
 |[]=>by simp[Hn]
 |z::l=>by
  unfold Hn
  split
  ·simp_all
  ·split
   ·simp
   ·rw[af6,Ho,af6]
    grind
theorem Oa{x:au}:∀{l:List au},nZ l->nZ (Hn x l)
 |[],_=>by simp[Hn]
 |z::l,h=>by
  unfold Hn
  have h':=agL.1 h
  split
  ·omega
  ·rename_i hne
   split
   ·rename_i hlt
    exact agL.2 ⟨λy hy=>by
     rcases af6.1 hy with rfl|hy
     ·omega
     grind[au.lt_trans],h⟩
   ·rename_i hnl
    refine agL.2 ⟨λy hy=>?_,Oa h'.2⟩
    rcases Ho.1 hy with rfl|hy
    ·grind[au.WA]
    simp_all
theorem foldI(l:List au):∀out,nZ out->nZ (l.foldl (λout x=>Hn x out) out)/\∀y,y∈l.foldl (λout x=>Hn x out) out↔y∈out\/y∈l:=by
 induction l with
 |nil=>simp
 |cons x l ih=>
  grind[Oa,Hn,Ho]
theorem n_(l:List au):nZ (lay l):=(foldI l [] .nil).1
theorem mB{l:List au}{y:au}:y∈lay l↔y∈l:=by simp[foldI,lay]
theorem nZ.nodup{l:List au}(h:nZ l):l.Nodup:=agI.2 (h.imp λh e=>by simp_all[au.lt_irrefl])
theorem nZ.one{l m:List au}(h:nZ l)(h':nZ m)(he:∀x,x∈l↔x∈m):l=m:=by
 have p:l.Perm m:=(List.perm_ext_iff_of_nodup h.nodup h'.nodup).2 he
 grind[List.Perm.eq_of_pairwise,au.lt,absurd,au.lt_trans,au.lt_irrefl]
theorem wQ{l:List au}(h:nZ l):lay l=l:=(n_ l).one h λ_=>mB
theorem QL{l m:List au}(h:nZ m)(he:∀x,x∈m↔x∈l):lay l=m:=(n_ l).one h λx=>by rw[mB,he]
def vn(g:ah)(x:au):Prop:=0<=x.prod/\0<=x.dot/\∃p,g.prods[x.prod.toNat]? =some p/\x.dot<=p.right.length
def mQ(g:ah)(x:au):Int:=
 match g.prods[x.prod.toNat]? with
 |none=>-1
 |some p=>p.right.getD x.dot.toNat (-1)
theorem wR{g:ah}{x:au}{p:aO}(h:g.prods[x.prod.toNat]? =some p):mQ g x=p.right.getD x.dot.toNat (-1):=by simp_all[mQ]
inductive wi (g:ah) (I:List au):au->Prop
 |base {x:au}:x∈I->wi g I x
 |step {y:au} {i:Nat} {p:aO}:wi g I y->0<=mQ g y->g.prods[i]? =some p->p.left=mQ g y->wi g I ⟨i,0⟩
def LW(g:ah)(l:List au):List au:=((List.range g.prods.length).filter λi=>l.any λy=>decide (0<=mQ g y)&&decide ((g.prods[i]?.map aO.left)=some (mQ g y))).map λi:Nat=>⟨(i:Int),0⟩
def LX(g:ah)(I:List au):Nat->List au
 |0=>lay I
 |k+1=>lay (LX g I k++LW g (LX g I k))
def cls(g:ah)(I:List au):List au:=LX g I g.prods.length
section
variable{g:ah}{I l:List au}{x y:au}{k:Nat}
theorem Hq:x∈LW g l↔∃(i:Nat)(p:aO)(y:au),x=⟨i,0⟩/\g.prods[i]? =some p/\y∈l/\0<=mQ g y/\p.left=mQ g y:=by
 unfold LW
 grind
theorem LY:∀k,nZ (LX g I k)
 |0=>n_ _
 |_+1=>n_ _
theorem wS:x∈LX g I (k+1)↔x∈LX g I k\/x∈LW g (LX g I k):=by
 show x∈lay _↔_
 rw[mB,afT]
theorem DH:∀k x,x∈LX g I k->wi g I x
 |0,x,h=>.base (mB.1 h)
 |k+1,x,h=>by
  rcases wS.1 h with h|h
  ·exact DH k x h
  ·obtain⟨i,p,y,rfl,hp,hy,h1,h2⟩:=Hq.1 h
   exact .step (DH k y hy) h1 hp h2
theorem Ob:∀k,∀x∈I,x∈LX g I k
 |0,x,h=>mB.2 h
 |k+1,x,h=>wS.2 (.inl (Ob k x h))
def QM(g:ah)(I:List au)(k:Nat):List Nat:=(List.range g.prods.length).filter λi=>decide ((⟨i,0⟩:au)∈LX g I k)
theorem aeA:∀{l m:List Nat},l.Nodup->(∀x∈l,x∈m)->l.length<=m.length
 |[],m,_,_=>afL _
 |a::l,m,h,hs=>by
  obtain⟨m1,m2,rfl⟩:=List.append_of_mem (hs a σ)
  rw[agB] at h
  have:=aeA (l:=l) (m:=m1++m2) h.2 λx hx=>by grind
  grind
theorem Z1(h:∀x∈LW g (LX g I k),x∈LX g I k):LX g I (k+1)=LX g I k:=(LY _).one (LY _) λx=>by simp_all[wS]
theorem WB:∀k,(∀x∈LW g (LX g I k),x∈LX g I k)\/k+1<=(QM g I (k+1)).length:=by
 have J:∀k,¬(∀x∈LW g (LX g I k),x∈LX g I k)->(QM g I k).length+1<=(QM g I (k+1)).length:=by
  intro k V;have⟨x,Y⟩:=Classical.not_forall.1 V;have⟨W,U⟩:=Classical.not_imp.1 Y;obtain⟨i,p,y,rfl,hp,_⟩:=Hq.1 W;have hn:i∉QM g I k:=λh=>U (by have:=(agi.1 h).2;simp_all)
  have:=aeA (l:=i::QM g I k) (m:=QM g I (k+1)) (agB.2 ⟨hn,List.nodup_range.filter _⟩) λz u=>by
   refine agi.2 ?_
   rcases af6.1 u with rfl|u
   ·grind[List.getElem?_eq_some_iff,decide_eq_true,wS]
   ·obtain⟨O,X⟩:=agi.1 u;exact⟨O,agt (wS.2 (.inl (afO X)))⟩
  omega
 intro k
 induction k with
 |zero=>
  grind
 |succ k ih=>
  grind[LW,LX,Z1,absurd]
theorem QO:∀x∈LW g (cls g I),x∈cls g I:=by
 rcases WB (g:=g) (I:=I) g.prods.length with h|h
 ·exact h
 grind[QM,List.range,List.length_filter_le,List.length_range]
theorem BU:x∈cls g I↔wi g I x:=by
 refine⟨DH _ x,λh=>?_⟩
 induction h with
 |base h=>exact Ob _ _ h
 |step _ h1 h2 h3 ih=>exact QO _ (Hq.2 ⟨_,_,_,rfl,h2,ih,h1,h3⟩)
theorem LZ:nZ (cls g I):=LY _
theorem Z2{l:List au}(hs:nZ l)(hm:∀x,x∈l↔wi g I x):l=cls g I:=hs.one LZ λx=>by rw[hm,BU]
def bx(g:ah)(I:List au)(s:Int):List au:=((cls g I).filter λx=>decide (mQ g x=s)).map λx=>⟨x.prod,x.dot+1⟩
theorem Oc{s:Int}:nZ (bx g I s):=by
 unfold bx nZ;rw[agz];refine(LZ.filter _).imp λh=>?_
 simp_all[au.lt]
theorem dW{s:Int}:x∈bx g I s↔∃y,wi g I y/\mQ g y=s/\x=⟨y.prod,y.dot+1⟩:=by
 unfold bx;rw[afW]
 constructor
 ·rintro⟨y,O,rfl⟩;obtain⟨J,u⟩:=agi.1 O;exact⟨y,BU.1 J,afO u,rfl⟩
 ·rintro⟨y,J,u,rfl⟩;exact⟨y,agi.2 ⟨BU.2 J,agt u⟩,rfl⟩
end
structure aH where
 sym:Int
 to:Int
deriving DecidableEq
instance:tQ aH:={ n:=2,rd:=λ_ x vs=>vs=[iI x.sym,iI x.to],mono:=λ_ h=>h,len:=λh=>by simp_all }
abbrev dx:=List au
def wT(st:List dx)(k:dx):List dx:=if k∈st then st else st++[k]
def c_(g:ah)(K:dx):List Nat:=(List.range (g.T+g.N)).filter λs=>decide (bx g K s≠[])
def pZ(g:ah)(K:dx)(l:List Nat)(acc:List dx×List aH):List dx×List aH:=
 l.foldl (λ(acc:List dx×List aH)(s:Nat)=>(wT acc.1 (bx g K (s:Int)),acc.2++[⟨(s:Int),(acc.1.idxOf (bx g K (s:Int)):Int)⟩])) acc
def fK(g:ah):Nat->List dx×List (List aH)
 |0=>([[⟨0,0⟩]],[])
 |i+1=>match(fK g i).1[i]? with
  |none=>fK g i
  |some K=>((pZ g K (c_ g K) ((fK g i).1,[])).1,(fK g i).2++[(pZ g K (c_ g K) ((fK g i).1,[])).2])
structure Hr(g:ah)(st:List dx):Prop where
 nd:st.Nodup
 ne:∀K∈st,K≠[]
 srt:∀K∈st,nZ K
 fit:∀K∈st,∀x∈K,vn g x
 dots:∀(j:Nat)(K:dx),st[j]? =some K->∀x∈K,x.dot<=j
section
variable{g:ah}{I K k:dx}{st:List dx}{i j s:Nat}{x y:au}{acc:List dx×List aH}
theorem wi.fit(h:wi g I x)(hI:∀x∈I,vn g x):vn g x:=by
 induction h with
 |base h=>simp_all
 | @step y i p _ _ hp _ _=>exact⟨agu _,Int.le_refl _,p,by simp_all,σ⟩
theorem wi.dot{d:Int}(h:wi g I x)(hI:∀x∈I,x.dot<=d)(hd:0<=d):x.dot<=d:=by
 induction h with
 |base h=>simp_all
 |step _ _ _ _ _=>omega
theorem L0{s:Int}(h:vn g x)(ha:mQ g x=s)(hs:0<=s):∃p,g.prods[x.prod.toNat]? =some p/\x.dot<p.right.length/\p.right[x.dot.toNat]? =some s:=by
 obtain⟨_,J,p,hp,u⟩:=h
 grind[wR,List.getElem?_eq_some_iff]
theorem Od{s:Int}(hI:∀x∈I,vn g x)(hs:0<=s):∀x∈bx g I s,vn g x:=λx U=>by
 obtain⟨y,O,J,rfl⟩:=dW.1 U
 have u:=O.fit hI
 obtain⟨p,hp,V,_⟩:=L0 u J hs
 exact⟨u.1,by have:=u.2.1;grind,p,hp,by grind⟩
theorem L3:K∈wT st k↔K∈st\/K=k:=by grind[wT,id]
theorem SC(h:st[i]? =some K):(wT st k)[i]? =some K:=by grind[wT,List.getElem?_append_left,List.getElem?_eq_some_iff]
theorem Hr.start(hp:0<g.prods.length):Hr g [[⟨0,0⟩]]:=by
 refine⟨σ,σ,σ,λK J x u=>?_,λj K O x u=>?_⟩
 ·simp at J;subst J;simp at u;subst u;exact⟨Int.le_refl _,Int.le_refl _,g.prods[0],afJ hp,σ⟩
 grind
theorem Hr.put(h:Hr g st)(hK:st[i]? =some K)(hs:bx g K (s:Int)≠[]):Hr g (wT st (bx g K (s:Int))):=by
 have W:=afI hK;have U:=(afK.1 hK).1
 refine⟨?_,λL u=>?_,λL u=>?_,λL u=>?_,λj L u x J=>?_⟩
 ·unfold wT;split
  ·exact h.nd
  ·rename_i hn;rw[agw];exact⟨h.nd,σ,λa ha b hb e=>by simp_all⟩
 ·rcases L3.1 u with u|rfl
  ·exact h.ne L u
  omega
 ·rcases L3.1 u with u|rfl
  ·exact h.srt L u
  simp[Oc]
 ·rcases L3.1 u with u|rfl
  ·exact h.fit L u
  ·exact Od (h.fit K W) (agu _)
 ·unfold wT at u
  split at u
  ·exact h.dots j L u x J
  ·by_cases e:j<st.length
   ·rw[af5 e] at u;exact h.dots j L u x J
   ·have hl:=(afK.1 u).1;rw[afS,ag8] at hl;have O:j=st.length:=ω
    subst O;rw[agf (afR _),agX] at u;simp at u;subst u;obtain⟨y,V,_,rfl⟩:=dW.1 J;have:=V.dot (h.dots i K hK) (agu _)
    grind
theorem WC{l:List Nat}:pZ g K (l++[s]) acc=(wT (pZ g K l acc).1 (bx g K s),(pZ g K l acc).2++[⟨s,(pZ g K l acc).1.idxOf (bx g K s)⟩]):=by simp[pZ,List.foldl_append]
theorem Oe{l:List Nat}(h:l[j]? =some s):pZ g K (l.take (j+1)) acc=(wT (pZ g K (l.take j) acc).1 (bx g K s),(pZ g K (l.take j) acc).2++[⟨s,(pZ g K (l.take j) acc).1.idxOf (bx g K s)⟩]):=by grind[List.take_add_one,Option.toList_some,WC]
theorem Z3(h:Hr g st)(hK:st[i]? =some K):∀(l:List Nat),(∀s∈l,bx g K (s:Int)≠[])->∀es,Hr g (pZ g K l (st,es)).1/\(pZ g K l (st,es)).1[i]? =some K:=by
 have key:∀(l:List Nat),(∀s∈l,bx g K (s:Int)≠[])->∀st es,Hr g st->st[i]? =some K->Hr g (pZ g K l (st,es)).1/\(pZ g K l (st,es)).1[i]? =some K:=by
  intro l
  induction l with
  |nil=>exactλ_ st es h hK=>⟨h,hK⟩
  |cons s l ih=>
   intro hl st es h hK;exact ih (λz u=>hl z (by grind)) _ _ (h.put hK (hl s σ)) (SC hK)
 simp_all
theorem wU:∀(l:List Nat)(st:List dx)(es:List aH)(j:Nat)(L:dx),st[j]? =some L->(pZ g K l (st,es)).1[j]? =some L
 |[],_,_,_,_,h=>h
 |s::l,st,es,j,L,h=>wU l _ _ j L (SC h)
theorem Og{st st':List dx}(h:∀(j:Nat)(L:dx),st[j]? =some L->st'[j]? =some L):st.length<=st'.length:=by
 refine agD λhc=>?_;have:=h st'.length _ (afJ ω)
 simp_all
theorem yp:∀s∈c_ g K,bx g K (s:Int)≠[]:=λs u=>afO (agi.1 u).2
theorem gX(h:(fK g i).1[i]? =some K):fK g (i+1)=((pZ g K (c_ g K) ((fK g i).1,[])).1,(fK g i).2++[(pZ g K (c_ g K) ((fK g i).1,[])).2]):=by simp_all[fK]
theorem sB(h:(fK g i).1[i]? =none):fK g (i+1)=fK g i:=by simp_all[fK]
theorem jC(hp:0<g.prods.length):∀i,Hr g (fK g i).1
 |0=>Hr.start hp
 |i+1=>by
  cases h:(fK g i).1[i]? with
  |none=>rw[sB h];exact jC hp i
  |some K=>rw[gX h];exact(Z3 (jC hp i) h _ yp _).1
theorem Ul(i j:Nat)(L:dx)(h:(fK g i).1[j]? =some L):(fK g (i+1)).1[j]? =some L:=by grind[fK,sB,gX,wU]
theorem BV{i i':Nat}(hi:i<=i')(j:Nat)(L:dx)(h:(fK g i).1[j]? =some L):(fK g i').1[j]? =some L:=by
 induction hi with
 |refl=>omega
 |step _ ih=>simp_all[Ul]
theorem QP:∀i,i<=(fK g i).1.length->(fK g i).2.length=i
 |0,_=>rfl
 |i+1,h=>by
  cases hi:(fK g i).1[i]? with
  |none=>
   grind[sB,List.getElem?_eq_none_iff]
  |some K=>
   have:=QP i (by grind)
   simp_all[gX]
def SD(g:ah)(n:Nat):Prop:=(fK g n).1.length=n/\n<=256/\∀i,i<n->i<(fK g i).1.length
def acz(g:ah):Prop:=∃i K k,(fK g i).1[i]? =some K/\(∀j,j<=i->j<(fK g j).1.length)/\256<(pZ g K ((c_ g K).take k) ((fK g i).1,[])).1.length
theorem WE{n m:Nat}(h:SD g n)(h':SD g m):n=m:=by
 rcases Nat.lt_trichotomy n m with e|e|e
 ·have:=h'.2.2 n e;have:=h.1;omega
 ·omega
 ·have:=h.2.2 m e;have:=h'.1;omega
theorem WG(l:List Nat)(k:Nat)(es:List aH):(pZ g K (l.take k) (st,es)).1.length<=(pZ g K l (st,es)).1.length:=by
 have e:pZ g K l (st,es)=pZ g K (l.drop k) (pZ g K (l.take k) (st,es)):=by grind[pZ,List.take_append_drop]
 rw[e];exact Og λj L h=>wU _ _ _ _ _ h
theorem Oh{n:Nat}(h:SD g n)(h':acz g):False:=by
 obtain⟨i,K,k,U,O,hb⟩:=h'
 have V:i<n:=by
  refine agD λhc=>?_;have:=O n ω;have:=h.1;omega
 have W:=WG (g:=g) (K:=K) (st:=(fK g i).1) (c_ g K) k [];have J:(fK g (i+1)).1.length<=(fK g n).1.length:=Og λj L u=>BV ω j L u;rw[gX U] at J;have:=h.1;have:=h.2.1
 grind
end
section
variable{a b c d:ahr}{i j k l m n o p:Nat}{A B C D:Int}{w:ahs}{R:Value->WP}
theorem JD(h:new w (ψ a i j b k l c m n A d o p) λa b=>new b (oC [vS none 0 0,iI 0,iI 0] 76) λb c=>χ c (aM a) λd=>rEb 81 [d] c λe d=>br (!e) (bC d (aM b) [vS none 0 0,iI 0,iI 0] λa=>∃c d e f g,rA a (aM b) 3 [vS c d e,iI f,iI g]/\R (vU [vG [vS c d e,iI f,iI g],iI 1]) a) (χ d (aM a) λa=>rEp 93 [a] d λd c=>new c (Obj.map (Array.mk []) 0) λa c=>new c (oC [vS none 0 0,iI 0,iI 0,Value.map (some a)] 190) λa c=>new c (oC [iI 0,iI 0] 193) λc e=>rEi 94 [vP (some (aM a)),vS (some (aM c)) 1 1] e λf e=>τ [(6,aN)] λc f=>c 0 e/\∀(_:ν) e g,c e g->cLs g (aM a) λh i j=>bQ (e<(i:Int)) (cLs g (aM a) λh i j=>idx h i e 2 λh=>cLs g h λi j k=>rE 95 [vP d,vS i j k] g λd h=>∃i,d=Value.map i/\aX Tryz.prog (Instr.range 195 (Value.map i)) h λd h=>∃j,d=vP j/\τ [(8,lY)] λd k=>d none 0 0 h/\∀(_:ν) h l m n,d h l m n->aX Tryz.prog (Instr.next (vP j) false 0) n λo p=>(o=vU [vB false]/\rE 96 [vS h l m] p λd j=>d=vU []/\τ [(10,lY),(61,aN)] λd k=>d none 0 0 0 j/\∀(_:ν) j m n o p,d j m n o p->bQ (o<(l:Int)) (idx h l o 1 λc=>cLi p c λe=>aX Tryz.prog (Instr.lookup 195 (Value.map i) (iI e) false) p λc f=>∃g h i,c=vS g h i/\rEs 97 [vS g h i] f λg h i f=>rEi 94 [vP (some (aM a)),vS g h i] f λg f=>new f (oC [iI e,iI g] 203) λc e=>rS (fX 197 (Array.mk [vS j m n,vS (some (aM c)) 1 1])) e λc e=>∃f g h,c=vS f g h/\cLs e (aM a) λc i l=>bQ (256<(i:Int)) (bC e (aM b) [vS none 0 0,iI 0,iI 0] λa=>∃c d e f g,rA a (aM b) 3 [vS c d e,iI f,iI g]/\R (vU [vG [vS c d e,iI f,iI g],iI 11]) a) (aD (o+1)/\d f g h (o+1) e/\k f g h (o+1) e<k j m n o p)) (∀b,drawn p b->∃(d:WP),d b/\∃h i k,(∀b,d b->cL b (aM a) (vS h i k))/\rEs 98 [vS j m n] b λj k l b=>d b/\idx h i e 2 λa=>st1 b (a.add 1) (vS j k l) λa=>aD (e+1)/\c (e+1) a/\f (e+1) a<f e g))\/∃a b,o=vU [vB true,iI a,b]/\aX Tryz.prog (Instr.entry (vP j)) p λa b=>∃c e,a=vU [iI c,e]/\new b (oC [iI c] 3) λa b=>rS (fX 24 (Array.mk [vS h l m,vS (some (aM a)) 1 1])) b λa b=>∃c e f,a=vS c e f/\d c e f b/\k c e f b<k h l m n) (cLs g (aM a) λc d e=>rEs 99 [vS c d e] g λe f g d=>st1 d (aM a) (vS e f g) λc=>∃d e f g h,rA c (aM a) 3 [vS d e f,iI g,iI h]/\bC c (aM b) [vS d e f,iI g,iI h] λa=>∃c d e f g,rA a (aM b) 3 [vS c d e,iI f,iI g]/\R (vU [vG [vS c d e,iI f,iI g],iI 0]) a))):ρ 41 [φ a i j b k l c m n A d o p] w R:=rv Tryz.func41 ⟨[(7,[(6,(.one (.int .i64)))]),(12,[(8,(.one .slice))]),(18,[(10,(.one .slice)),(61,(.one (.int .i64)))])],[],[],[]⟩ h
theorem QR(h:new w (ψ a i j b k l c m n A d o p) λa b=>∃c d e f g h i j k l m n o,rA b (aM a) 5 [vS c d e,vS f g h,vS i j k,iI l,vS m n o]/\new b (Obj.map (Array.mk []) 0) λb p=>new p (oC [vS c d e,vS f g h,vS i j k,iI l,vS m n o,Value.map (some b)] 330) λb c=>cLs c (Addr.add (aM a) 4) λd e f=>τ [(13,aN)] λa f=>a 0 c/\∀(_:ν) c g,a c g->bQ (c<(e:Int)) (idx d e c 3 λd=>∃e h i j k,rA g d 3 [iI e,vS h i j,iI k]/\new g (oC [iI 0,vS none 0 0,iI 0] 134) λd l=>bC l (aM d) [iI e,vS h i j,iI k] λe=>∀h,drawn e h->∃(e:WP),e h/\∃i,(∀a,e a->cL a (Addr.add (aM b) 5) (Value.map i))/\∃j,(∀a,e a->cL a (aM d) (iI j))/\∃k,(∀a,e a->cL a (Addr.add (aM b) 5) (Value.map k))/\∃b,(∀a,e a->cL a (aM d) (iI b))/\(aX Tryz.prog (Instr.lookup 328 (Value.map k) (iI b) false) h λb d=>∃h k l,b=vS h k l/\e d/\new d (oC [iI c] 3) λb d=>e d/\rS (fX 24 (Array.mk [vS h k l,vS (some (aM b)) 1 1])) d λb d=>∃h k l,b=vS h k l/\e d/\aX Tryz.prog (Instr.mapUpdate 328 (Value.map i) (iI j) (vS h k l)) d λ(_:Unit)(b:ahs)=>aD (c+1)/\a (c+1) b/\f (c+1) b<f c g)/\new h (oC [iI c] 3) λd h=>e h/\aX Tryz.prog (Instr.lookup 328 (Value.map k) (iI b) false) h λb h=>∃k l m,b=vS k l m/\e h/\rS (fX 24 (Array.mk [vS k l m,vS (some (aM d)) 1 1])) h λb d=>∃h k l,b=vS h k l/\e d/\aX Tryz.prog (Instr.mapUpdate 328 (Value.map i) (iI j) (vS h k l)) d λ(_:Unit)(b:ahs)=>aD (c+1)/\a (c+1) b/\f (c+1) b<f c g) (R (vP (some (aM b))) g)):ρ 93 [φ a i j b k l c m n A d o p] w R:=rv Tryz.func93 ⟨[(3,[(13,(.one (.int .i64)))])],[],[],[]⟩ h
theorem wW(h:nn a λc=>cLi w (c.add 1) λd=>aD (d+1)/\nn a λc=>st1 w (c.add 1) (iI (d+1)) λc=>rE 182 [vS b i j] c λc d=>∃e,c=Value.string e/\∃(c:lP []),(∀f,drawn d f->∃(d:WP),d f/\nn a λg=>∃h,(∀a,d a->cL a (g.add 3) (Value.map h))/\aX Tryz.prog (Instr.lookup 188 (Value.map h) (Value.string e) false) f λf g=>∃h,f=iI h/\∃(f:WP),f g/\(∀a,f a->d a)/\bQ (0<h) (nn a λd=>∃h j k,(∀a,f a->cL a d (vS h j k))/\nn a λd=>∃k,(∀a,f a->cL a (d.add 3) (Value.map k))/\idx b i 0 2 λb=>∃d i,(∀a,f a->rA a b 2 [iI d,iI i])/\aX Tryz.prog (Instr.lookup 188 (Value.map k) (Value.string e) false) g λb g=>∃k,b=iI k/\∃(b:WP),b g/\(∀a,b a->f a)/\aD (k-1)/\idx h j (k-1) 2 λf=>∃h j k,(∀a,b a->cL a f (vS h j k))/\idx h j 0 2 λf=>∃h j,(∀a,b a->rA a f 2 [iI h,iI j])/\∃f,(∀a,b a->Sem.run Tryz.prog (qH BinOp.eql 193 (Operand.tmp 41) (Operand.tmp 44) (vG [iI h,iI j]) (vG [iI d,iI i])) a=Result.ok f a)/\∃b,f=vB b/\br b (nn a λa=>∃b,cL g (a.add 3) (Value.map b)/\aX Tryz.prog (Instr.lookup 188 (Value.map b) (Value.string e) false) g λa b=>∃c,a=iI c/\aD (c-1)/\R (iI (c-1)) b) (c g)) (c g))/\∀(_:ν) d,c d->nn a λc=>cLi d (c.add 2) λf=>aD (f+1)/\nn a λc=>st1 d (c.add 2) (iI (f+1)) λc=>nn a λd=>cLs c d λf g h=>new c (oC [vS b i j,vS none 0 0] 199) λb c=>rS (fX 74 (Array.mk [vS f g h,vS (some (aM b)) 1 1])) c λb c=>∃d f g,b=vS d f g/\nn a λb=>st1 c b (vS d f g) λb=>∀c,drawn b c->∃(b:WP),b c/\nn a λd=>∃f,(∀a,b a->cL a (d.add 3) (Value.map f))/\nn a λd=>∃g h i,(∀a,b a->cL a d (vS g h i))/\aX Tryz.prog (Instr.mapUpdate 188 (Value.map f) (Value.string e) (iI (h:Int))) c λ(_:Unit)(b:ahs)=>nn a λa=>∃c,cL b (a.add 3) (Value.map c)/\aX Tryz.prog (Instr.lookup 188 (Value.map c) (Value.string e) false) b λa b=>∃c,a=iI c/\aD (c-1)/\R (iI (c-1)) b):ρ 94 [.pointer a,vS b i j] w R:=rv Tryz.func94 ⟨[],[(5,[])],[],[]⟩ h
theorem vp(h:new w (Obj.map (Array.mk []) 0) λc d=>rEs 183 [vP a,vS b i j] d λe f g d=>τ [(14,aN)] λb g=>b 0 d/\∀(_:ν) d h,b d h->bQ (d<(f:Int)) (idx e f d 2 λe=>∃f i,rA h e 2 [iI f,iI i]/\new h (oC [iI 0,iI 0] 193) λe j=>bC j (aM e) [iI f,iI i] λf=>∃i j,rA f (aM e) 2 [iI i,iI j]/\rEi 184 [vP a,vG [iI i,iI j]] f λi f=>bQ (0<=i) (aX Tryz.prog (Instr.lookup 195 (Value.map (some c)) (iI i) false) f λa f=>∃j k l,a=vS j k l/\cLi f (aM e) λa=>cLi f (Addr.add (aM e) 1) λm=>aD (m+1)/\new f (oC [iI a,iI (m+1)] 193) λa e=>rS (fX 194 (Array.mk [vS j k l,vS (some (aM a)) 1 1])) e λa e=>∃f j k,a=vS f j k/\aX Tryz.prog (Instr.mapUpdate 195 (Value.map (some c)) (iI i) (vS f j k)) e λ(_:Unit)(a:ahs)=>aD (d+1)/\b (d+1) a/\g (d+1) a<g d h) (aD (d+1)/\b (d+1) f/\g (d+1) f<g d h)) (R (Value.map (some c)) h)):ρ 95 [.pointer a,vS b i j] w R:=rv Tryz.func95 ⟨[(3,[(14,(.one (.int .i64)))])],[],[],[]⟩ h
theorem L5(h:rE 187 [vS a i j,Value.func (Fn.func 188) (Array.mk []) (Array.mk [])] w λb c=>b=vU []/\rEs 192 [vS a i j] c λc d e b=>rEs 191 [vS c d e] b λc d e b=>R (vS c d e) b):ρ 97 [vS a i j] w R:=rv Tryz.func97 ⟨[],[],[],[]⟩ h
theorem jN(h:lV a i j none (some (i:Int)) (some (i:Int)) 2 λ(a:ahr)(b c:Nat)=>R (vS a b c) w):ρ 98 [vS a i j] w R:=rv Tryz.func98 ⟨[],[],[],[]⟩ h
theorem iO(h:lV a i j none (some (i:Int)) (some (i:Int)) 2 λ(a:ahr)(b c:Nat)=>R (vS a b c) w):ρ 99 [vS a i j] w R:=rv Tryz.func99 ⟨[],[],[],[]⟩ h
theorem Oj(h:τ [(3,lY),(8,aN)] λb c=>b none 0 0 0 w/\∀(_:ν) d e f g h,b d e f g h->bQ (g<(i:Int)) (idx a i g 2 λa=>∃i j,rA h a 2 [iI i,iI j]/\new h (oC [iI 0,iI 0] 193) λa k=>bC k (aM a) [iI i,iI j] λi=>cLi i (aM a) λj=>cLi i (Addr.add (aM a) 1) λk=>cLi i (Addr.add (aM a) 1) λl=>ns 8/\new i (oC [Value.int IntKind.u8 (IntKind.wrap IntKind.u8 j),Value.int IntKind.u8 (IntKind.wrap IntKind.u8 k),Value.int IntKind.u8 (IntKind.wrap IntKind.u8 (aZ IntKind.i64 l 8))] 5) λa i=>rS (fX 426 (Array.mk [vS d e f,vS (some (aM a)) 3 3])) i λa i=>∃j k l,a=vS j k l/\aD (g+1)/\b j k l (g+1) i/\c j k l (g+1) i<c d e f g h) (aX Tryz.prog (convert 426 9 (vS d e f)) h λa b=>∃c,a=Value.string c/\R (Value.string c) b)):ρ 182 [vS a i j] w R:=rv Tryz.func182 ⟨[(3,[(3,(.one .slice)),(8,(.one (.int .i64)))])],[],[],[]⟩ h
theorem vr(h:rEs 270 [vS b i j] w λd e f c=>new c (Obj.map (Array.mk []) 0) λb c=>τ [(5,lY),(7,aN)] λg h=>g d e f 0 c/\∀(_:ν) c d e f i,g c d e f i->bQ (f<(d:Int)) (idx c d f 2 λj=>∃k l,rA i j 2 [iI k,iI l]/\rEi 184 [vP a,vG [iI k,iI l]] i λl k=>bQ (l<0) (aD (f+1)/\g c d e (f+1) k/\h c d e (f+1) k<h c d e f i) (aX Tryz.prog (Instr.lookup 276 (Value.map (some b)) (iI l) false) k λj k=>∃m,j=iI m/\bQ (0<m) (aD (f+1)/\g c d e (f+1) k/\h c d e (f+1) k<h c d e f i) (aX Tryz.prog (Instr.lookup 276 (Value.map (some b)) (iI l) false) k λj k=>∃m,j=iI m/\aD (m+1)/\aX Tryz.prog (Instr.mapUpdate 276 (Value.map (some b)) (iI l) (iI (m+1))) k λ(_:Unit)(b:ahs)=>nn a λa=>∃j,cL b (a.add 5) (Value.map j)/\aX Tryz.prog (Instr.lookup 328 (Value.map j) (iI l) false) b λa b=>∃j k l,a=vS j k l/\τ [(5,lY),(45,aN)] λa l=>a c d e 0 b/\∀(_:ν) b m n o p,a b m n o p->bQ (o<(k:Int)) (idx j k o 1 λc=>cLi p c λd=>new p (oC [iI d,iI 0] 193) λc d=>rS (fX 194 (Array.mk [vS b m n,vS (some (aM c)) 1 1])) d λc d=>∃e f g,c=vS e f g/\aD (o+1)/\a e f g (o+1) d/\l e f g (o+1) d<l b m n o p) (aD (f+1)/\g b m n (f+1) p/\h b m n (f+1) p<h c d e f i)))) (rEs 97 [vS c d e] i λc d e b=>R (vS c d e) b)):ρ 183 [.pointer a,vS b i j] w R:=rv Tryz.func183 ⟨[(4,[(5,(.one .slice)),(7,(.one (.int .i64)))]),(10,[(5,(.one .slice)),(45,(.one (.int .i64)))])],[],[],[]⟩ h
theorem wY(h:new w (oC [iI A,iI B] 193) λb c=>∀d,drawn c d->∃(c:WP),c d/\nn a λa=>∃e f g,(∀b,c b->cL b (a.add 4) (vS e f g))/\∃a,(∀d,c d->cL d (aM b) (iI a))/\idx e f a 3 λa=>∃e f g,(∀b,c b->cL b (a.add 1) (vS e f g))/\cLi d (Addr.add (aM b) 1) λa=>br (a==(f:Int)) (R (iI (-1)) d) (cLi d (Addr.add (aM b) 1) λa=>idx e f a 1 λa=>cLi d a λb=>R (iI b) d)):ρ 184 [.pointer a,(.agg #[iI A,iI B])] w R:=rv Tryz.func184 ⟨[],[],[],[]⟩ h
theorem Fx(h:new w (oC [iI A,iI B] 193) λa b=>new b (oC [iI C,iI D] 193) λb c=>∀d,drawn c d->∃(c:WP),c d/\∃e,(∀b,c b->cL b (aM a) (iI e))/\∃f,(∀a,c a->cL a (aM b) (iI f))/\∃g,(∀b,c b->cL b (Addr.add (aM a) 1) (iI g))/\∃a,(∀d,c d->cL d (Addr.add (aM b) 1) (iI a))/\rEi 190 [iI e,iI f] d λe d=>c d/\rEi 190 [iI g,iI a] d λd b=>c b/\new b (oC [iI e,iI d] 3) λa b=>c b/\rEi 189 [vS (some (aM a)) 2 2] b λd b=>c b/\R (iI d) b):ρ 188 [(.agg #[iI A,iI B]),(.agg #[iI C,iI D])] w R:=rv Tryz.func188 ⟨[],[],[],[]⟩ h
theorem Fz(h:τ [(8,aN)] λb c=>b 0 w/\∀(_:ν) d e,b d e->bQ (d<(i:Int)) (idx a i d 1 λa=>∃f,World.cell? e a=some (iI f)/\br (f !=0) (R (iI f) e) (aD (d+1)/\b (d+1) e/\c (d+1) e<c d e)) (R (iI 0) e)):ρ 189 [vS a i j] w R:=rv Tryz.func189 ⟨[(3,[(8,(.one (.int .i64)))])],[],[],[]⟩ h
theorem w_(h:rEb 283 [iI A] w λc b=>rEb 283 [iI B] b λd b=>br c (br d (R (iI 0) b) (R (iI (-1)) b)) (br d (R (iI 1) b) (bQ (A<B) (R (iI (-1)) b) (bQ (B<A) (R (iI 1) b) (R (iI 0) b))))):ρ 190 [iI A,iI B] w R:=rv Tryz.func190 ⟨[],[],[],[]⟩ h
theorem jP(h:lV a i j none (some (i:Int)) (some (i:Int)) 2 λ(a:ahr)(b c:Nat)=>R (vS a b c) w):ρ 191 [vS a i j] w R:=rv Tryz.func191 ⟨[],[],[],[]⟩ h
theorem iw(h:bQ ((i:Int)<2) (R (vS a i j) w) (τ [(3,aN)] λb c=>b 1 w/\∀(_:ν) d e,b d e->bQ (d<(i:Int)) (∀f,drawn e f->∃(g:WP),g f/\idx a i d 2 λh=>∃k l,(∀a,g a->rowAt a h 0 2=some [iI k,iI l])/\aD (d-1)/\idx a i (d-1) 2 λh=>∃m n,(∀a,g a->rowAt a h 0 2=some [iI m,iI n])/\∃h,(∀a,g a->Sem.run Tryz.prog (qH BinOp.eql 193 (Operand.tmp 19) (Operand.tmp 24) (vG [iI k,iI l]) (vG [iI m,iI n])) a=Result.ok h a)/\∃g,h=vB g/\br g (lV a i j (some d) none none 2 λ(b:ahr)(c _:Nat)=>τ [(3,aN),(5,aN)] λe g=>e d 1 f/\∀(_:ν) d f h,e d f h->bQ (f<(c:Int)) (∀j,drawn h j->∃(k:WP),k j/\idx b c f 2 λl=>∃m n,(∀a,k a->rowAt a l 0 2=some [iI m,iI n])/\aD (f-1)/\idx b c (f-1) 2 λl=>∃o p,(∀a,k a->rowAt a l 0 2=some [iI o,iI p])/\∃l,(∀a,k a->Sem.run Tryz.prog (qH BinOp.neq 193 (Operand.tmp 38) (Operand.tmp 43) (vG [iI m,iI n]) (vG [iI o,iI p])) a=Result.ok l a)/\∃k,l=vB k/\br k (idx b c f 2 λb=>∃c k,rowAt j b 0 2=some [iI c,iI k]/\idx a i d 2 λa=>bC j a [iI c,iI k] λa=>aD (d+1)/\aD (f+1)/\e (d+1) (f+1) a/\g (d+1) (f+1) a<g d f h) (aD (f+1)/\e d (f+1) j/\g d (f+1) j<g d f h)) (lV a i j (some d) none none 2 λ(b:ahr)(c e:Nat)=>rS (Builtin.clear_ (Array.mk [194]) 0 (Array.mk [vS b c e])) h λ_ b=>lV a i j none (some d) none 2 λ(a:ahr)(c d:Nat)=>R (vS a c d) b)) (aD (d+1)/\b (d+1) f/\c (d+1) f<c d e)) (R (vS a i j) e))):ρ 192 [vS a i j] w R:=rv Tryz.func192 ⟨[(4,[(3,(.one (.int .i64)))]),(9,[(3,(.one (.int .i64))),(5,(.one (.int .i64)))])],[],[],[]⟩ h
theorem jn(h:br (Option.isNone a) (R (vS none 0 0) w) (new w (oC [] 193) λb c=>rS (fX 194 (Array.mk [vS (some (aM b)) 0 0,vS a i j])) c λa b=>∃c d e,a=vS c d e/\R (vS c d e) b)):ρ 270 [vS a i j] w R:=rv Tryz.func270 ⟨[],[],[],[]⟩ h
end
section
open Go.Proofs Go.Sort
instance:Inhabited au:=⟨⟨0,0⟩⟩
def eW(x:au):List Value:=[iI x.prod,iI x.dot]
def tv(xs:List au):List Value:=xs.flatMap eW
theorem L6(x:au)(xs:List au):tv (x::xs)=iI x.prod::iI x.dot::tv xs:=rfl
theorem jQ:∀xs:List au,(tv xs).length=xs.length*2
 |[]=>rfl
 |x::xs=>by rw[L6,agk,agk,jQ xs,agk];omega
theorem DI(xs ys:List au):tv (xs++ys)=tv xs++tv ys:=agh
theorem WI:∀(xs:List au)(t:Nat),(tv xs)[t]? =(xs[t/2]?).bind λx=>(eW x)[t%2]?
 |[],t=>by rfl
 |x::xs,0=>rfl
 |x::xs,1=>rfl
 |x::xs,t+2=>by
  rw[L6,ahp,ahp,WI xs t,show(t+2)/2=t/2+1 by omega,show(t+2)%2=t%2 by omega,ahp]
theorem L7(xs:List au):(flatK eW 2 xs.toArray).toList=tv xs:=by
 apply agq
 grind[WI,flatK,eW,get_flatK,Array.getElem?_eq_getElem,List.getElem?_eq_getElem,Array.getElem?_eq_none,List.getElem?_eq_none]
section
variable{w:ahs}{L:List aC}
theorem WJ{a:ahr}{l c:Nat}{xs:List au}(h:St w (own 2 a l c (tv xs)::L))(hl:0<l):
  ∃b off,a=some ⟨b,off,none⟩/\l=xs.length/\HoldsK eW 2 w b off xs.toArray/\b<w.heap.size/\
   (∀(m:Nat)(os:Array Obj)(d':Array au),d'.size=xs.length->St (sortWorldK eW 2 w b off m d' os) (own 2 a l c (tv d'.toList)::L)):=by
 rcases dq h with⟨_,Y,_⟩|⟨b,u,cs,J,rfl,hc,h1,Y,h3⟩
 ·omega
 ·have U:l=xs.length:=by grind[jQ]
  refine⟨b,u.length,rfl,U,?_,?_,?_⟩
  ·intro j V;have O:j<(tv xs).length:=by simp_all
   refine⟨?_,hc.frozen _ _⟩;rw[hc.cell,agf ω,agy,af5 O,<-L7,ag7,Array.getElem?_eq_getElem V,getElem!_pos _ j V];rfl
  ·obtain⟨e,h⟩:=jF.1 hc;exact(ag4.1 h.get).1
  ·intro m os d' hs;have W:=hc.sort (enc:=id) u.length m (flatK eW 2 d') os;have X:tv xs=(flatK eW 2 xs.toArray).toList.map id:=by simp[L7]
   have Z:(flatK eW 2 d').toList.map id=tv d'.toList:=by
    have:=L7 d'.toList
    simp_all
   rw[X,BT u (cs++J) (flatK eW 2 xs.toArray) (flatK eW 2 d') (by simp[hs]),Z] at W
   refine fj W ?_ ?_ h3
   ·simp_all[jQ]
   simp_all[jQ]
end
def vt(a b:Int):Int:=if a<b then-1 else if b<a then 1 else 0
def QT(x y:au):Int:=if vt x.prod y.prod=0 then vt x.dot y.dot else vt x.prod y.prod
theorem yq(x y:au):ltOf QT x y=decide (x.lt y):=by
 have h:QT x y<0↔x.lt y:=by grind[QT,vt,au.lt]
 simp_all[ltOf]
theorem afo:SWO (ltOf QT):=⟨λx=>by simp[yq,age,au.lt_irrefl],λx y z=>by rw[yq,yq,yq];simp only[aga];exact au.lt_trans,λx y z=>by grind[yq,decide_eq_false_iff_not,au.lt]⟩
end
section
open Go.V Go.Sort Go.Shelf
variable{w:ahs}{L:List aC}
theorem WK(a b:Int):rE yQ [iI a,iI b] w λv w'=>v=iI (vt a b)/\w'=w:=by
 have J:∀a:Int,∀w,rE BL [iI a] w λv w'=>v=vB false/\w'=w:=λa w=>oU ⟨σ,rfl⟩;refine w_ ((J a w).mono ?_);rintro _ _⟨rfl,rfl⟩;refine⟨_,rfl,(J b _).mono ?_⟩;rintro _ _⟨rfl,rfl⟩
 refine⟨_,rfl,ae (λh=>by cases h) λ_=>ae (λh=>by grind) λ_=>ae (λh=>?_) λh=>ae (λu=>?_) λu=>?_⟩
 ·have h:=afO h;unfold vt;simp_all
 ·have h:=afN h;have u:=afO u;unfold vt;simp_all
 ·have h:=afN h;have u:=afN u;unfold vt;grind
theorem afp{a:ahr}{x y:Int}(hx:aY (hp w) [x,y] a 2):rE Hg [vS a 2 2] w λv w'=>v=iI (if x=0 then y else x)/\w'=w:=by
 refine Fz ⟨λz w'=>∃i:Nat,z=i/\i<=2/\(0<i->x=0)/\(1<i->y=0)/\w'=w,λz _=>2-z.toNat,⟨0,rfl,ω,ω,ω,rfl⟩,?_⟩;rintro _ z Z⟨i,rfl,hi,h0,Y,U⟩;rw[U]
 refine ae (λJ=>?_) λJ=>?_
 ·have J:i<2:=by grind
  obtain⟨u,X,W,ha,V⟩:=hx.dS J
  refine ay ha J ⟨u,V _ sZZ,ae (λO=>?_) λO=>?_⟩
  ·grind
  ·have O:u=0:=by simp_all
   subst O
   refine⟨⟨ω,ω⟩,⟨i+1,rfl,J,λ_=>?_,λ_=>?_,rfl⟩,bY J⟩
   ·grind
   grind
 grind
theorem acA(x y:au)(w:ahs):ρ fm [.agg (eW x).toArray,.agg (eW y).toArray] w λv w'=>v=iI (QT x y)/\∃q os',w'=grow (w.drewN q) os':=by
 refine Fx ?_;intro V Z b1 e1;have h1:St Z (az V (eW x)::all w):=(ag (St.all w) λb w' h=>h:new w (oC [iI x.prod,iI x.dot] cE) λb w'=>St w' (az b (eW x)::all w)) V Z b1 e1;intro k2 w2 b2 e2;have h2:St w2 (az k2 (eW y)::az V (eW x)::all w):=(ag h1 λb w' h=>h:new Z (oC [iI y.prod,iI y.dot] cE) λb w'=>St w' (az b (eW y)::az V (eW x)::all w)) k2 w2 b2 e2;intro X Y;have h3:=h2.eq (gU Y);have r1:aj (hp X) (aM V) (eW x):=af 1 h3.l;have r2:aj (hp X) (aM k2) (eW y):=af 0 h3.l;refine⟨λu=>Gr X u,Gr.refl _,x.prod,λu s=>r1.cell0 s,y.prod,λu s=>r2.cell0 s,x.dot,λu s=>r1.cell s (j:=1) rfl,y.dot,λu s=>r2.cell s (j:=1) rfl,(WK _ _).mono ?_⟩;rintro _ _⟨rfl,rfl⟩;refine⟨_,rfl,Gr.refl _,(WK _ _).mono ?_⟩;rintro _ _⟨rfl,rfl⟩;refine⟨_,rfl,Gr.refl _,?_⟩;intro k3 J b3 O;have W:St J (az k3 [iI (vt x.prod y.prod),iI (vt x.dot y.dot)]::all _):=(ag (St.all _) λb w' h=>h:new _ (oC [iI (vt x.prod y.prod),iI (vt x.dot y.dot)] dU) λb w'=>St w' (az b [iI (vt x.prod y.prod),iI (vt x.dot y.dot)]::all _)) k3 J b3 O;have U:=W.aQ;refine⟨U,(afp (x:=vt x.prod y.prod) (y:=vt x.dot y.dot) (bp rfl (.inr ⟨_,rfl,af 0 W.l⟩))).mono ?_⟩;rintro _ _⟨rfl,rfl⟩;refine⟨_,rfl,U,rfl,1,#[oC [iI x.prod,iI x.dot] cE,oC [iI y.prod,iI y.dot] cE,oC [iI (vt x.prod y.prod),iI (vt x.dot y.dot)] dU],?_⟩;unfold drawn at Y;rw[O,Y,e2,e1];rfl
theorem Z4{blk off:Nat}{n:Nat}:CmpLays Tryz.prog fm #[] eW 2 QT blk off n w:=λm os J u x y=>by
 refine Calls.mono (acA x y _) ?_
 simp_all
theorem Ev.aeB(w:ahs)(blk off m:Nat)(dk:Array au)(os:Array Obj):Ev w (sortWorldK eW 2 w blk off m dk os):=Ev.sort (enc:=id) (blk:=blk) w off m (flatK eW 2 dk) os
theorem Z5{a:ahr}{l c:Nat}{xs:List au}(h:St w (own 2 a l c (tv xs)::L))(hb:l<4611686018427387904):
  rE iq [vS a l c,.func (.func fm) (Array.mk []) (Array.mk [])] w λv w'=>v=.tuple (Array.mk [])/\∃ys:List au,ys.Perm xs/\ys.Pairwise (λx y=>¬y.lt x)/\St w' (own 2 a l c (tv ys)::L):=by
 have X:=fO h;rw[jQ] at X
 by_cases hl:0<l
 ·obtain⟨b,U,rfl,J,hH,O,hk⟩:=WJ h hl;subst J;have eg:∀u w,(callFunc fm u).run Tryz.prog w=.ok (.enter fm u) w:=enters_of Fv (by rfl) rfl;refine Calls.mono (AnyQ.slices_SortFunc abN 2 LP LQ eW (λ_=>rfl) (λx v Y=>by simp[eW] at Y;rcases Y with rfl|rfl<;>rfl) QT afo fm #[] b U c xs.toArray w eg Z4 hH O ω) ?_;rintro e w'⟨rfl,V,n,os,hP,hS,rfl⟩;have J:V.size=xs.length:=by simpa using hP.1
  refine⟨_,rfl,Ev.aeB w b U n _ os,rfl,V.toList,?_,?_,hk n os V J⟩
  ·have:=hP.2.2
   grind[Array.extract_size]
  ·rw[agU];intro i j hi Z W;rw[ahq] at hi Z;have:=hS i j (afL _) W (by simp_all)
   simp_all[yq,getElem!_pos]
 ·have e:l=0:=ω
  subst e;have ex:xs=[]:=afY ω;subst ex;refine Calls.mono (AnyF.slices_SortFunc_none abN a c _ w) ?_;rintro e w'⟨rfl,rfl⟩;exact⟨_,rfl,Ev.refl _,rfl,[],.refl _,.nil,h⟩
theorem SE{a:ahr}{l c:Nat}{zs:List Int}(h:St w (own 1 a l c (iv zs)::L))(hb:l<4611686018427387904):
  rE su [vS a l c] w λv w'=>v=.tuple (Array.mk [])/\St w' (own 1 a l c (iv (zs.mergeSort λx y=>decide (x<=y)))::L):=by
 rcases Nat.eq_zero_or_pos l with rfl|hl
 ·have V:zs=[]:=afY (by have:=fO h;simp_all[iv]);subst V;refine Calls.mono (Any.slices_Sort_int_none abO a c w) ?_;rintro e w'⟨rfl,rfl⟩;exact⟨_,rfl,Ev.refl _,rfl,by simp_all⟩
 obtain⟨b,O,rfl,J,U,u,W⟩:=Z0 (d:=zs.toArray) (enc:=Value.int .i64) (by simpa[iv] using h) hl;simp only[List.size_toArray] at J;subst J;refine Calls.mono (Any.slices_Sort_int abO b O c zs w U u hb) ?_;rintro e w'⟨rfl,n,os,rfl⟩;refine⟨_,rfl,Ev.sort (enc:=Value.int .i64) w O n _ os,rfl,?_⟩;have:=W n os (zs.mergeSort λx y=>decide (x<=y)).toArray σ;have e:(zs.mergeSort λx y=>decide (x<=y)).toArray.toList.map (Value.int .i64)=iv (zs.mergeSort λx y=>decide (x<=y)):=by rfl
 rw[e] at this;exact this
end
section
variable{P:Program}{Ty:TypeId->Option dp}{w:ahs}{L:List aC}
theorem KE(hT:dY P Ty){t e ty:TypeId}{i:dp}{z:Value}(hk:ai Ty t=.slice e)(hi:Ty e=some i)(hz:i.zero=some z)(hzs:(cellsOf z).length=i.size)(h1:∀v∈cellsOf z,aK v=true)(h0:0<i.size)
  {a:ahr} {l c kk c2:Nat} {us:List Value} (h:St w (own i.size a l c us::L)) (hkl:kk<=l):
  aX P (Builtin.clear_ (Array.mk [t]) ty (Array.mk [vS (fE a kk c i.size) (l-kk) c2])) w λv w'=>∃us':List Value,us'.take (kk*i.size)=us.take (kk*i.size)/\St w' (own i.size a l c us'::L):=by
 obtain⟨d,Z,W⟩:=dv hT hk σ;rw[fh W] at Z;obtain⟨a4,d2,ha⟩:=rU hT hi;have J:(zeroValue e).run P w=.ok z w:=mF ha.inf (by rw[<-ha.zero,hz]);have X:=fO h
 by_cases a7:kk<l
 ·have U:0<us.length:=by rw[X];exact Nat.mul_pos ω h0
  obtain⟨V,rfl⟩:=eE h U;have a8:=bI h
  have O:fE (some V) kk c i.size=some (V.add (kk*i.size)):=by
   unfold fE;rw[afV ω,bg];rfl
  obtain⟨m,hm⟩:∃m,l-kk=m+1:=⟨l-kk-1,ω⟩;have a6:z.cells=⟨cellsOf z⟩:=by rw[dP]
  have Y:(Builtin.zeroCells z.cells (m+1)).toList=(List.replicate (m+1) (cellsOf z)).flatten:=by grind[Builtin.zeroCells,GR,cellsOf,List.size_toArray]
  have a9:∀n,(List.replicate n (cellsOf z)).flatten.length=n*i.size:=λn=>by simp_all
  have a5:(m+1)*i.size=l*i.size-kk*i.size:=by grind[Nat.sub_mul]
  have a0:kk*i.size<=l*i.size:=ag2 _ hkl
  have u:=Ge (i:=kk*i.size) (vs:=(List.replicate (m+1) (cellsOf z)).flatten) (k:=λw'=>St w' (own i.size (some V) l c (us.take (kk*i.size)++(List.replicate (m+1) (cellsOf z)).flatten++us.drop (kk*i.size+(List.replicate (m+1) (cellsOf z)).flatten.length))::L)) h rfl
   (by simp_all) (λv hv=>by simp_all) (by grind) λw' h=>h
  refine⟨.tuple #[],_,?_,Ev.du w _ _ _ _ (Ev.refl _),_,?_,u.2 _ rfl⟩
  ·unfold Builtin.clear_;rw[O,hm];simp only;simp[Sem.run_bind,bm Z,J,Y,kH _ _ _ _ u.1]
  simp_all
 ·have e:l-kk=0:=ω
  rw[e];refine⟨.tuple #[],w,?_,Ev.refl _,us,rfl,h⟩;unfold Builtin.clear_;cases hs:fE a kk c i.size<;>simp[bm Z]
end
section
variable{w:ahs}{L:List aC}{xs:List au}{a:ahr}{l c:Nat}
theorem WL{h:Hp}{ad:Addr}(r:aj h ad (tv xs)){i:Nat}{x:au}(hx:xs[i]? =some x):aj h (ad.add (eV i 2)) (eW x):=λj v u=>by
 have J:j<2:=(afK.1 u).1
 rw[bg,add_add]
 refine r (i*2+j) v ?_
 grind[WI]
theorem L8{h:Hp}(hl:xs.length=l)(r:ec a (tv xs) h):aY h xs a l:=by
 refine⟨hl,λi x u=>?_⟩
 rcases r with e|⟨J,rfl,hc⟩
 ·have O:=congrArg List.length e
  grind[jQ,List.length_nil,List.getElem?_eq_some_iff]
 ·exact⟨J,_,rfl,WL hc u,rfl⟩
theorem BW(h:St w (own 2 a l c (tv xs)::L)):aY (hp w) xs a l:=by
 have hl:=fO h;rw[jQ] at hl;obtain⟨u,s,ha⟩:=h.first;exact(L8 ω (bK ha)).mono s
theorem kU{h:Hp}(r:aY h xs a l){i:Nat}(hi:i<l):∃x ad,xs[i]? =some x/\a=some ad/\∀u:ahs,sub h (hp u)->rowAt u (ad.add (eV i 2)) 0 2=some [iI x.prod,iI x.dot]:=by
 obtain⟨x,ad,vs,O,ha,J,rfl⟩:=r.get hi;exact⟨x,ad,O,ha,λu s=>J.at s rfl⟩
theorem acB{i:Nat}{x:au}(hi:i<xs.length):(tv xs).take (i*2)++[iI x.prod,iI x.dot]++(tv xs).drop (i*2+2)=tv (xs.set i x):=by
 rw[ahc,afZ hi];have J:tv xs=tv (xs.take i)++tv (xs.drop i):=by rw[<-DI,af9]
 have u:tv xs=tv (xs.take (i+1))++tv (xs.drop (i+1)):=by rw[<-DI,af9]
 have O:(tv (xs.take i)).length=i*2:=by grind[jQ,List.length_take]
 have l2:(tv (xs.take (i+1))).length=i*2+2:=by grind[jQ,List.length_take]
 grind[tv,List.take_left',List.drop_left',DI,L6]
theorem Z6(xs:List au)(k:Nat):(tv xs).take (k*2)=tv (xs.take k):=by
 by_cases h:k<=xs.length
 ·grind[tv,DI,List.take_append_drop,List.take_left',jQ,List.length_take]
 grind[List.take_of_length_le,jQ]
theorem cj{sz:Nat}{vs:List Value}(h:St w (own sz a l c vs::L)):St w (own sz (fE a 0 l sz) l l vs::L):=by
 rcases dq h with⟨rfl,rfl,rfl,rfl⟩|⟨b,u,cs,post,rfl,hc,J,O,U⟩
 ·simp_all[fE]
 ·have e:fE (some (⟨b,u.length,none⟩:Addr)) 0 l sz=some ⟨b,u.length,none⟩:=by simp[fE,bg,add_lit]
  rw[e];exact fj (cs:=[]) (post:=cs++post) (by simp_all) J (by simp_all) (afR _)
theorem b9{a:ahr}{l c sz:Nat}{k:ahr->Nat->Nat->Prop}(h1:l<=c)(hk:k (fE a 0 l sz) l l):lV a l c none (some (l:Int)) (some (l:Int)) sz k:=
 ⟨.inr ⟨σ,σ,by simp_all⟩,.inr ⟨σ,σ⟩,⟨σ,σ⟩,by simpa using hk⟩
end
abbrev NdI(l:List au):Prop:=l.Pairwise λx y=>¬y.lt x
theorem NdI.at{xs:List au}(h:NdI xs){i j:Nat}{x y:au}(hij:i<j)(hi:xs[i]? =some x)(hj:xs[j]? =some y):¬y.lt x:=by
 obtain⟨J,rfl⟩:=afK.1 hi;obtain⟨u,rfl⟩:=afK.1 hj
 simp_all[agU]
theorem SF{xs:List au}{n:Nat}{x:au}(h1:xs[n]? =some x)(h2:xs[n+1]? =some x):lay (xs.take (n+2))=lay (xs.take (n+1)):=
 QL (n_ _) λy=>by
  rw[mB,afM (i:=n+1),h2,agQ,afT,af_]
  refine⟨.inl,λh=>h.elim id ?_⟩
  rintro rfl
  exact afI (i:=n) (by simp_all)
theorem SG{xs:List au}(hs:NdI xs){n:Nat}{x z:au}(h1:xs[n]? =some z)(h2:xs[n+1]? =some x)(hne:x≠z):lay (xs.take (n+2))=lay (xs.take (n+1))++[x]:=by
 refine QL ?_ λy=>by grind[mB,List.take_add_one,Option.toList_some]
 rw[nZ,List.pairwise_append];refine⟨n_ _,σ,λy U u O=>?_⟩;rw[af_] at O;subst O;rw[mB] at U;obtain⟨i,hi⟩:=agb U;have J:i<n+1:=by grind
 rw[agH,afZ J] at hi;have V:z.lt u:=(au.WA hne).resolve_left (hs.at (Nat.lt_succ_self n) h1 h2)
 by_cases e:i=n
 ·simp_all
 ·have W:=hs.at (show i<n by omega) hi h1
  grind[au.lt_trans,au.WA]
theorem WM{xs:List au}(hs:NdI xs){n:Nat}{x z:au}(h:nZ (xs.take (n+1)))(h1:xs[n]? =some z)(h2:xs[n+1]? =some x)(hne:x≠z):nZ (xs.take (n+2)):=by grind[SG,wQ,List.take_add_one,n_]
section
variable{w:ahs}{L:List aC}
theorem KF(w:ahs)(x y:au):(Op.equalIn (9998+1+1) cE (.agg ⟨eW x⟩) (.agg ⟨eW y⟩)).run Tryz.prog w=.ok (decide (x=y)) w:=by
 have ht:Tryz.prog.underlying cE=some (.struct (Tryz.prog.fieldsOf cE)):=by rfl
 have hi:Tryz.prog.underlying dU=some (.int .i64):=bL;have hf:(Tryz.prog.fieldsOf cE).toList=[{ name:="Prod",type:=dU,offset:=0,embedded:=false,tag:="",pkgPath:="",byteOffset:=0 },{ name:="Dot",type:=dU,offset:=1,embedded:=false,tag:="",pkgPath:="",byteOffset:=8 }]:=by rfl
 have U:∀(v u:Value)(w:ahs),(part dU #[v,u] 0).run Tryz.prog w=.ok v w:=λv u w=>by rfl
 have W:∀(v u:Value)(w:ahs),(part dU #[v,u] 1).run Tryz.prog w=.ok u w:=λv u w=>by rfl
 have J:∀n m d w,(Op.equalIn (d+1) dU (iI n) (iI m)).run Tryz.prog w=.ok (n==m) w:=λn m d w=>run_equalIn_int w d _ _ _ _ _ hi
 have e:decide (x=y)=(x.prod==y.prod&&x.dot==y.dot):=by
  rw[agM];simp only[aga,afX,beq_iff_eq];exact⟨λh=>by simp_all,λ⟨V,O⟩=>au.ext' V O⟩
 unfold eW;rw[run_equalIn_agg w (9998+1) cE _ _ ht LO,hf,e];unfold Op.eqFields;simp only[ne_eq,String.reduceEq,not_false_eq_true,if_true,Sem.run_bind,U,Result.andThen_ok,J]
 cases hq:(x.prod==y.prod)
 ·simp
 ·unfold Op.eqFields;simp only[ne_eq,String.reduceEq,not_false_eq_true,if_true,Sem.run_bind,W,Result.andThen_ok,J,Bool.not_true,Bool.false_eq_true,if_false]
  cases hn:(x.dot==y.dot)
  ·simp
  rfl
theorem QU(w:ahs)(xo yo:Operand)(x y:au):Sem.run Tryz.prog (qH .eql cE xo yo (.agg ⟨eW x⟩) (.agg ⟨eW y⟩)) w=.ok (vB (decide (x=y))) w:=by
 unfold qH;rw[Sem.run_bind,run_eqGuard_agg w _ _ _ _ _ _ BK];simp only[Result.andThen_ok];rw[run_eql_struct]
 show((Op.equalIn (9998+1+1) cE (.agg ⟨eW x⟩) (.agg ⟨eW y⟩)).run Tryz.prog w).andThen _=_
 simp[KF]
theorem acC(w:ahs)(xo yo:Operand)(x y:au):Sem.run Tryz.prog (qH .neq cE xo yo (.agg ⟨eW x⟩) (.agg ⟨eW y⟩)) w=.ok (vB (!decide (x=y))) w:=by
 unfold qH;rw[Sem.run_bind,run_eqGuard_agg w _ _ _ _ _ _ BK];simp only[Result.andThen_ok];rw[run_neq_struct]
 show((Op.equalIn (9998+1+1) cE (.agg ⟨eW x⟩) (.agg ⟨eW y⟩)).run Tryz.prog w).andThen _=_
 simp[KF]
end
theorem SH{xs:List au}{n:Nat}(h:n<=1):nZ (xs.take n):=by
 match n,h with
 |0,_=>simp
 |1,_=>cases xs<;>simp
theorem WN{xs ys:List au}(h:ys.Perm xs):lay ys=lay xs:=QL (n_ _) λy=>by grind[mB]
section
variable{w:ahs}{L:List aC}{a:ahr}{l c:Nat}{xs:List au}
theorem Un(h:St w (own 2 a l c (tv xs)::L))(hs:NdI xs)(hb:l<4611686018427387904):
  ρ 192 [vS a l c] w λv w'=>∃a' c',v=.slice a' (lay xs).length c'/\St w' (own 2 a' (lay xs).length c' (tv (lay xs))::L):=by
 have aa:=fO h;rw[jQ] at aa;have U:=bI h;have hl:xs.length=l:=ω
 refine iw (ae (λh1=>?_) λh1=>?_)
 ·have h1:l<2:=by grind
  have e:lay xs=xs:=wQ (by have:=SH (xs:=xs) (n:=l) ω;grind)
  grind
 have h1:2<=l:=by grind
 refine⟨λz w'=>∃n:Nat,z=((n+1:Nat):Int)/\n+1<=l/\nZ (xs.take (n+1))/\St w' (own 2 a l c (tv xs)::L),λz _=>l-z.toNat,⟨0,rfl,ω,SH (afR _),h⟩,?_⟩;clear h;rintro _ z w1⟨n,rfl,hn,hS,h⟩;refine ae (λO=>?_) λO=>?_
 rotate_left
 ·have O:l=n+1:=by grind
  have e:lay xs=xs:=wQ (by grind)
  grind
 have O:n+1<l:=by grind
 intro w2 hd;have h:=h.eq (aP hd);have X:=BW h;obtain⟨x,ad,hx,rfl,Z⟩:=kU X O;obtain⟨z,b3,hz,e2,cz⟩:=kU X (by omega:n<l);cases e2;have e1:((n+1:Nat):Int)-1=(n:Int):=ω
 rw[e1];refine⟨λu=>Gr w2 u,Gr.refl _,aJ rfl O ⟨_,_,Z,⟨ω,ω⟩,aJ rfl ω ⟨_,_,cz,_,λu _=>QU u _ _ x z,_,rfl,ae (λJ=>?_) λJ=>?_⟩⟩⟩
 rotate_left
 ·have J:x≠z:=afN J;exact⟨⟨ω,ω⟩,⟨n+1,σ,O,WM hs hS hz hx J,h⟩,bY O⟩
 have J:x=z:=afO J;subst J;refine dw ω U ?_
 refine⟨λz y w'=>∃(k t:Nat)(us:List au),z=(k:Int)/\y=((t+1:Nat):Int)/\n+1<=k/\k<=n+1+t/\n+1+t+1<=l/\us.length=l/\us.drop k=xs.drop k/\us.take k=lay (xs.take (n+1+t+1))/\St w' (own 2 (some ad) l c (tv us)::L),λ_ y _=>l-y.toNat,
  ⟨n+1,0,xs,rfl,rfl,afR _,afR _,ω,hl,rfl,?_,h⟩,?_⟩
 ·simp_all[SF,wQ]
 clear h X Z cz;rintro _ _ _ w3⟨k,t,us,rfl,rfl,a5,av,ht,al,V,a0,h⟩;have am:(tv us).length=l*2:=by grind[jQ]
 refine ae (λJ=>?_) λJ=>?_
 rotate_left
 ·have J:l=n+1+t+1:=by grind
  rw[<-J,af3 (show xs.length<=l by omega)] at a0;have b1:(lay xs).length=k:=by grind
  have hc:=KE (ty:=0) (c2:=c-k) aT (rfl:ai Ty Jz=.slice _) (rfl:Ty cE=some _) rfl rfl (λv Y=>by rcases af6.1 Y with rfl|Y;rfl;rw[af_] at Y;subst Y;rfl) σ h (show k<=l by omega);refine dw ω U (hc.mono ?_);rintro _ w4⟨vs,Y,h⟩;refine ir ω ?_;have h:=qz h (k:=k) ω;have e:vs.take (k*2)=tv (lay xs):=Y.trans (by simp_all[Z6])
  grind
 have J:t+1<l-(n+1):=by grind
 intro w4 hd;have h:=h.eq (aP hd);have X:=(BW h).drop (k:=n+1) (m:=c) ω U
 have same:∀j,k<=j->us[j]? =xs[j]?:=λj hj=>by
  have:=congrArg (λl=>l[j-k]?) V;simp only[agG] at this
  simp_all
 obtain⟨W,b4,a7,e3,Z⟩:=kU X J;obtain⟨z2,b2,a9,e4,cz⟩:=kU X (by omega:t<l-(n+1));rw[e3] at e4;cases e4;rw[agG,same _ ω] at a7 a9;have e1:((t+1:Nat):Int)-1=(t:Int):=ω
 have a4:xs[n+1+t+1]? =some W:=ω
 have a8:xs[n+1+t]? =some z2:=ω
 rw[e1];refine⟨λu=>Gr w4 u,Gr.refl _,aJ e3 J ⟨_,_,Z,⟨ω,ω⟩,aJ e3 ω ⟨_,_,cz,_,λu _=>acC u _ _ W z2,_,rfl,ae (λh4=>?_) λh4=>?_⟩⟩⟩
 rotate_left
 ·have h4:W=z2:=by simp_all
  subst h4;refine⟨⟨ω,ω⟩,⟨k,t+1,us,rfl,σ,a5,ω,ω,al,V,?_,h⟩,bY ω⟩
  grind[SF]
 have h4:W≠z2:=by simp_all
 refine aJ e3 J ⟨_,_,Z _ (Gr.refl _),aJ rfl ω ?_⟩;rw[bg];refine Ge (i:=k*2) h rfl (by grind) (by simp[aK]) σ λw5 h=>?_;rw[show(k*2+[iI W.prod,iI W.dot].length)=k*2+2 from rfl,acB ω] at h
 refine⟨⟨ω,ω⟩,⟨ω,ω⟩,⟨k+1,t+1,us.set k W,σ,σ,ω,ω,ω,by simp_all,?_,?_,h⟩,bY ω⟩
 ·rw[List.drop_set_of_lt ω,<-List.drop_drop (i:=1),V,List.drop_drop]
 ·have a6:k<us.length:=ω
  rw[show n+1+(t+1)+1=n+1+t+2 by omega,SG hs a8 a4 h4,<-a0,afM,List.getElem?_set_self a6,List.take_set_of_le (afR _)];rfl
theorem WO(h:St w (own 2 a l c (tv xs)::L))(hb:l<4611686018427387904):
  ρ 97 [vS a l c] w λv w'=>∃a',v=.slice a' (lay xs).length (lay xs).length/\St w' (own 2 a' (lay xs).length (lay xs).length (tv (lay xs))::L):=by
 refine L5 ((Z5 h hb).mono ?_);rintro _ O⟨rfl,ys,hp,hn,h⟩;refine⟨rfl,(Un h hn hb).mono ?_⟩;rintro _ J⟨a2,c2,rfl,h⟩;have u:=bI h;refine⟨_,_,_,rfl,jP (b9 u ?_)⟩;have h:=cj h;rw[WN hp] at h ⊢
 grind
end
namespace cP
inductive Rc (E:Nat->List Nat):Nat->Nat->Prop
 |refl (a:Nat):Rc E a a
 |step {a b c:Nat}:b∈E a->Rc E b c->Rc E a c
theorem Rc.trans{E:Nat->List Nat}{a b c:Nat}(h:Rc E a b):Rc E b c->Rc E a c:=by
 induction h with
 |refl=>simp
 |step h _ ih=>exactλk=>.step h (ih k)
theorem Rc.one{E:Nat->List Nat}{a b:Nat}(h:b∈E a):Rc E a b:=.step h (.refl b)
def Good(E:Nat->List Nat)(gs:List (List Nat)):Prop:=
 gs.flatten.Nodup/\∀g1 g g2,gs=g1++g::g2->g≠[]/\(∀a∈g,∀b∈g,Rc E a b)/\∀a∈g,∀b∈E a,b∈g\/b∈g1.flatten
theorem Good.nil(E:Nat->List Nat):Good E []:=⟨σ,λg1 g g2 h=>by simp at h⟩
theorem Good.snoc{E:Nat->List Nat}{gs:List (List Nat)}{g:List Nat}(h:Good E gs)(hn:g≠[])(hd:g.Nodup)(hx:∀a∈g,a∉gs.flatten)
  (hr:∀a∈g,∀b∈g,Rc E a b) (he:∀a∈g,∀b∈E a,b∈g\/b∈gs.flatten):Good E (gs++[g]):=by
 refine⟨?_,?_⟩
 ·rw[List.flatten_append,agw];refine⟨h.1,by simp_all,?_⟩
  grind
 ·intro g1 J g2 e
  rcases List.eq_nil_or_concat g2 with rfl|⟨g3,x,rfl⟩
  ·obtain⟨rfl,u⟩:=List.append_inj' e rfl
   grind
  ·rw[List.concat_eq_append,<-List.cons_append,<-af0] at e;obtain⟨O,u⟩:=List.append_inj' e rfl;exact h.2 g1 J g3 O
theorem Ol{gs:List (List Nat)}(h:gs.flatten.Nodup){g1 g2:List (List Nat)}{g:List Nat}(e:gs=g1++g::g2){a:Nat}(ha:a∈g):a∉g1.flatten/\a∉g2.flatten:=by grind
abbrev Sc:=Nat×Nat×List Nat
def aS:List Sc->List Nat
 |[]=>[]
 |(n,_,r)::t=>aS t++n::r
structure Sec(E:Nat->List Nat)(low:Nat->Nat)(op:List Nat)(D:Nat->Prop)(b n k:Nat)(r:List Nat):Prop where
 le:k<=(E n).length
 top:low n<=b+1
 lo:∀v∈r,low n<=low v
 pos:∀v∈n::r,0<low v
 at_:∀v∈r,∀i,op[i]? =some v->low v<=i
 rc:∀v∈r,Rc E n v
 to:∀v∈n::r,∃u,op[low v-1]? =some u/\Rc E v u
 ed:∀v∈r,∀m∈E v,D m\/∃i,op[i]? =some m/\low n<=i+1
 en:∀j m,j<k->(E n)[j]? =some m->D m\/∃i,op[i]? =some m/\low n<=i+1
def OK(E:Nat->List Nat)(low:Nat->Nat)(op:List Nat)(D:Nat->Prop):List Sc->Prop
 |[]=>True
 |(n,k,r)::t=>Sec E low op D (aS t).length n k r/\(∀u k' r' t',t=(u,k',r')::t'->Rc E u n)/\OK E low op D t
theorem cV{t:List Sc}{n k:Nat}{r:List Nat}:(aS ((n,k,r)::t)).length=(aS t).length+1+r.length:=by grind[aS]
theorem OK.mono{E:Nat->List Nat}{low low':Nat->Nat}{op op':List Nat}{D D':Nat->Prop}:∀(t:List Sc),OK E low op D t->
  (∀v∈aS t,low' v=low v)->(∀i v:Nat,op[i]? =some v->op'[i]? =some v\/D' v)->(∀i v:Nat,op'[i]? =some v->v∈aS t->op[i]? =some v)->(∀i:Nat,i<(aS t).length->op'[i]? =op[i]?)->op.Nodup->(∀v:Nat,D v->D' v)->
  (∀i:Nat,i<(aS t).length->op[i]? =(aS t)[i]?)->OK E low' op' D' t
 |[],_,_,_,_,_,_,_,_=>trivial
 |(n,k,r)::t,⟨s,hu,ht⟩,hl,ho,hb,hi,nd,hD,hp=>by
  have hn:low' n=low n:=hl n (by simp[aS])
  have hr:∀v∈r,low' v=low v:=λv hv=>hl v (by grind[aS])
  have hnr:∀v∈n::r,low' v=low v:=λv hv=>hl v (by simp_all[aS])
  refine⟨⟨s.le,by rw[hn];exact s.top,λv hv=>by rw[hn,hr v hv];exact s.lo v hv,λv hv=>by rw[hnr v hv];exact s.pos v hv,?_,s.rc,?_,?_,?_⟩,hu,?_⟩
  ·intro v hv i h
   rw[hr v hv]
   exact s.at_ v hv i (hb i v h (by grind[aS]))
  ·intro v hv
   obtain⟨u,h1,h2⟩:=s.to v hv
   refine⟨u,?_,h2⟩
   rw[hnr v hv,hi _ ?_,h1]
   rw[cV]
   have hp':=s.pos v hv
   rcases af6.1 hv with rfl|hv
   ·have:=s.top;omega
   ·have hv2:v∈aS ((n,k,r)::t):=by grind[aS]
    obtain⟨i,hi1,hi2⟩:=List.getElem_of_mem hv2
    have:=s.at_ v hv i (by simp_all)
    grind[cV]
  ·intro v hv m hm
   rcases s.ed v hv m hm with h|⟨i,h1,h2⟩
   ·simp_all
   grind
  ·intro j m hj hm
   rcases s.en j m hj hm with h|⟨i,h1,h2⟩
   ·simp_all
   grind
  ·refine OK.mono t ht (λv hv=>hl v (by simp[aS,hv])) ho (λi v h hv=>hb i v h (by simp[aS,hv])) (λi h=>hi i (by rw[cV];omega)) nd hD ?_
   intro i h
   rw[hp i (by rw[cV];omega)]
   simp only[aS]
   rw[af5 h]
def Gf(f:Nat->Nat)(i x:Nat):Nat->Nat:=λj=>if j=i then x else f j
theorem bQ(f:Nat->Nat)(i x:Nat):Gf f i x i=x:=by simp[Gf]
theorem ee{f:Nat->Nat}{i x j:Nat}(h:j≠i):Gf f i x j=f j:=by grind[Gf]
structure Inv(E:Nat->List Nat)(N:Nat)(low:Nat->Nat)(S:List Sc)(gs:List (List Nat)):Prop where
 ok:OK E low (aS S) (·∈gs.flatten) S
 nd:(aS S++gs.flatten).Nodup
 lt:∀v∈aS S++gs.flatten,v<N
 un:∀v,v<N->(low v=0↔v∉aS S++gs.flatten)
 dn:∀v∈gs.flatten,low v=N+1
 good:Good E gs
theorem WQ:∀(l m:List Nat),l.Nodup->(∀v∈l,v∈m)->l.length<=m.length
 |[],_,_,_=>afL _
 |a::l,m,h,hs=>by
  have ha:=hs a σ
  rw[agB] at h
  have:=WQ l (m.erase a) h.2 (λv hv=>(List.mem_erase_of_ne (λe:v=a=>h.1 (e▸hv))).2 (hs v (by grind)))
  grind
theorem WR{l:List Nat}{N:Nat}(h1:l.Nodup)(h2:∀v∈l,v<N):l.length<=N:=by
 have:=WQ l (List.range N) h1 (λv u=>agd.2 (h2 v u))
 simp_all
variable{E:Nat->List Nat}{N:Nat}{low:Nat->Nat}{S t:List Sc}{gs:List (List Nat)}{D:Nat->Prop}{op:List Nat}
theorem Om{l:List Nat}(h:l.Nodup){i j:Nat}{v:Nat}(h1:l[i]? =some v)(h2:l[j]? =some v):i=j:=by grind[List.getElem?_eq_some_iff,List.getElem_inj]
theorem OK.to:∀(S:List Sc),OK E low op D S->∀v∈aS S,0<low v/\∃u,op[low v-1]? =some u/\Rc E v u
 |[],_,v,hv=>by simp_all[aS]
 |(n,k,r)::t,⟨s,_,h⟩,v,hv=>by
  simp only[aS,afT] at hv
  rcases hv with hv|hv
  ·exact OK.to t h v hv
  ·exact⟨s.pos v hv,s.to v hv⟩
theorem OK.abP:∀(S:List Sc),OK E low op D S->op.Nodup->(∀i:Nat,i<(aS S).length->op[i]? =(aS S)[i]?)->∀v∈aS S,∀i:Nat,op[i]? =some v->low v<=i+1
 |[],_,_,_,v,hv=>by simp_all[aS]
 |(n,k,r)::t,⟨s,_,h⟩,nd,hp,v,hv=>by
  intro i hi
  simp only[aS,afT] at hv
  rcases hv with hv|hv
  ·refine OK.abP t h nd (λj hj=>?_) v hv i hi
   grind[cV,aS,List.getElem?_append_left]
  ·rcases af6.1 hv with rfl|hv
   ·have h1:op[(aS t).length]? =some v:=by simp_all[aS]
    have:=Om nd hi h1
    have:=s.top
    omega
   ·have:=s.at_ v hv i hi
    omega
theorem Inv.ndo(h:Inv E N low S gs):(aS S).Nodup:=(agw.1 h.nd).1
theorem Inv.len(h:Inv E N low S gs):(aS S).length<=N:=WR h.ndo λv u=>h.lt v (by grind)
theorem Inv.seen(h:Inv E N low S gs){v:Nat}(hv:v<N)(hl:low v≠0):v∈aS S\/v∈gs.flatten:=by
 have:=mt (h.un v hv).2 hl
 grind
theorem Inv.root(h:Inv E N low [] gs){m:Nat}(hm:m<N)(h0:low m=0):Inv E N (Gf low m 1) [(m,0,[])] gs:=by
 have O:=(h.un m hm).1 h0;simp only[aS,agY] at O;have J:∀v,v∈gs.flatten->v≠m:=λv u e=>O (e▸u)
 refine⟨⟨⟨σ,by simp[aS,bQ],σ,?_,σ,σ,?_,σ,σ⟩,σ,trivial⟩,?_,?_,?_,?_,h.good⟩
 ·simp[bQ]
 ·intro v u;simp only[af_] at u;subst u;exact⟨v,by simp[bQ,aS],.refl v⟩
 ·have:=h.nd
  simp_all[aS]
 ·intro v u;simp only[aS,agY,List.singleton_append,af6] at u
  rcases u with rfl|u
  ·omega
  ·exact h.lt v (by simp_all)
 ·intro v u;simp only[aS,agY,List.singleton_append,af6]
  by_cases e:v=m
  ·simp_all[bQ]
  ·rw[ee e,h.un v u];grind[aS]
 ·intro v u;rw[ee (J v u)];exact h.dn v u
theorem Inv.push{n k m:Nat}{r:List Nat}(h:Inv E N low ((n,k,r)::t) gs)(hk:(E n)[k]? =some m)(hm:m<N)(h0:low m=0):
  Inv E N (Gf low m ((aS ((n,k,r)::t)).length+1)) ((m,0,[])::(n,k+1,r)::t) gs:=by
 have X:=(h.un m hm).1 h0;have O:m∉aS ((n,k,r)::t):=λe=>X (by simp_all);have U:m∉gs.flatten:=λe=>X (by simp_all);have W:aS ((m,0,[])::(n,k+1,r)::t)=aS ((n,k,r)::t)++[m]:=rfl
 have J:=OK.mono (low':=Gf low m ((aS ((n,k,r)::t)).length+1)) (op':=aS ((n,k,r)::t)++[m]) (D':=(·∈gs.flatten)) _ h.ok
  (λv u=>ee λe=>O (e▸u))
  (λi v hi=>Or.inl (by grind))
  (λi v hi u=>by grind)
  (λi hi=>af5 hi) h.ndo (λ_ h=>h) (λ_ _=>rfl)
 obtain⟨s,Y,ht⟩:=J;have V:k<(E n).length:=(afK.1 hk).1
 refine⟨⟨⟨σ,?_,σ,?_,σ,σ,?_,σ,σ⟩,?_,⟨⟨V,s.top,s.lo,s.pos,s.at_,s.rc,s.to,s.ed,?_⟩,Y,ht⟩⟩,?_,?_,?_,?_,h.good⟩
 ·rw[bQ];exact afR _
 ·simp[bQ]
 ·intro v u;simp only[af_] at u;subst u;refine⟨v,?_,.refl v⟩
  simp_all[bQ]
 ·grind[Rc.one,List.mem_of_getElem?]
 ·intro j v Z u
  by_cases e:j=k
  ·subst e;rw[hk] at u;cases u;refine Or.inr ⟨(aS ((n,j,r)::t)).length,by simp_all,?_⟩;have h1:=s.top
   grind[aS,cV]
  ·exact s.en j v ω u
 ·rw[W];have:=h.nd
  grind
 ·intro v u;rw[W] at u;simp only[afT,af_] at u
  rcases u with(u|rfl)|u
  ·exact h.lt v (by simp_all)
  ·omega
  ·exact h.lt v (by simp_all)
 ·intro v u;rw[W]
  by_cases e:v=m
  ·simp_all[bQ]
  ·rw[ee e,h.un v u];grind
 ·intro v u;have e:v≠m:=λe=>U (e▸u);rw[ee e];exact h.dn v u
theorem Inv.acD{n k:Nat}{r:List Nat}(h:Inv E N low ((n,k,r)::t) gs):n∉aS t/\n∉r/\n∉gs.flatten/\(∀v∈r,v∉aS t):=by
 have:=h.nd;simp only[aS,agw,agB,afT,af6] at this
 grind
theorem Inv.look{n k m:Nat}{r:List Nat}(h:Inv E N low ((n,k,r)::t) gs)(hk:(E n)[k]? =some m)(hm:m<N)(h0:low m≠0):
  Inv E N (Gf low n (min (low n) (low m))) ((n,k+1,r)::t) gs:=by
 obtain⟨x1,x2,x3,x4⟩:=h.acD;obtain⟨s,hu,ht⟩:=h.ok;have a4:k<(E n).length:=(afK.1 hk).1;have hr:∀v∈r,v≠n:=λv J e=>x2 (e▸J);have Y:=h.len;rw[cV] at Y;have a5:=s.top;have a7:=s.pos n σ;have O:Gf low n (min (low n) (low m)) n<=low n:=by grind[bQ]
 have a0:m∈gs.flatten->min (low n) (low m)=low n:=λe=>by rw[h.dn m e];omega
 have V:=OK.mono (low':=Gf low n (min (low n) (low m))) (op':=aS ((n,k,r)::t)) (D':=(·∈gs.flatten)) _ ht
  (λv J=>ee λe=>x1 (e▸J)) (λi v hi=>Or.inl hi) (λi v hi _=>hi) (λi hi=>rfl) h.ndo (λ_ h=>h)
  (λi hi=>by simp_all[aS,af5])
 refine⟨⟨⟨a4,ω,?_,?_,?_,s.rc,?_,?_,?_⟩,hu,V⟩,h.nd,h.lt,?_,?_,h.good⟩
 ·intro v J;rw[ee (hr v J)];exact agn O (s.lo v J)
 ·intro v J
  by_cases e:v=n
  ·grind[bQ]
  ·rw[ee e];exact s.pos v J
 ·intro v J;rw[ee (hr v J)];exact s.at_ v J
 ·intro v J
  by_cases e:v=n
  ·subst e;rw[bQ]
   by_cases hc:low v<=low m
   ·rw[ahk hc];exact s.to v σ
   ·rw[Nat.min_eq_right ω]
    rcases h.seen hm h0 with W|W
    ·obtain⟨_,u,U,X⟩:=OK.to _ h.ok m W;exact⟨u,U,.step (afI hk) X⟩
    grind
  ·rw[ee e];exact s.to v J
 ·intro v J x hx
  rcases s.ed v J x hx with U|⟨i,U,X⟩
  ·simp_all
  ·exact Or.inr ⟨i,U,agn O X⟩
 ·intro j x hj hx
  by_cases e:j=k
  ·subst e;rw[hk] at hx;cases hx
   rcases h.seen hm h0 with W|W
   ·obtain⟨i,a6,a8⟩:=List.getElem_of_mem W;have Z:(aS ((n,j,r)::t))[i]? =some m:=by simp_all
    refine Or.inr ⟨i,Z,?_⟩;have:=OK.abP _ h.ok h.ndo (λ_ _=>rfl) m W i Z
    grind[bQ]
   simp_all
  ·rcases s.en j x ω hx with U|⟨i,U,X⟩
   ·simp_all
   ·exact Or.inr ⟨i,U,agn O X⟩
 ·intro v J
  by_cases e:v=n
  ·grind[bQ,aS,absurd]
  ·rw[ee e];exact h.un v J
 ·intro v J;have e:v≠n:=λe=>x3 (e▸J);rw[ee e];exact h.dn v J
theorem Inv.merge{n k u ku:Nat}{r ru:List Nat}(h:Inv E N low ((n,k,r)::(u,ku,ru)::t) gs)(hk:k=(E n).length)(hne:low n≠(aS ((u,ku,ru)::t)).length+1):
  Inv E N (Gf low u (min (low u) (low n))) ((u,ku,ru++n::r)::t) gs:=by
 obtain⟨x1,x2,x3,x4⟩:=h.acD;obtain⟨s,hu,s2,a0,ht⟩:=h.ok;have ho:aS ((u,ku,ru++n::r)::t)=aS ((n,k,r)::(u,ku,ru)::t):=by simp[aS]
 have V:u∉aS t/\u∉ru/\u≠n/\u∉r/\u∉gs.flatten:=by
  have:=h.nd;simp only[aS,agw,agB,afT,af6] at this
  grind
 obtain⟨y1,y2,y3,y4,y5⟩:=V;have W:Gf low u (min (low u) (low n)) u<=low u:=by grind[bQ]
 have Z:Gf low u (min (low u) (low n)) u<=low n:=by grind[bQ]
 have O:∀v,v≠u->Gf low u (min (low u) (low n)) v=low v:=λv e=>ee e;have hn:Gf low u (min (low u) (low n)) n=low n:=O n (Ne.symm y3);have hr:∀v∈r,Gf low u (min (low u) (low n)) v=low v:=λv J=>O v λe=>y4 (e▸J);have V:∀v∈ru,Gf low u (min (low u) (low n)) v=low v:=λv J=>O v λe=>y2 (e▸J);have a7:=s.pos n σ;have a6:=s2.pos u σ
 have Y:=OK.mono (low':=Gf low u (min (low u) (low n))) (op':=aS ((n,k,r)::(u,ku,ru)::t)) (D':=(·∈gs.flatten)) _ ht
  (λv J=>ee λe=>y1 (e▸J)) (λi v hi=>Or.inl hi) (λi v hi _=>hi) (λi hi=>rfl) h.ndo (λ_ h=>h)
  (λi hi=>by simp_all[aS,af5])
 have X:(aS ((n,k,r)::(u,ku,ru)::t))[(aS ((u,ku,ru)::t)).length]? =some n:=by simp[aS]
 refine⟨?_,by rw[ho];exact h.nd,by rw[ho];exact h.lt,?_,?_,h.good⟩
 ·rw[ho]
  refine⟨⟨s2.le,agn W s2.top,?_,?_,?_,?_,?_,?_,?_⟩,a0,Y⟩
  ·intro v J;simp only[afT,af6] at J
   rcases J with J|rfl|J
   ·rw[V v J];exact agn W (s2.lo v J)
   ·omega
   ·rw[hr v J];exact agn Z (s.lo v J)
  ·intro v J
   by_cases e:v=u
   ·grind[bQ]
   ·rw[O v e];simp only[afT,af6] at J
    rcases J with J|J|rfl|J
    ·omega
    ·exact s2.pos v (by grind)
    ·omega
    ·exact s.pos v (by grind)
  ·intro v J i hi;simp only[afT,af6] at J
   rcases J with J|rfl|J
   ·rw[V v J];exact s2.at_ v J i hi
   ·rw[hn];have:=Om h.ndo hi X;have:=s.top;omega
   ·rw[hr v J];exact s.at_ v J i hi
  ·intro v J;have U:=hu u ku ru t rfl;simp only[afT,af6] at J
   rcases J with J|rfl|J
   ·exact s2.rc v J
   ·omega
   ·exact U.trans (s.rc v J)
  ·intro v J
   by_cases e:v=u
   ·subst e;rw[bQ]
    by_cases hc:low v<=low n
    ·rw[ahk hc];exact s2.to v σ
    ·rw[Nat.min_eq_right ω];obtain⟨x,U,h2⟩:=s.to n σ;exact⟨x,U,(hu v ku ru t rfl).trans h2⟩
   ·rw[O v e];simp only[afT,af6] at J
    rcases J with J|J|rfl|J
    ·omega
    ·exact s2.to v (by grind)
    ·exact s.to v σ
    ·exact s.to v (by grind)
  ·intro v J x hx;simp only[afT,af6] at J
   rcases J with J|rfl|J
   ·rcases s2.ed v J x hx with U|⟨i,U,h2⟩
    ·simp_all
    grind
   ·obtain⟨j,a4,a5⟩:=List.getElem_of_mem hx
    rcases s.en j x ω (by simp_all) with U|⟨i,U,h2⟩
    ·simp_all
    grind
   ·rcases s.ed v J x hx with U|⟨i,U,h2⟩
    ·simp_all
    grind
  ·intro j x hj hx
   rcases s2.en j x hj hx with U|⟨i,U,h2⟩
   ·simp_all
   grind
 ·intro v J;rw[ho]
  by_cases e:v=u
  ·grind[bQ,aS,absurd]
  ·rw[O v e];exact h.un v J
 ·intro v J;rw[O v λe=>y5 (e▸J)];exact h.dn v J
variable{E:Nat->List Nat}{N:Nat}{low:Nat->Nat}{S t:List Sc}{gs:List (List Nat)}
theorem Inv.afq{n k u ku:Nat}{r ru:List Nat}(h:Inv E N low ((n,k,r)::(u,ku,ru)::t) gs)(hl:low n=(aS ((u,ku,ru)::t)).length+1):min (low u) (low n)=low u:=by
 obtain⟨s,O,s2,J,ht⟩:=h.ok;have:=s2.top
 grind[cV]
theorem Inv.pop{n k:Nat}{r:List Nat}(h:Inv E N low ((n,k,r)::t) gs)(hk:k=(E n).length)(hl:low n=(aS t).length+1):
  Inv E N (λv=>if v∈n::r then N+1 else low v) t (gs++[n::r]):=by
 obtain⟨s,hu,ht⟩:=h.ok;have X:=h.nd;simp only[aS,agw,afT] at X;obtain⟨⟨W,Y,h3⟩,h4,h5⟩:=X;have a0:aS ((n,k,r)::t)=aS t++n::r:=rfl;have a4:∀(i m:Nat),(aS ((n,k,r)::t))[i]? =some m->low n<=i+1->m∈n::r:=by grind
 have back:∀p:Nat,∀i:Nat,i<p->∀v:Nat,v∈n::r->(aS ((n,k,r)::t))[i]? =some v->Rc E v n:=by
  intro p
  induction p with
  |zero=>omega
  |succ p ih=>
   intro i hi v J Z
   rcases af6.1 J with rfl|V
   ·exact .refl _
   ·have a1:=s.at_ v V i Z;have a2:=s.lo v V;obtain⟨u,b1,b2⟩:=s.to v J;have a3:=s.pos v J;exact b2.trans (ih (low v-1) ω u (a4 _ u b1 ω) b1)
 have back:∀v∈n::r,Rc E v n:=by
  intro v J;obtain⟨i,a8,aa⟩:=List.getElem_of_mem (show v∈aS ((n,k,r)::t) by simp_all)
  grind
 have a5:∀v∈n::r,Rc E n v:=by
  intro v J
  rcases af6.1 J with rfl|V
  ·simp_all
  ·exact s.rc v V
 have hg:Good E (gs++[n::r]):=by
  refine h.good.snoc σ Y (λa ha hb=>h5 a (Or.inr ha) a hb rfl) (λa ha b hb=>(back a ha).trans (a5 b hb)) ?_;intro a ha b hb
  rcases af6.1 ha with rfl|V
  ·obtain⟨j,a7,a9⟩:=List.getElem_of_mem hb
   rcases s.en j b ω (by simp_all) with W|⟨i,W,Y⟩
   ·simp_all
   grind
  ·rcases s.ed a V b hb with W|⟨i,W,Y⟩
   ·simp_all
   grind
 have a6:∀v∈aS t,v∉n::r:=λv J e=>h3 v J v e rfl;have O:∀v,v∈(gs++[n::r]).flatten↔v∈gs.flatten\/v∈n::r:=σ
 have U:=OK.mono (low':=λv=>if v∈n::r then N+1 else low v) (op':=aS t) (D':=(·∈(gs++[n::r]).flatten)) _ ht
  (λv J=>by simp_all)
  (λi v hi=>by grind)
  (λi v hi _=>by grind)
  (λi hi=>by grind) h.ndo (λv J=>(O v).2 (Or.inl J))
  (λi hi=>by grind)
 refine⟨U,?_,?_,?_,?_,hg⟩
 ·rw[agw];refine⟨W,hg.1,?_⟩
  grind
 ·intro v J;rw[afT,O] at J;refine h.lt v ?_
  grind
 ·intro v J;rw[afT,O]
  by_cases e:v∈n::r
  ·grind
  ·simp only[afV e];rw[h.un v J,a0,afT,afT]
   grind
 ·intro v J
  rcases(O v).1 J with J|J
  ·by_cases e:v∈n::r
   ·grind
   ·simp only[afV e];exact h.dn v J
  grind
theorem Inv.start(E:Nat->List Nat)(N:Nat):Inv E N (λ_=>0) [] []:=⟨trivial,by simp[aS],by simp[aS],by simp[aS],σ,Good.nil E⟩
def todo(E:Nat->List Nat)(N:Nat)(low:Nat->Nat)(S:List Sc):Nat:=
 ((List.range N).map λv=>if low v=0 then(E v).length+2 else 0).sum+(S.map λs=>(E s.1).length+1-s.2.1).sum
theorem acE{l:List Nat}{f g:Nat->Nat}(h:∀v∈l,f v<=g v):(l.map f).sum<=(l.map g).sum:=by
 induction l with
 |nil=>simp
 |cons a l ih=>
  grind
theorem acF{l:List Nat}{f g:Nat->Nat}(h:∀v∈l,f v<=g v){a d:Nat}(ha:a∈l)(hd:f a+d<=g a):(l.map f).sum+d<=(l.map g).sum:=by
 induction l with
 |nil=>simp_all
 |cons b l ih=>
  simp only[agv,List.sum_cons]
  rcases af6.1 ha with rfl|ha
  ·have:=acE (l:=l) λv u=>h v (by grind);omega
  grind
theorem Uo{n k m:Nat}{r:List Nat}(h:Inv E N low ((n,k,r)::t) gs)(hk:(E n)[k]? =some m)(hm:m<N)(h0:low m=0)(x:Nat)(hx:x≠0):
  todo E N (Gf low m x) ((m,0,[])::(n,k+1,r)::t)<todo E N low ((n,k,r)::t):=by
 have u:k<(E n).length:=(afK.1 hk).1
 have:=acF (l:=List.range N) (f:=λv=>if Gf low m x v=0 then(E v).length+2 else 0) (g:=λv=>if low v=0 then(E v).length+2 else 0) (a:=m) (d:=(E m).length+2)
  (λv _=>by
   by_cases e:v=m
   ·grind
   simp_all[ee]) (agd.2 hm) (by simp_all[bQ])
 grind[todo]
theorem DJ{low':Nat->Nat}(h:∀v,v<N->(low' v=0↔low v=0)):((List.range N).map λv=>if low' v=0 then(E v).length+2 else 0).sum=((List.range N).map λv=>if low v=0 then(E v).length+2 else 0).sum:=by simp_all[agV]
end cP
section
variable{a b c d:ahr}{i j k l m n o p:Nat}{A:Int}{w:ahs}{R:Value->WP}
theorem JF(h:new w (ψ a i j b k l c m n A d o p) λa b=>χ b (aM a) λc=>rE 100 [c] b λb c=>∃d e f g,b=vU [vS d e f,iI g]/\br (g !=0) (R (vU [vS none 0 0,iI g]) c) (χ c (aM a) λb=>rE 101 [b] c λb c=>∃f g h i,b=vU [vS f g h,iI i]/\br (i !=0) (R (vU [vS none 0 0,iI i]) c) (τ [(7,lY),(31,aN)] λb h=>b none 0 0 0 c/\∀(_:ν) c i j k l,b c i j k l->bQ (k<(g:Int)) (idx f g k 3 λf=>∃g m n o p,rA l f 3 [iI g,iI m,vS n o p]/\new l (oC [iI 0,iI 0,vS none 0 0] 212) λf q=>bC q (aM f) [iI g,iI m,vS n o p] λg=>cLs g (aM a) λm n o=>rEp 102 [iI (n:Int),vS none 0 0] g λm g=>cLs g (Addr.add (aM f) 2) λa n o=>τ [(42,aN)] λo p=>o 0 g/\∀(_:ν) g q,o g q->bQ (g<(n:Int)) (idx a n g 1 λa=>cLi q a λb=>idx d e b 1 λa=>cLs q a λb c d=>rEi 103 [vP m,vS b c d] q λc b=>aD (g+1)/\o (g+1) b/\p (g+1) b<p g q) (∀a,drawn q a->∃(d:WP),d a/\∃e,(∀a,d a->cL a (aM f) (iI e))/\∃g,(∀a,d a->cL a (Addr.add (aM f) 1) (iI g))/\rEs 89 [vP m] a λm n o f=>d f/\new f (oC [iI e,iI g,vS m n o] 216) λa e=>d e/\rS (fX 100 (Array.mk [vS c i j,vS (some (aM a)) 1 1])) e λa e=>∃f g m,a=vS f g m/\d e/\aD (k+1)/\b f g m (k+1) e/\h f g m (k+1) e<h c i j k l)) (rEs 104 [vS c i j] l λc d e b=>R (vU [vS c d e,iI 0]) b)))):ρ 42 [φ a i j b k l c m n A d o p] w R:=rv Tryz.func42 ⟨[(9,[(7,(.one .slice)),(31,(.one (.int .i64)))]),(13,[(42,(.one (.int .i64)))])],[],[],[]⟩ h
theorem Aq(h:new w (ψ a i j b k l c m n A d o p) λa b=>∀c,drawn b c->∃(b:WP),b c/\∃d e f g h i j k l m n o p,(∀c,b c->rA c (aM a) 5 [vS d e f,vS g h i,vS j k l,iI m,vS n o p])/\rEs 193 [] c λq r s c=>∃(a:WP),a c/\(∀c,a c->b c)/\idx q r 1 2 λb=>∃q r s t,(∀c,a c->rA c b 2 [Value.func (Fn.func q) (Array.mk []) (Array.mk r),Value.func (Fn.func s) (Array.mk []) (Array.mk t)])/\rE 194 [vG [Value.func (Fn.func q) (Array.mk []) (Array.mk r),Value.func (Fn.func s) (Array.mk []) (Array.mk t)],vG [vS d e f,vS g h i,vS j k l,iI m,vS n o p]] c λb c=>∃d e f g,b=vU [vS d e f,iI g]/\a c/\R (vU [vS d e f,iI g]) c):ρ 100 [φ a i j b k l c m n A d o p] w R:=rv Tryz.func100 ⟨[],[],[],[]⟩ h
theorem jS(h:lV a i j none (some (i:Int)) (some (i:Int)) 3 λ(a:ahr)(b c:Nat)=>R (vS a b c) w):ρ 104 [vS a i j] w R:=rv Tryz.func104 ⟨[],[],[],[]⟩ h
theorem Au  {w:ahs}{R:Value->WP}(h:new w (oC [Value.func (Fn.func 284) (Array.mk []) (Array.mk []),Value.func (Fn.func 285) (Array.mk []) (Array.mk []),Value.func (Fn.func 286) (Array.mk []) (Array.mk []),Value.func (Fn.func 287) (Array.mk []) (Array.mk [])] 340) λa b=>R (vS (some (aM a)) 2 2) b):ρ 193 [] w R:=rv Tryz.func193 ⟨[],[],[],[]⟩ h
theorem qQ{F:FuncId}{G:List Value}{H:FuncId}{I:List Value}(h:new w (oC [Value.func (Fn.func F) (Array.mk []) (Array.mk G),Value.func (Fn.func H) (Array.mk []) (Array.mk I)] 340) λe f=>new f (ψ a i j b k l c m n A d o p) λa b=>∃c d,cL b (aM e) (Value.func (Fn.func c) (Array.mk []) (Array.mk d))/\χ b (aM a) λf=>oN (Proofs.YtaoaemnefghnbaaGreatDoor.Fn c) (rE c (f::d) b λb c=>∃d f g h,b=vU [vS d f g,iI h]/\br (h !=0) (R (vU [vS none 0 0,iI h]) c) (∃b h,cL c (Addr.add (aM e) 1) (Value.func (Fn.func b) (Array.mk []) (Array.mk h))/\χ c (aM a) λa=>oN (Proofs.YtaoaemnefghnbaaGreatDoor.Fn b) (rE b (a::h) c λa b=>∃c e h i,a=vU [vS c e h,iI i]/\br (i !=0) (R (vU [vS none 0 0,iI i]) b) (rE 288 [vS c e h,vS d f g] b λa b=>∃c d e f,a=vU [vS c d e,iI f]/\R (vU [vS c d e,iI f]) b))))):ρ 194 [(.agg #[(.func (.func F) #[] ⟨G⟩),(.func (.func H) #[] ⟨I⟩)]),φ a i j b k l c m n A d o p] w R:=rv Tryz.func194 ⟨[],[],[],[]⟩ h
abbrev xa:FuncId:=286
theorem DN(h:new w (ψ a i j b k l c m n A d o p) λa b=>∀c,drawn b c->∃(b:WP),b c/\∃d e f g h i j k l m n o p,(∀c,b c->rA c (aM a) 5 [vS d e f,vS g h i,vS j k l,iI m,vS n o p])/\rEs 193 [] c λq r s c=>∃(a:WP),a c/\(∀c,a c->b c)/\idx q r 0 2 λb=>∃q r s t,(∀c,a c->rA c b 2 [Value.func (Fn.func q) (Array.mk []) (Array.mk r),Value.func (Fn.func s) (Array.mk []) (Array.mk t)])/\rE 194 [vG [Value.func (Fn.func q) (Array.mk []) (Array.mk r),Value.func (Fn.func s) (Array.mk []) (Array.mk t)],vG [vS d e f,vS g h i,vS j k l,iI m,vS n o p]] c λb c=>∃d e f g,b=vU [vS d e f,iI g]/\a c/\R (vU [vS d e f,iI g]) c):ρ 286 [φ a i j b k l c m n A d o p] w R:=rv Tryz.func286 ⟨[],[],[],[]⟩ h
theorem BZ(h:new w (oC [vS a i j] 71) λa c=>new c (oC [vS b k l] 71) λb c=>∃(d:lP [(19,Bw)]),(∃e f g,World.cell? c (aM a)=some (vS e f g)/\rEb 345 [vS e f g] c λf e=>br (!f) (d true e) (∃c f g,World.cell? e (aM b)=some (vS c f g)/\∃b c g,World.cell? e (aM a)=some (vS b c g)/\d ((f:Int) !=(c:Int)) e))/\∀(_:ν) c e,d c e->br c (R (vU [vS none 0 0,iI 1]) e) (∃c d f,World.cell? e (aM b)=some (vS c d f)/\τ [(22,aN)] λf g=>f 0 e/\∀(_:ν) e h,f e h->bQ (e<(d:Int)) (idx c d e 1 λa=>∃b c d,World.cell? h a=some (vS b c d)/\rEb 126 [vS b c d,Value.func (Fn.func 346) (Array.mk []) (Array.mk [])] h λc b=>br c (R (vU [vS none 0 0,iI 1]) b) (aD (e+1)/\f (e+1) b/\g (e+1) b<g e h)) (∃c d e,World.cell? h (aM a)=some (vS c d e)/\vd (d:Int) (d:Int) 8/\new h (Obj.cells (Array.mk (iX (Int.toNat (d:Int)) [vP none])) 178) λc e=>new e (oC [vS none 0 0] 179) λe f=>st1 f (aM e) (vS (some (aM c)) (Int.toNat (d:Int)) (Int.toNat (d:Int))) λc=>∃d f g,World.cell? c (aM a)=some (vS d f g)/\vd (f:Int) (f:Int) 24/\new c (Obj.cells (Array.mk (iX (Int.toNat (f:Int)) [vS none 0 0])) 24) λc d=>new d (oC [vS none 0 0] 71) λd g=>st1 g (aM d) (vS (some (aM c)) (Int.toNat (f:Int)) (Int.toNat (f:Int))) λc=>∃f g h,World.cell? c (aM a)=some (vS f g h)/\rE 347 [vS f g h,Value.func (Fn.func 348) (Array.mk []) (Array.mk [vP (some (aM e)),vP (some (aM b)),vP (some (aM a)),vP (some (aM d))])] c λa b=>a=vU []/\∃a c e,World.cell? b (aM d)=some (vS a c e)/\R (vU [vS a c e,iI 0]) b))):ρ 288 [vS a i j,vS b k l] w R:=rv Tryz.func288 ⟨[(4,[(22,(.one (.int .i64)))])],[(2,[(19,(.one .bool))])],[],[]⟩ h
theorem B5(h:new w (oC [vS a i j] 71) λa b=>∃c d e,World.cell? b (aM a)=some (vS c d e)/\rEb 380 [vS c d e,Value.func (Fn.func 381) (Array.mk []) (Array.mk [vP (some (aM a))])] b λc b=>R (vB !c) b):ρ 345 [vS a i j] w R:=rv Tryz.func345 ⟨[],[],[],[]⟩ h
abbrev Av:FuncId:=346
theorem xc(h:bQ (A<0) (R (vB true) w) (R (vB (decide (1024<=A))) w)):ρ 346 [iI A] w R:=rv Tryz.func346 ⟨[],[],[],[]⟩ h
theorem DP{a:ahr}{b c:Nat}{d:FuncId}{e:List Value}{w:ahs}{R:Value->WP}(h:vd (b:Int) (b:Int) 8/\new w (Obj.cells (Array.mk (iX (Int.toNat (b:Int)) [iI 0])) 3) λc f=>new f (oC [vS none 0 0] 24) λf g=>st1 g (aM f) (vS (some (aM c)) (Int.toNat (b:Int)) (Int.toNat (b:Int))) λc=>aD ((b:Int)+1)/\new c (oC [vS none 0 0] 24) λc g=>new g (oC [vS none 0 0] 511) λg h=>τ [(26,aN)] λi j=>i 0 h/\∀(_:ν) h k,i h k->bQ (h<(b:Int)) (∃l m n,World.cell? k (aM f)=some (vS l m n)/\idx l m h 1 λl=>∃m,World.cell? k l=some (iI m)/\bQ (0<m) (aD (h+1)/\i (h+1) k/\j (h+1) k<j h k) (new k (Obj.map (Array.mk []) 0) λl m=>∃n o p,World.cell? m (aM c)=some (vS n o p)/\aD ((o:Int)+1)/\aX Tryz.prog (Instr.mapUpdate 276 (Value.map (some l)) (iI h) (iI ((o:Int)+1))) m λ(_:Unit)(m:ahs)=>rE 383 [iI h,vP (some (aM c)),vP (some (aM f)),vP (some (aM g))] m λm n=>m=vU []/\τ [] λm o=>m n/\∀(_:ν) n,m n->∃p q r,World.cell? n (aM g)=some (vS p q r)/\bQ (0<(q:Int)) (∃h i j,World.cell? n (aM g)=some (vS h i j)/\∃j k p,World.cell? n (aM g)=some (vS j k p)/\aD ((k:Int)-1)/\idx h i ((k:Int)-1) 2 λh=>τ [] λi j=>i n/\∀(_:ν) k,i k->∀p,drawn k p->∃(q:WP),q p/\∃r,(∀a,q a->World.cell? a (h.add 1)=some (iI r))/\∃s,(∀a,q a->World.cell? a h=some (iI s))/\idx a b s 1 λs=>∃t u v,(∀a,q a->World.cell? a s=some (vS t u v))/\bQ (r<(u:Int)) (∀d,drawn p d->∃(e:WP),e d/\∃p,(∀a,e a->World.cell? a h=some (iI p))/\idx a b p 1 λa=>∃b p q,(∀c,e c->World.cell? c a=some (vS b p q))/\∃a,(∀b,e b->World.cell? b (h.add 1)=some (iI a))/\idx b p a 1 λa=>∃b,(∀c,e c->World.cell? c a=some (iI b))/\∃a,World.cell? d (h.add 1)=some (iI a)/\aD (a+1)/\st1 d (h.add 1) (iI (a+1)) λa=>∃d e p,World.cell? a (aM f)=some (vS d e p)/\idx d e b 1 λd=>∃e,World.cell? a d=some (iI e)/\br (e==0) (∃d e h,World.cell? a (aM c)=some (vS d e h)/\aD ((e:Int)+1)/\aX Tryz.prog (Instr.mapUpdate 276 (Value.map (some l)) (iI b) (iI ((e:Int)+1))) a λ(_:Unit)(a:ahs)=>rE 383 [iI b,vP (some (aM c)),vP (some (aM f)),vP (some (aM g))] a λa b=>a=vU []/\m b/\o b<o n) (∀c,drawn a c->∃(a:WP),a c/\∃d e g,(∀b,a b->World.cell? b (aM f)=some (vS d e g))/\∃g,(∀b,a b->World.cell? b h=some (iI g))/\∃l m n,(∀b,a b->World.cell? b (aM f)=some (vS l m n))/\∃n,(∀b,a b->World.cell? b h=some (iI n))/\idx l m n 1 λh=>∃l,(∀b,a b->World.cell? b h=some (iI l))/\∃h m n,(∀b,a b->World.cell? b (aM f)=some (vS h m n))/\idx h m b 1 λb=>∃f,(∀c,a c->World.cell? c b=some (iI f))/\idx d e g 1 λa=>st1 c a (iI (if f<l then f else l)) λa=>i a/\j a<j k)) (∃a,World.cell? p h=some (iI a)/\∃h i j,World.cell? p (aM g)=some (vS h i j)/\∃k q r,World.cell? p (aM g)=some (vS k q r)/\aD ((q:Int)-1)/\lV h i j none (some ((q:Int)-1)) none 2 λ(h:ahr)(i j:Nat)=>st1 p (aM g) (vS h i j) λh=>∃(i:lP []),(∃b c d,World.cell? h (aM g)=some (vS b c d)/\bQ (0<(c:Int)) (∃b c d,World.cell? h (aM g)=some (vS b c d)/\∃d e j,World.cell? h (aM g)=some (vS d e j)/\aD ((e:Int)-1)/\idx b c ((e:Int)-1) 2 λb=>∃c,World.cell? h b=some (iI c)/\∀b,drawn h b->∃(d:WP),d b/\∃e g h,(∀a,d a->World.cell? a (aM f)=some (vS e g h))/\∃h j k,(∀a,d a->World.cell? a (aM f)=some (vS h j k))/\idx h j c 1 λh=>∃j,(∀a,d a->World.cell? a h=some (iI j))/\∃h k l,(∀a,d a->World.cell? a (aM f)=some (vS h k l))/\idx h k a 1 λa=>∃f,(∀b,d b->World.cell? b a=some (iI f))/\idx e g c 1 λa=>st1 b a (iI (if f<j then f else j)) λa=>i a) (i h))/\∀(_:ν) g,i g->∀h,drawn g h->∃(g:WP),g h/\∃i j k,(∀a,g a->World.cell? a (aM f)=some (vS i j k))/\idx i j a 1 λi=>∃j,(∀a,g a->World.cell? a i=some (iI j))/\aX Tryz.prog (Instr.lookup 276 (Value.map (some l)) (iI a) false) h λh i=>∃k,h=iI k/\g i/\br (j==k) (∃g h j,World.cell? i (aM c)=some (vS g h j)/\aX Tryz.prog (Instr.lookup 276 (Value.map (some l)) (iI a) false) i λi k=>∃p,i=iI p/\aD (p-1)/\lV g h j (some (p-1)) none none 1 λ(g:ahr)(h i:Nat)=>rEs 115 [vS g h i] k λi j k h=>∃g p q,World.cell? h (aM c)=some (vS g p q)/\aX Tryz.prog (Instr.lookup 276 (Value.map (some l)) (iI a) false) h λa h=>∃l,a=iI l/\aD (l-1)/\lV g p q none (some (l-1)) none 1 λ(a:ahr)(g l:Nat)=>st1 h (aM c) (vS a g l) λa=>τ [(170,aN)] λc g=>c 0 a/\∀(_:ν) a h,c a h->bQ (a<(j:Int)) (idx i j a 1 λd=>∃e,World.cell? h d=some (iI e)/\∃d i j,World.cell? h (aM f)=some (vS d i j)/\idx d i e 1 λd=>st1 h d (iI ((b:Int)+1)) λb=>aD (a+1)/\c (a+1) b/\g (a+1) b<g a h) (oN (Proofs.YtaoaemnefghnbaaGreatDoor.Fn d) (rE d (vS i j k::e) h λa b=>a=vU []/\m b/\o b<o n))) (m i/\o i<o n))) (aD (h+1)/\i (h+1) n/\j (h+1) n<j h k))) (R (vU []) k)):ρ 347 [vS a b c,(.func (.func d) #[] ⟨e⟩)] w R:=rv Tryz.func347 ⟨[(5,[(26,(.one (.int .i64)))]),(12,[]),(14,[]),(30,[(170,(.one (.int .i64)))])],[(26,[])],[],[]⟩ h
abbrev Aw:FuncId:=348
theorem xf{d:Addr}{e:Addr}{f:Addr}{g:Addr}(h:rEp 102 [iI 1024,vS none 0 0] w λh c=>τ [(19,aN)] λb j=>b 0 c/\∀(_:ν) c k,b c k->bQ (c<(i:Int)) (idx a i c 1 λa=>∃e,World.cell? k a=some (iI e)/\∃a f g,World.cell? k d=some (vS a f g)/\idx a f e 1 λa=>st1 k a (vP h) λa=>aD (c+1)/\b (c+1) a/\j (c+1) a<j c k) (τ [(30,aN)] λb c=>b 0 k/\∀(_:ν) j k,b j k->bQ (j<(i:Int)) (idx a i j 1 λa=>∃g,World.cell? k a=some (iI g)/\∃a i l,World.cell? k e=some (vS a i l)/\idx a i g 1 λa=>∃e i l,World.cell? k a=some (vS e i l)/\rEi 103 [vP h,vS e i l] k λi e=>∃a i l,World.cell? e f=some (vS a i l)/\idx a i g 1 λa=>∃f g i,World.cell? e a=some (vS f g i)/\τ [(45,aN)] λa i=>a 0 e/\∀(_:ν) e l,a e l->bQ (e<(g:Int)) (idx f g e 1 λb=>∃c,World.cell? l b=some (iI c)/\∃b f g,World.cell? l d=some (vS b f g)/\idx b f c 1 λb=>∃f,World.cell? l b=some (vP f)/\ab6 Proofs.YtaoaemnefghnbaaGreatDoor.Ty (λ(a:Sem Value)(b:Value->Prop)=>∃c,Sem.run Tryz.prog a l=Result.ok c l/\b c) BinOp.neq 178 (Operand.tmp 52) (Operand.tmp 53) f h λb=>br b (∃b f g,World.cell? l d=some (vS b f g)/\idx b f c 1 λb=>∃c,World.cell? l b=some (vP c)/\new l (oC [vP c] 178) λb c=>rEi 349 [vP h,vS (some (aM b)) 1 1] c λd c=>aD (e+1)/\a (e+1) c/\i (e+1) c<i e l) (aD (e+1)/\a (e+1) l/\i (e+1) l<i e l)) (aD (j+1)/\b (j+1) l/\c (j+1) l<c j k)) (rEs 89 [vP h] k λd e f c=>τ [(68,aN)] λb h=>b 0 c/\∀(_:ν) c j,b c j->bQ (c<(i:Int)) (idx a i c 1 λa=>∃i,World.cell? j a=some (iI i)/\∀a,drawn j a->∃(k:WP),k a/\∃l m n,(∀a,k a->World.cell? a g=some (vS l m n))/\rEs 115 [vS d e f] a λe f g d=>k d/\idx l m i 1 λa=>st1 d a (vS e f g) λa=>aD (c+1)/\b (c+1) a/\h (c+1) a<h c j) (R (vU []) j)))):ρ 348 [vS a i j,(.pointer (some d)),(.pointer (some e)),(.pointer (some f)),(.pointer (some g))] w R:=rv Tryz.func348 ⟨[(2,[(19,(.one (.int .i64)))]),(7,[(30,(.one (.int .i64)))]),(11,[(45,(.one (.int .i64)))]),(19,[(68,(.one (.int .i64)))])],[],[],[]⟩ h
abbrev Ax:FuncId:=381
theorem xh{d:Addr}(h:rEb 126 [vS a i j,Value.func (Fn.func 382) (Array.mk []) (Array.mk [vP (some d)])] w λc b=>R (vB c) b):ρ 381 [vS a i j,(.pointer (some d))] w R:=rv Tryz.func381 ⟨[],[],[],[]⟩ h
abbrev vu:FuncId:=382
theorem sD{b:Addr}(h:bQ (A<0) (R (vB true) w) (∃a c d,World.cell? w b=some (vS a c d)/\R (vB (decide ((c:Int)<=A))) w)):ρ 382 [iI A,(.pointer (some b))] w R:=rv Tryz.func382 ⟨[],[],[],[]⟩ h
end
theorem yU{a:Int}{b c d:Addr}{w:ahs}{R:Value->WP}(h:∃e f g,World.cell? w b=some (vS e f g)/\new w (oC [iI a] 3) λh i=>rS (fX 24 (Array.mk [vS e f g,vS (some (aM h)) 1 1])) i λe f=>∃g h i,e=vS g h i/\st1 f b (vS g h i) λe=>∃f g h,World.cell? e c=some (vS f g h)/\∃c h i,World.cell? e b=some (vS c h i)/\idx f g a 1 λb=>st1 e b (iI (h:Int)) λb=>∃c e f,World.cell? b d=some (vS c e f)/\new b (oC [iI a,iI 0] 513) λa b=>rS (fX 511 (Array.mk [vS c e f,vS (some (aM a)) 1 1])) b λa b=>∃c e f,a=vS c e f/\st1 b d (vS c e f) λa=>R (vU []) a):ρ 383 [iI a,(.pointer (some b)),(.pointer (some c)),(.pointer (some d))] w R:=rv Tryz.func383 ⟨[],[],[],[]⟩ h
def P5(l:List (Nat×Nat)):List Value:=l.flatMap λx=>[iI (x.1:Int),iI (x.2:Int)]
theorem L9:∀l,(P5 l).length=l.length*2
 |[]=>rfl
 |x::l=>by
  have:=L9 l
  grind[P5,List.length_append]
theorem Oo(l:List (Nat×Nat))(a b:Nat):P5 l++[iI (a:Int),iI (b:Int)]=P5 (l++[(a,b)]):=by simp[P5]
theorem WS{gs:List (List Nat)}(h:∀g∈gs,g≠[]):gs.length<=gs.flatten.length:=by
 induction gs with
 |nil=>simp
 |cons g gs ih=>
  grind[List.length_pos_iff,List.flatten_cons,List.length_append,List.length_cons]
theorem cP.Good.ne{E:Nat->List Nat}{gs:List (List Nat)}(h:cP.Good E gs):∀g∈gs,g≠[]:=λg u=>by
 obtain⟨g1,g2,e⟩:=List.append_of_mem u
 exact(h.2 g1 g g2 e).1
theorem cP.Good.len{E:Nat->List Nat}{gs:List (List Nat)}{N:Nat}(h:cP.Good E gs)(hl:∀v∈gs.flatten,v<N):gs.length<=N/\∀g∈gs,g.length<=N:=by
 have O:=WS h.ne;have J:=cP.WR h.1 hl;refine⟨ω,λg u=>?_⟩;obtain⟨g1,g2,e⟩:=List.append_of_mem u
 grind
section
abbrev Ls:=(ahr×Nat)×List Int
def Ht(p:Ls):Value:=vS p.1.1 p.2.length p.1.2
def DQ(p:Ls):aC:=own 1 p.1.1 p.2.length p.1.2 (iv p.2)
variable{w:ahs}{L:List aC}
abbrev yV(ko kl kw bl N:Nat)(oa:ahr)(oc:Nat)(wa:ahr)(wc:Nat)(op low:List Nat)(wk:List (Nat×Nat)):List aC:=
 [az ko [vS oa op.length oc],own 1 oa op.length oc (dN op),az kl [vS (some ⟨bl,0,none⟩) N N],az bl (dN low),az kw [vS wa wk.length wc],own 2 wa wk.length wc (P5 wk)]
theorem SI{ko kl kw bl N n:Nat}{oa:ahr}{oc:Nat}{wa:ahr}{wc:Nat}{op low:List Nat}{wk:List (Nat×Nat)}
  (h:St w (yV ko kl kw bl N oa oc wa wc op low wk++L)) (hN:low.length=N) (hn:n<N) (ho:op.length<N) (hw:wk.length<N) (hb:N*24<=140737488355328):
  ρ 383 [iI (n:Int),vP (some (aM ko)),vP (some (aM kl)),vP (some (aM kw))] w λv w'=>v=.tuple (Array.mk [])/\
   ∃oa oc wa wc,St w' (yV ko kl kw bl N oa oc wa wc (op++[n]) (low.set n (op.length+1)) (wk++[(n,0)])++L):=by
 refine@yU (n:Int) (aM ko) (aM kl) (aM kw) w _ ?_;refine⟨_,_,_,(af 0 h.l).cell0 sZZ,ag h λk3 w1 h=>?_⟩;refine(aU aT (rfl:ai Ty _=.slice _) (rfl:ai Ty _=.slice _) rfl rfl rfl (h.pick 7 [0,2,1,3,4,5,6]) rfl (by simp[aK]) (by grind) ω).mono ?_;rintro _ Y⟨O,U,rfl,h⟩;rw[Wz] at h;refine⟨_,_,_,rfl,aR (h.pick 7 [2,0,3,4,5,6]) σ λX h=>?_⟩;refine⟨_,_,_,(af 2 h.l).cell0 sZZ,_,_,_,(af 0 h.l).cell0 sZZ,ay rfl hn ?_⟩;rw[ak];refine aR (h.pick 6 [3,0,1,2,4,5]) (by simp_all[dN]) λw4 h=>?_;refine⟨_,_,_,(af 4 h.l).cell0 sZZ,ag h λW Z h=>?_⟩;refine(aU aT (rfl:ai Ty _=.slice _) (rfl:ai Ty _=.slice _) rfl rfl rfl (h.pick 7 [0,6,1,2,3,4,5]) rfl (by simp[aK]) (by grind) ω).mono ?_;rintro _ w6⟨J,u,rfl,h⟩;refine⟨_,_,_,rfl,aR (h.pick 7 [6,0,2,3,4,5]) σ λw7 h=>⟨rfl,O,U,J,u,?_⟩⟩;have V:(op++[n]).length=op.length+1:=σ
 have l2:(wk++[(n,0)]).length=wk.length+1:=σ
 unfold yV;rw[V,l2,<-BR,<-Oo];exact h.pick 6 [3,4,5,2,0,1]
end
section
variable{w:ahs}{L:List aC}
theorem B7{l:List (Nat×Nat)}:∀{i n k:Nat},l[i]? =some (n,k)->(P5 l)[i*2]? =some (iI (n:Int))/\(P5 l)[i*2+1]? =some (iI (k:Int)):=by
 induction l with
 |nil=>simp
 |cons x l ih=>
  intro i n k h;have e:P5 (x::l)=iI (x.1:Int)::iI (x.2:Int)::P5 l:=rfl;rw[e];cases i with
  |zero=>simp_all
  |succ i=>
   grind
theorem WT{l:List (Nat×Nat)}:∀{i n k:Nat}(k':Nat),l[i]? =some (n,k)->(P5 l).set (i*2+1) (iI (k':Int))=P5 (l.set i (n,k')):=by
 induction l with
 |nil=>simp
 |cons x l ih=>
  intro i n k k' h;have e:P5 (x::l)=iI (x.1:Int)::iI (x.2:Int)::P5 l:=rfl;rw[e];cases i with
  |zero=>simp at h;subst h;rfl
  |succ i=>
   simp only[ahp] at h;rw[show(i+1)*2+1=(i*2+1)+1+1 from ω,List.set_cons_succ,List.set_cons_succ,ih k' h];rfl
theorem St.aeC{M Q L:List aC}(h:St w (M++(Q++L))):St w (Q++(M++L)):=h.perm (by
 rw[<-af0,<-af0];exact List.perm_append_comm.append_right L)
theorem WU(xs:List Nat):dN xs=iv (xs.map Int.ofNat):=by simp[dN,iv]
end
def dX(S:List cP.Sc):List (Nat×Nat):=(S.map λs=>(s.1,s.2.1)).reverse
theorem dM(n k:Nat)(r:List Nat)(t:List cP.Sc):dX ((n,k,r)::t)=dX t++[(n,k)]:=by simp[dX]
theorem Hu:∀(S:List cP.Sc),(dX S).length<=(cP.aS S).length
 |[]=>by simp[dX,cP.aS]
 |(n,k,r)::t=>by
  have:=Hu t
  grind[dM,cP.cV,List.length_append]
def lf(low:List Nat)(v:Nat):Nat:=low.getD v 0
theorem qR{low:List Nat}{i x:Nat}(h:i<low.length):lf (low.set i x)=cP.Gf (lf low) i x:=by
 funext j
 unfold lf cP.Gf
 grind
theorem Hv{low:List Nat}{i:Nat}(h:i<low.length):low[i]? =some (lf low i):=by simp_all[lf]
def Ay(mp:List (Int×Value)):List cP.Sc->Prop
 |[]=>True
 |(n,_,_)::t=>assoc (n:Int) mp=some (.int .i64 (((cP.aS t).length+1:Nat):Int))/\Ay mp t
theorem Ay.put{mp:List (Int×Value)}{m:Nat}{v:Value}:∀(S:List cP.Sc),Ay mp S->(∀s∈S,s.1≠m)->Ay (cO (m:Int) v mp) S
 |[],_,_=>trivial
 |(n,k,r)::t,⟨h1,h2⟩,hn=>by
  refine⟨?_,Ay.put t h2 λs hs=>hn s (by grind)⟩
  have:=hn (n,k,r) σ
  rw[fl,afV ω]
  omega
theorem acG{S:List cP.Sc}:∀s∈S,s.1∈cP.aS S:=by
 induction S with
 |nil=>simp
 |cons x t ih=>
  obtain⟨n,k,r⟩:=x;intro s u
  rcases af6.1 u with rfl|u
  ·simp[cP.aS]
  grind[cP.aS]
def En(es:List (List Int))(n:Nat):List Nat:=(es.getD n []).map Int.toNat
def Hw(es:List (List Int)):Prop:=∀l∈es,∀x∈l,0<=x/\x<(es.length:Int)
theorem WV{es:List (List Int)}{n:Nat}{l:List Int}(h:es[n]? =some l):En es n=l.map Int.toNat:=by simp_all[En]
theorem abQ{es:List (List Int)}(hR:Hw es){n m:Nat}(h:m∈En es n):m<es.length:=by
 unfold En at h;rw[afP] at h;cases hl:es[n]? with
 |none=>simp_all
 |some l=>
  rw[hl] at h;obtain⟨x,u,rfl⟩:=afW.1 h;have:=hR l (afI hl) x u;omega
def qA(low:List Nat)(n:Nat):List cP.Sc->List Nat
 |[]=>low
 |(u,_,_)::_=>low.set u (min (lf low u) (lf low n))
def kV(x:Nat)(low:List Nat)(g:List Nat):List Nat:=g.foldl (λl m=>l.set m x) low
theorem Az(x:Nat):∀(g low:List Nat),(kV x low g).length=low.length
 |[],_=>rfl
 |m::g,low=>by show(kV x (low.set m x) g).length=_;rw[Az x g];simp
theorem Oq(x:Nat)(low g:List Nat)(m:Nat):kV x low (g++[m])=(kV x low g).set m x:=by simp[kV]
theorem KG(x:Nat):∀(g low:List Nat),(∀m∈g,m<low.length)->lf (kV x low g)=λv=>if v∈g then x else lf low v
 |[],_,_=>by rfl
 |m::g,low,h=>by
  have:=KG x g (low.set m x) (λy hy=>by simp_all)
  grind[lf,kV,qR,cP.Gf]
structure WD where
 S:List cP.Sc
 low:List Nat
 gs:List (List Nat)
 mp:List (Int×Value)
 oa:ahr
 oc:Nat
 wa:ahr
 wc:Nat
section
variable{w:ahs}{L:List aC}{es:List (List Int)}{a:ahr}{N c l:Nat}{d:FuncId}{e:List Value}{Q:List (List Nat)->List aC}
theorem Ot{xs:List Int}(hr:aY (hp w) xs a l)(hb:xs.length*8<=140737488355328)(hb2:xs.length<=9223372036854775807):ρ 115 [vS a l c] w λv w'=>∃o c',v=vS o xs.length c'/\St w' (own 1 o xs.length c' (iv xs)::all w):=by
 refine iD ?_;have hl:=hr.1;cases a with
 |none=>
  have h0:xs=[]:=by
   cases xs with
   |nil=>rfl
   |cons t ts=>obtain⟨O,_,e,_⟩:=hr.2 0 t rfl;grind
  subst h0;exact⟨none,0,rfl,aI 1 (St.all w)⟩
 |some O=>
  refine ag (St.all w) λb Y J=>?_;have V:St Y (own 1 (some ⟨b,0,none⟩) 0 0 []::all w):=bj (cs:=[]) J rfl rfl (afR _);have hr:=hr.mono J.aQ
  refine(ja aT (rfl:ai Ty _=.slice _) rfl rfl rfl V (n:=l) (news:=iv xs) (gk aT (rfl:ai Ty _=.slice _) (by rw[cZ,hl,agE]) (by
    rcases hr.iv with h0|⟨X,e,hc⟩
    ·simp_all
    ·cases e;exact .inr ⟨O,rfl,λj u W=>jA (hc j u W)⟩) (by
   intro u U;obtain⟨t,_,rfl⟩:=afW.1 U;rfl)) (by simp_all) ω).mono ?_
  grind
def WDI(ko kl kw bl km N fr:Nat)(es:List (List Int))(Q:List (List Nat)->List aC)(L:List aC)(x:WD)(w:ahs):Prop:=
 x.low.length=N/\cP.Inv (En es) N (lf x.low) x.S x.gs/\(∀v,v<=fr->lf x.low v≠0)/\Ay x.mp x.S/\
  St w (yV ko kl kw bl N x.oa x.oc x.wa x.wc (cP.aS x.S) x.low (dX x.S)++(mapA km x.mp::(Q x.gs++L)))
def abR(d:FuncId)(e:List Value)(es:List (List Int))(Q:List (List Nat)->List aC):Prop:=
 ∀(gs:List (List Nat))(g:List Nat)(F:List aC)(w:ahs)(o:ahr)(gc:Nat),cP.Good (En es) (gs++[g])->(∀v∈(gs++[g]).flatten,v<es.length)->
  St w (own 1 o g.length gc (dN g)::(Q gs++F))->ρ d (vS o g.length gc::e) w λv w'=>v=.tuple (Array.mk [])/\St w' (Q (gs++[g])++F)
theorem acH(hfl:Fn d=true)(hD:abR d e es Q)(hE:∀gs h,aG (Q gs++L) h->aY h es a N)(hR:Hw es)(hB:∀l∈es,l.length*8<=140737488355328)(hb:N*24<=140737488355328)(h:St w (Q []++L)):
  ρ 347 [vS a N c,.func (.func d) (Array.mk []) ⟨e⟩] w λv w'=>v=.tuple (Array.mk [])/\∃gs,cP.Good (En es) gs/\(∀v,v∈gs.flatten↔v<N)/\St w' (Q gs++L):=by
 refine@DP a N c d e w _ ?_;have hN:es.length=N:=(hE [] _ h.l).1;refine⟨⟨ω,rfl,ω⟩,ag h λZ w1 h=>ag h λkl w2 h=>aR h σ λw3 h=>⟨⟨ω,ω⟩,ag h λko w4 h=>ag h λkw w5 h=>?_⟩⟩
 have h:St w5 (yV ko kl kw Z N none 0 none 0 [] (List.replicate N 0) []++(Q []++L)):=by
  have e1:iX (Int.toNat (N:Int)) [iI 0]=dN (List.replicate N 0):=by simp[dR,dN]
  rw[e1] at h;have h:=aI 2 (aI 1 h);exact h.pick 6 [3,1,4,5,2,0]
 refine⟨λz w'=>∃k:Nat,z=k/\k<=N/\∃gs low oa oc wa wc,low.length=N/\cP.Inv (En es) N (lf low) [] gs/\(∀v,v<k->lf low v≠0)/\St w' (yV ko kl kw Z N oa oc wa wc [] low []++(Q gs++L)),
  λz _=>N-z.toNat,⟨0,rfl,afL _,[],List.replicate N 0,none,0,none,0,σ,?_,λv X=>ω,h⟩,?_⟩
 ·have:lf (List.replicate N 0)=λ_=>0:=by grind[lf]
  simp_all[cP.Inv.start]
 rintro _ z w6⟨k,rfl,hk,gs,low,oa,oc,wa,wc,hl,hI,hs,h⟩;refine ae (λh1=>?_) λh1=>?_
 rotate_left
 ·have h1:k=N:=by grind
  subst h1
  refine⟨rfl,gs,hI.good,λv=>⟨λX=>hI.lt v (by simp_all),λX=>?_⟩,?_⟩
  ·have:=hI.seen X (hs v X)
   simp_all[cP.aS]
  ·exact h.tail.tail.tail.tail.tail.tail
 have h1:k<N:=by simp_all
 refine⟨_,_,_,(af 2 h.l).cell0 sZZ,ay rfl h1 ⟨_,(af 3 h.l).cell sZZ (j:=k) (kT (Hv ω)),?_⟩⟩
 refine ae (λh2=>?_) λh2=>?_
 ·have h2:=afO h2;refine⟨⟨ω,ω⟩,⟨k+1,rfl,h1,gs,low,oa,oc,wa,wc,hl,hI,λv X=>?_,h⟩,bY h1⟩
  grind
 have h2:lf low k=0:=by simp_all
 refine nI h λkm w7 h=>?_;have h:=dT (κ:=Int) h;refine⟨_,_,_,(af 1 h.l).cell0 sZZ,⟨σ,σ⟩,(dh (κ:=Int) aT (rfl:ai Ty _=.map _ _) bL h (k:Int) _).mono ?_⟩;rintro _ w8 h;refine(SI (n:=k) (h.pick 7 [1,2,3,4,5,6,0]) hl h1 (by grind) (by grind) hb).mono ?_;rintro _ w9⟨rfl,oa,oc,wa,wc,h⟩
 refine⟨rfl,λw'=>∃x,WDI ko kl kw Z km N k es Q L x w',λw'=>Vo (WDI ko kl kw Z km N k es Q L) (λx=>cP.todo (En es) N (lf x.low) x.S) w',?_,?_⟩
 ·refine⟨⟨[(k,0,[])],low.set k 1,gs,_,oa,oc,wa,wc⟩,by grind,?_,?_,?_,h⟩
  ·show cP.Inv _ _ (lf (low.set k 1)) _ _
   rw[qR ω];exact hI.root h1 h2
  ·intro v X
   show lf (low.set k 1) v≠0
   rw[qR ω]
   grind[ev,cP.bQ,cP.ee]
  ·exact⟨by simp[assoc,cP.aS],trivial⟩
 intro _ e7 hw;obtain⟨⟨S,bb,V,mp,oa,oc,wa,wc⟩,⟨bi,a6,c7,hM,h⟩,hm⟩:=BP hw;simp only at bi a6 c7 hM h hm;refine⟨_,_,_,(af 4 h.l).cell0 sZZ,?_⟩;refine ae (λh3=>?_) λh3=>?_
 rotate_left
 ·have h3:=afN h3;cases S with
  |cons x t=>grind[dM]
  |nil=>
   refine⟨⟨ω,ω⟩,⟨k+1,rfl,h1,V,bb,oa,oc,wa,wc,bi,a6,λv X=>c7 v ω,?_⟩,bY h1⟩;exact h.pick 7 [0,1,2,3,4,5]
 cases S with
 |nil=>have h3:=afO h3;simp_all[dX]
 |cons x t=>
 obtain⟨n,k0,r⟩:=x;have f2:=a6.len;have f8:=Hu ((n,k0,r)::t);have g7:(dX ((n,k0,r)::t)).length=(dX t).length+1:=by simp[dM]
 have Y:n<N:=a6.lt n (by simp[cP.aS]);obtain⟨fC,av,_⟩:=cH (h.pick 7 [5,0,1,2,3,4,6]) (j:=(dX t).length*2) (B7 (i:=(dX t).length) (n:=n) (k:=k0) (by simp[dM])).1;refine⟨_,_,_,(af 4 h.l).cell0 sZZ,_,_,_,(af 4 h.l).cell0 sZZ,⟨ω,ω⟩,?_⟩;have ei:((dX ((n,k0,r)::t)).length:Int)-1=((dX t).length:Int):=ω
 rw[ei];refine aJ av ω ?_;rw[bg]
 --the steps of one node
 let P2:Nat×List Nat->ahs->Prop:=λp w'=>p.2.length=N/\cP.Inv (En es) N (lf p.2) ((n,p.1,r)::t) V/\(∀v,v<=k->lf p.2 v≠0)/\cP.todo (En es) N (lf p.2) ((n,p.1,r)::t)<=Vo (WDI ko kl kw Z km N k es Q L) (λx=>cP.todo (En es) N (lf x.low) x.S) e7/\
  St w' (yV ko kl kw Z N oa oc wa wc (cP.aS ((n,p.1,r)::t)) p.2 (dX ((n,p.1,r)::t))++(mapA km mp::(Q V++L)))
 refine⟨λw'=>∃p,P2 p w',λw'=>Vo P2 (λp=>(En es n).length-p.1) w',⟨(k0,bb),bi,a6,c7,by rw[<-hm];simp,h⟩,?_⟩;intro _ fL hw;obtain⟨⟨j,J⟩,⟨bA,O,d4,b1,h⟩,ea⟩:=BP (f:=λp=>(En es n).length-p.1) hw;simp only at bA O d4 b1 h ea;intro a9 hd;have h:=h.eq (aP hd);obtain⟨el,b3⟩:∃el,es[n]? =some el:=⟨es[n]'ω,afJ _⟩;have fd:=WV b3;have d6:aY (hp a9) es a N:=hE V _ h.tail.tail.tail.tail.tail.tail.tail.l;obtain⟨fz,fS,ev,b6,cg,aa,o6,l6,c6,rfl,eY,bc⟩:=d6.get (i:=n) Y;rw[b3] at b6;cases b6;rw[bg,show n*tQ.n (List Int)=n from agE n] at aa;have eX:el.length=l6:=bc.1;have f3:(En es n).length=l6:=by simp_all
 have eT:j<=(En es n).length:=O.ok.1.le;have gg:=hB el (afI b3);have ca:(dX ((n,j,r)::t))[(dX t).length]? =some (n,j):=by simp[dM]
 have fw:(dX ((n,j,r)::t)).length=(dX t).length+1:=by simp[dM]
 obtain⟨eI,ba,bB⟩:=cH (h.pick 7 [5,0,1,2,3,4,6]) (B7 ca).1;obtain⟨em,a7,b5⟩:=cH (h.pick 7 [5,0,1,2,3,4,6]) (B7 ca).2;rw[av] at ba a7;cases ba;cases a7;rw[<-add_add] at b5;have cw:∀{u:ahs}{ad:Addr}{v:Value},hp u=hp a9->a9.cell? ad=some v->u.cell? ad=some v:=λW h=>by grind[cD]
 refine⟨λu=>hp u=hp a9,rfl,(j:Int),λu W=>cw W b5,(n:Int),λu W=>cw W bB,ay cg Y ⟨o6,l6,c6,λu W=>cw W (aa.cell0 sZZ),?_⟩⟩
 refine ae (λh4=>?_) λh4=>?_
 ·have h4:j<l6:=by simp_all
  intro d3 cu;have h:=h.eq (aP cu);have e9:=aP cu;obtain⟨mI,ck⟩:∃mI,el[j]? =some mI:=⟨el[j]'ω,afJ _⟩;obtain⟨m,rfl⟩:∃m:Nat,mI=(m:Int):=⟨mI.toNat,by have:=hR el (afI b3) mI (afI ck);omega⟩;have a8:(En es n)[j]? =some m:=by simp_all
  have a4:m<N:=by have:=abQ hR (afI a8);omega
  obtain⟨eL,cp,eD⟩:=bc.at ck;have cw:∀{u:ahs}{ad:Addr}{v:Value},hp u=hp d3->a9.cell? ad=some v->u.cell? ad=some v:=λW h=>cw (W.trans e9) h;refine⟨λu=>hp u=hp d3,rfl,(n:Int),λu W=>cw W bB,ay cg Y ⟨o6,l6,c6,λu W=>cw W (aa.cell0 sZZ),(j:Int),λu W=>cw W b5,ay cp h4 ⟨(m:Int),λu W=>eD u (by simp_all[sub.refl]),(j:Int),cw rfl b5,⟨ω,ω⟩,?_⟩⟩⟩;rw[add_add];refine gE (h.pick 7 [5,0,1,2,3,4,6]) av (by grind[L9]) λeC h=>?_;have ej:((j:Int)+1)=((j+1:Nat):Int):=by rfl
  rw[ej,WT (j+1) ca] at h
  have h:St eC (yV ko kl kw Z N oa oc wa wc (cP.aS ((n,j+1,r)::t)) J (dX ((n,j+1,r)::t))++(mapA km mp::(Q V++L))):=by
   have e1:(dX ((n,j,r)::t)).set (dX t).length (n,j+1)=dX ((n,j+1,r)::t):=by simp[dM]
   have e2:(dX ((n,j+1,r)::t)).length=(dX ((n,j,r)::t)).length:=by grind
   rw[e1] at h;unfold yV;rw[e2];exact h.pick 7 [1,2,3,4,5,0,6]
  have bz:=O.len;have cd:lf J m=0->m∉cP.aS ((n,j,r)::t):=λh0 hm=>(O.un m a4).1 h0 (by simp_all);refine⟨_,_,_,(af 2 h.l).cell0 sZZ,ay rfl a4 ⟨_,(af 3 h.l).cell sZZ (j:=m) (kT (Hv ω)),?_⟩⟩
  refine ae (λh5=>?_) λh5=>?_
  ·have h5:lf J m=0:=by simp_all
   have bT:(cP.aS ((n,j+1,r)::t)).length<N:=by
    have h6:=O.push a8 a4 h5;have h7:=h6.len;have e1:cP.aS ((m,0,[])::(n,j+1,r)::t)=cP.aS ((n,j+1,r)::t)++[m]:=rfl
    grind
   have eS:=Hu ((n,j+1,r)::t);refine⟨_,_,_,(af 0 h.l).cell0 sZZ,⟨ω,ω⟩,(dh (κ:=Int) aT (rfl:ai Ty _=.map _ _) bL (h.pick 7 [6,0,1,2,3,4,5]) (m:Int) _).mono ?_⟩;rintro _ fg h;refine(SI (n:=m) (h.pick 7 [1,2,3,4,5,6,0]) bA a4 bT ω hb).mono ?_;rintro _ cF⟨rfl,d7,dc,e3,ef,h⟩
   have U:WDI ko kl kw Z km N k es Q L ⟨(m,0,[])::(n,j+1,r)::t,J.set m ((cP.aS ((n,j+1,r)::t)).length+1),V,cO (m:Int) (iI (((cP.aS ((n,j+1,r)::t)).length:Int)+1)) mp,d7,dc,e3,ef⟩ cF:=by
    refine⟨by simp_all,?_,?_,⟨?_,?_⟩,?_⟩
    ·show cP.Inv _ _ (lf (J.set m _)) _ _
     rw[qR ω];exact O.push a8 a4 h5
    ·intro v X
     show lf (J.set m _) v≠0
     rw[qR ω]
     grind[ev,cP.bQ,cP.ee]
    ·show assoc _ (cO _ _ _)=_
     rw[fl,afZ rfl];rfl
    ·exact Ay.put ((n,j+1,r)::t) hM λs hs e=>cd h5 (by rw[<-e];exact acG (S:=(n,j+1,r)::t) s hs)
    ·have e1:dX ((m,0,[])::(n,j+1,r)::t)=dX ((n,j+1,r)::t)++[(m,0)]:=dM _ _ _ _
     show St cF (yV _ _ _ _ _ _ _ _ _ (cP.aS ((n,j+1,r)::t)++[m]) _ (dX ((m,0,[])::(n,j+1,r)::t))++_)
     rw[e1];exact h
   refine⟨rfl,⟨_,U⟩,?_⟩;have l1:=Am (f:=λx=>cP.todo (En es) N (lf x.low) x.S) U;have l2:=cP.Uo O a8 a4 h5 ((cP.aS ((n,j+1,r)::t)).length+1) ω
   grind[qR,Nat.lt_of_le_of_lt,Nat.lt_of_lt_of_le]
  ·have h5:lf J m≠0:=λe=>by simp_all
   intro c8 cx;have h:=h.eq (aP cx);have cL:∀u,hp u=hp c8->u.cell? (aM kl)=some (vS (some (aM Z)) N N):=λu W=>by rw[cD W];exact(af 2 h.l).cell0 sZZ
   have cI:∀u,hp u=hp c8->∀v,v<N->u.cell? ((aM Z).add v)=some (iI (lf J v:Int)):=λu W v X=>by rw[cD W];exact(af 3 h.l).cell sZZ (j:=v) (kT (Hv ω))
   have g8:=aP cx;have cC:(dX ((n,j+1,r)::t))[(dX t).length]? =some (n,j+1):=by simp[dM]
   obtain⟨eP,b8,g6⟩:=cH (h.pick 7 [5,0,1,2,3,4,6]) (B7 cC).1;rw[av] at b8;cases b8;refine⟨λu=>hp u=hp c8,rfl,_,_,_,cL,(n:Int),λu W=>by grind[cD],_,_,_,cL,(n:Int),λu W=>by grind[cD],ay rfl Y ⟨_,λu W=>cI u W n Y,_,_,_,cL,ay rfl a4 ⟨_,λu W=>cI u W m a4,ay rfl Y ?_⟩⟩⟩;rw[ak];have al:(if(lf J m:Int)<(lf J n:Int) then(lf J m:Int) else(lf J n:Int))=((min (lf J n) (lf J m):Nat):Int):=ω
   rw[al];refine aR (h.pick 7 [3,0,1,2,4,5,6]) (by simp_all[dN]) λe8 h=>?_;rw[BR] at h
   have U:P2 (j+1,J.set n (min (lf J n) (lf J m))) e8:=by
    have a0:=qR (low:=J) (i:=n) (x:=min (lf J n) (lf J m)) ω;have eu:=O.look a8 a4 h5
    refine⟨by simp_all,?_,?_,?_,h.pick 7 [1,2,3,0,4,5,6]⟩
    ·simp_all
    ·intro v X
     show lf (J.set n _) v≠0
     rw[a0]
     by_cases ev:v=n
     ·simp_all[cP.bQ]
     simp_all[cP.ee]
    ·show cP.todo _ _ (lf (J.set n _)) _<=_
     rw[a0];refine agn ?_ b1;unfold cP.todo
     rw[cP.DJ (low:=lf J)]
     ·simp only[agv,List.sum_cons];omega
     ·intro v X
      by_cases ev:v=n
      ·simp_all[cP.bQ]
      grind[cP.ee]
   refine⟨⟨_,U⟩,?_⟩;have l1:=Am (f:=λp=>(En es n).length-p.1) U
   grind
 ·have h4:j=(En es n).length:=by grind
  have bz:=O.len;refine⟨(n:Int),bB,_,_,_,(af 4 h.l).cell0 sZZ,_,_,_,(af 4 h.l).cell0 sZZ,⟨ω,ω⟩,?_⟩;have ei:((dX ((n,j,r)::t)).length:Int)-1=((dX t).length:Int):=ω
  have eK:=bI (h.pick 7 [5,0,1,2,3,4,6]);rw[ei];refine ir ω (aR (h.pick 7 [4,0,1,2,3,5,6]) σ λez h=>?_);have h:=qz (h.pick 7 [5,0,1,2,3,4,6]) (k:=(dX t).length) ω
  have c9:(P5 (dX ((n,j,r)::t))).take ((dX t).length*2)=P5 (dX t):=by
   rw[dM,<-Oo,<-L9,List.take_left'];rfl
  rw[c9] at h;have h:St ez (yV ko kl kw Z N oa oc (fE wa 0 wc 2) wc (cP.aS ((n,j,r)::t)) J (dX t)++(mapA km mp::(Q V++L))):=h.pick 7 [2,3,4,5,1,0,6]
  --the one below takes over
  refine⟨λw'=>St w' (yV ko kl kw Z N oa oc (fE wa 0 wc 2) wc (cP.aS ((n,j,r)::t)) (qA J n t) (dX t)++(mapA km mp::(Q V++L))),⟨_,_,_,(af 4 h.l).cell0 sZZ,?_⟩,?_⟩
  ·refine ae (λh5=>?_) λh5=>?_
   rotate_left
   ·have h5:=afN h5;cases t with
    |nil=>exact h
    |cons x t=>grind[dM]
   ·cases t with
    |nil=>have h5:=afO h5;simp_all[dX]
    |cons x t=>
    obtain⟨u,ku,ru⟩:=x;have a5:u<N:=O.lt u (by simp[cP.aS]);have ey:(dX ((u,ku,ru)::t))[(dX t).length]? =some (u,ku):=by simp[dM]
    have eU:(dX ((u,ku,ru)::t)).length=(dX t).length+1:=by simp[dM]
    obtain⟨eG,d0,dF⟩:=cH (h.pick 7 [5,0,1,2,3,4,6]) (B7 ey).1;have dk:((dX ((u,ku,ru)::t)).length:Int)-1=((dX t).length:Int):=ω
    refine⟨_,_,_,(af 4 h.l).cell0 sZZ,_,_,_,(af 4 h.l).cell0 sZZ,⟨ω,ω⟩,?_⟩;rw[dk];refine aJ d0 ω ?_;rw[bg];refine⟨(u:Int),dF,?_⟩;intro bP et;have h:=h.eq (aP et);have cL:∀v,hp v=hp bP->v.cell? (aM kl)=some (vS (some (aM Z)) N N):=λu W=>by rw[cD W];exact(af 2 h.l).cell0 sZZ
    have cI:∀u,hp u=hp bP->∀v,v<N->u.cell? ((aM Z).add v)=some (iI (lf J v:Int)):=λu W v X=>by rw[cD W];exact(af 3 h.l).cell sZZ (j:=v) (kT (Hv ω))
    refine⟨λu=>hp u=hp bP,rfl,_,_,_,cL,_,_,_,cL,ay rfl a5 ⟨_,λv X=>cI v X u a5,_,_,_,cL,ay rfl Y ⟨_,λv X=>cI v X n Y,ay rfl a5 ?_⟩⟩⟩;rw[ak];have al:(if(lf J n:Int)<(lf J u:Int) then(lf J n:Int) else(lf J u:Int))=((min (lf J u) (lf J n):Nat):Int):=ω
    rw[al];refine aR (h.pick 7 [3,0,1,2,4,5,6]) (by simp_all[dN]) λf9 h=>?_;rw[BR] at h;exact h.pick 7 [1,2,3,0,4,5,6]
  ·intro _ fc h c5 eB;have h:=h.eq (aP eB);obtain⟨g4,ge,f6,f7⟩:=O.acD;have e0:(qA J n t).length=N:=by cases t<;>simp[qA,bA]
   have cz:lf (qA J n t) n=lf J n:=by
    cases t with
    |nil=>rfl
    |cons x t=>
     obtain⟨u,ku,ru⟩:=x;have a5:u<N:=O.lt u (by simp[cP.aS])
     show lf (J.set u _) n=_
     simp_all[qR,cP.ee,cP.aS]
   obtain⟨d5,cc⟩:=hM;have lk:=λ{w':ahs}{L':List aC}(h:St w' (mapA km mp::L'))=>cq (κ:=Int) (P:=Tryz.prog) (z:=iI 0) aT (rfl:ai Ty dD=.map _ _) bL rfl rfl h (n:Int);rw[d5] at lk;have cL:∀v,hp v=hp c5->v.cell? (aM kl)=some (vS (some (aM Z)) N N):=λu W=>by rw[cD W];exact(af 2 h.l).cell0 sZZ
   have cI:∀u,hp u=hp c5->∀v,v<N->u.cell? ((aM Z).add v)=some (iI (lf (qA J n t) v:Int)):=λu W v X=>by rw[cD W];exact(af 3 h.l).cell sZZ (j:=v) (kT (Hv ω))
   refine⟨λu=>hp u=hp c5,rfl,_,_,_,cL,ay rfl Y ⟨_,λv X=>cI v X n Y,(lk (h.pick 7 [6,0,1,2,3,4,5])).mono ?_⟩⟩;rintro _ cT⟨rfl,rfl⟩;refine⟨_,rfl,rfl,?_⟩;rw[cz];have bT:(cP.aS ((n,j,r)::t)).length=(cP.aS t).length+1+r.length:=cP.cV
   refine ae (λh6=>?_) λh6=>?_
   ·have h6:lf J n=(cP.aS t).length+1:=by grind
    have hP:=O.pop h4 h6;have ek:∀v∈n::r,v<N:=λv X=>O.lt v (by grind[cP.aS])
    have am:qA J n t=J\/lf (qA J n t)=lf J:=by
     cases t with
     |nil=>exact .inl rfl
     |cons x t=>
      obtain⟨u,ku,ru⟩:=x;have a5:u<N:=O.lt u (by simp[cP.aS]);right
      show lf (J.set u _)=_
      rw[qR ω,O.afq h6]
      funext v;simp_all[cP.Gf]
    have am:lf (qA J n t)=lf J:=by grind
    have b7:=bI (h.pick 7 [1,0,2,3,4,5,6]);refine⟨_,_,_,(af 0 h.l).cell0 sZZ,(lk (h.pick 7 [6,0,1,2,3,4,5])).mono ?_⟩;rintro _ dl⟨rfl,rfl⟩;have eb:((((cP.aS t).length+1:Nat):Int)-1)=((cP.aS t).length:Int):=ω
    refine⟨_,rfl,⟨ω,ω⟩,?_⟩;rw[eb];have eg:aY (hp dl) ((cP.aS ((n,j,r)::t)).map Int.ofNat) oa (cP.aS ((n,j,r)::t)).length:=bp σ (by rw[<-WU];exact dE 1 h.l);have cA:=eg.drop (k:=(cP.aS t).length) (m:=oc) ω b7;have er:((cP.aS ((n,j,r)::t)).map Int.ofNat).drop (cP.aS t).length=(n::r).map Int.ofNat:=by simp[cP.aS,List.drop_left']
    rw[er] at cA;have g9:(cP.aS ((n,j,r)::t)).length-(cP.aS t).length=(n::r).length:=by rw[bT];grind
    refine dw ω b7 ((Ot cA (by grind) (by grind)).mono ?_);rintro _ g5⟨b2,b4,rfl,d9⟩;have h:=d9.fb h;have ch:((n::r).map Int.ofNat).length=(n::r).length:=σ
    rw[ch,<-WU] at h;refine⟨_,_,_,by rw[ch],_,_,_,(af 1 h.l).cell0 sZZ,(lk (h.pick 8 [7,0,1,2,3,4,5,6])).mono ?_⟩;rintro _ f5⟨rfl,rfl⟩;refine⟨_,rfl,⟨ω,ω⟩,?_⟩;rw[eb];refine ir ω (aR (h.pick 8 [1,0,2,3,4,5,6,7]) σ λeo h=>?_);have h:=qz (h.pick 8 [2,0,1,3,4,5,6,7]) (k:=(cP.aS t).length) ω;have c9:(dN (cP.aS ((n,j,r)::t))).take ((cP.aS t).length*1)=dN (cP.aS t):=by simp[dN,cP.aS,List.take_left']
    rw[c9] at h;have h:St eo (own 1 b2 (n::r).length b4 (dN (n::r))::(yV ko kl kw Z N (fE oa 0 oc 1) oc (fE wa 0 wc 2) wc (cP.aS t) (qA J n t) (dX t)++(mapA km mp::(Q V++L)))):=h.pick 8 [2,1,0,3,4,5,6,7]
    refine⟨λz w'=>∃i:Nat,z=i/\i<=(n::r).length/\St w' (own 1 b2 (n::r).length b4 (dN (n::r))::(yV ko kl kw Z N (fE oa 0 oc 1) oc (fE wa 0 wc 2) wc (cP.aS t) (kV (N+1) (qA J n t) ((n::r).take i)) (dX t)++(mapA km mp::(Q V++L)))),
     λz _=>(n::r).length-z.toNat,⟨0,rfl,afL _,h⟩,?_⟩
    rintro _ z ci⟨i,rfl,hi,h⟩
    refine ae (λh7=>?_) λh7=>?_
    ·have h7:i<(n::r).length:=by grind
     obtain⟨v,X⟩:∃v,(n::r)[i]? =some v:=⟨(n::r)[i],afJ _⟩;have eA:=ek v (afI X);obtain⟨f4,e5,e6⟩:=cH h (kT X);refine ay e5 h7 ⟨_,e6,_,_,_,(af 3 h.l).cell0 sZZ,ay rfl eA ?_⟩;rw[ak];have eN:((N:Int)+1)=((N+1:Nat):Int):=by rfl
     rw[eN];refine aR (h.pick 8 [4,0,1,2,3,5,6,7]) (by grind[dN,Az]) λg0 h=>⟨⟨ω,ω⟩,⟨i+1,rfl,h7,?_⟩,bY h7⟩;rw[BR] at h;rw[afM,X,agQ,Oq];exact h.pick 8 [1,2,3,4,0,5,6,7]
    ·have h7:i=(n::r).length:=by grind
     subst h7;rw[af7] at h;refine a_.2 ⟨hfl,?_⟩;let M':=yV ko kl kw Z N (fE oa 0 oc 1) oc (fE wa 0 wc 2) wc (cP.aS t) (kV (N+1) (qA J n t) (n::r)) (dX t)++[mapA km mp]
     have ep:(M'++(Q V++L)).Perm (Q V++(M'++L)):=by
      rw[<-af0,<-af0];exact List.perm_append_comm.append_right L
     have h8:St ci (own 1 b2 (n::r).length b4 (dN (n::r))::(Q V++(M'++L))):=h.perm (List.Perm.cons _ ep);have cm:=hD V (n::r) (M'++L) ci b2 b4 hP.good (λv X=>by rw[hN];exact hP.lt v (List.mem_append_right _ X)) h8;refine cm.mono ?_;rintro _ e4⟨rfl,h⟩
     have be:lf (kV (N+1) (qA J n t) (n::r))=λv=>if v∈n::r then N+1 else lf J v:=by
      rw[KG _ _ _ (λm hm=>by grind),am]
     have U:WDI ko kl kw Z km N k es Q L ⟨t,kV (N+1) (qA J n t) (n::r),V++[n::r],mp,fE oa 0 oc 1,oc,fE wa 0 wc 2,wc⟩ e4:=by
      refine⟨by grind[kV,Az],?_,?_,cc,St.aeC (M:=Q (V++[n::r])) (Q:=M') (L:=L) h⟩
      ·grind
      ·intro v X
       show lf (kV _ _ _) v≠0
       rw[be];simp only
       split
       ·omega
       grind
     refine⟨rfl,⟨_,U⟩,?_⟩;have l1:=Am (f:=λx=>cP.todo (En es) N (lf x.low) x.S) U;refine Nat.lt_of_le_of_lt l1 (Nat.lt_of_lt_of_le ?_ b1)
     show cP.todo _ _ (lf (kV _ _ _)) _<_
     rw[be];unfold cP.todo
     rw[cP.DJ (low:=lf J)]
     ·grind
     ·intro v X
      show(if v∈n::r then N+1 else lf J v)=0↔lf J v=0
      split
      ·rename_i e;have h9:lf J v≠0:=λh0=>(O.un v X).1 h0 (by simp only[cP.aS,afT];exact Or.inl (Or.inr e));omega
      rfl
   ·have h6:lf J n≠(cP.aS t).length+1:=λe=>by rw[e] at h6;simp at h6
    cases t with
    |nil=>
     exfalso;have h8:=O.ok.1.top;have h9:=O.ok.1.pos n σ;simp[cP.aS] at h8 h6;omega
    |cons x t=>
    obtain⟨u,ku,ru⟩:=x;have a5:u<N:=O.lt u (by simp[cP.aS]);have a0:=qR (low:=J) (i:=u) (x:=min (lf J u) (lf J n)) ω;have d8:=O.merge h4 h6;have gc:=O.ok.2.2.1.pos u σ;have fs:=O.ok.1.pos n σ
    have U:WDI ko kl kw Z km N k es Q L ⟨(u,ku,ru++n::r)::t,qA J n ((u,ku,ru)::t),V,mp,oa,oc,fE wa 0 wc 2,wc⟩ cT:=by
     refine⟨e0,?_,?_,cc,?_⟩
     ·show cP.Inv _ _ (lf (J.set u _)) _ _
      rw[a0];exact d8
     ·intro v X
      show lf (J.set u _) v≠0
      rw[a0]
      by_cases ev:v=u
      ·subst ev;rw[cP.bQ];omega
      ·rw[cP.ee ev];exact d4 v X
     ·have e1:cP.aS ((u,ku,ru++n::r)::t)=cP.aS ((n,j,r)::(u,ku,ru)::t):=by simp[cP.aS]
      show St cT (yV _ _ _ _ _ _ _ _ _ (cP.aS ((u,ku,ru++n::r)::t)) _ _++_)
      rw[e1];exact h
    refine⟨⟨_,U⟩,?_⟩;have l1:=Am (f:=λx=>cP.todo (En es) N (lf x.low) x.S) U;refine Nat.lt_of_le_of_lt l1 (Nat.lt_of_lt_of_le ?_ b1)
    show cP.todo _ _ (lf (J.set u _)) _<_
    rw[a0];unfold cP.todo
    rw[cP.DJ (low:=lf J)]
    ·simp only[agv,List.sum_cons];omega
    ·intro v X
     by_cases ev:v=u
     ·subst ev;rw[cP.bQ];omega
     ·rw[cP.ee ev]
section
variable{a b:ahr}{i j k l:Nat}{A B C:Int}{w:ahs}{R:Value->WP}
theorem zU(h:rEp 55 [vP a,vB true] w λc b=>br (Option.isNone c) (R (vP none) b) (new b (oC [vP c] 144) λa b=>R (vP (some (aM a))) b)):ρ 17 [.pointer a] w R:=rv Tryz.func17 ⟨[],[],[],[]⟩ h
theorem vw(h:∃(c:lP [(30,Bw)]),(rEb 56 [vP a] w λf e=>br (!f) (c true e) (nn a λd=>cLp e d λf=>nn f λd=>cLb e (d.add 6) λf=>br f (c true e) (nn a λa=>cLp e a λd=>rEb 57 [vP d,vS b i j] e λd b=>c (!d) b)))/\∀(_:ν) d e,c d e->br d (R (vU [iI 0,iI 1]) e) (τ [(33,aN)] λc d=>c 0 e/\∀(_:ν) e f,c e f->bQ (e<(i:Int)) (idx b i e 1 λb=>cLi f b λg=>nn a λa=>cLp f a λb=>rE 58 [vP b,iI g] f λa b=>∃g h,a=vU [vB g,iI h]/\br (!g) (R (vU [iI e,iI h]) b) (aD (e+1)/\c (e+1) b/\d (e+1) b<d e f)) (R (vU [iI (i:Int),iI 0]) f))):ρ 18 [.pointer a,vS b i j] w R:=rv Tryz.func18 ⟨[(4,[(33,(.one (.int .i64)))])],[(2,[(30,(.one .bool))])],[],[]⟩ h
theorem uc(h:rEb 56 [vP a] w λd c=>br (!d) (R (iI 0) c) (nn a λa=>cLp c a λb=>nn b λa=>cLi c (a.add 5) λb=>R (iI b) c)):ρ 19 [.pointer a] w R:=rv Tryz.func19 ⟨[],[],[],[]⟩ h
theorem xj(h:rEb 56 [vP a] w λd c=>br (!d) (R (vU [vB false,iI 1]) c) (nn a λb=>cLp c b λd=>nn d λb=>cLb c (b.add 6) λd=>br d (R (vU [vB false,iI 1]) c) (nn a λa=>cLp c a λb=>rE 58 [vP b,iI 0] c λa b=>∃c d,a=vU [vB c,iI d]/\R (vU [vB c,iI d]) b))):ρ 20 [.pointer a] w R:=rv Tryz.func20 ⟨[],[],[],[]⟩ h
theorem ue(h:rEb 56 [vP a] w λd c=>br (!d) (R (vS none 0 0) c) (nn a λa=>cLp c a λb=>nn b λa=>cLp c (a.add 1) λb=>rEs 60 [vP b] c λc d e b=>R (vS c d e) b)):ρ 22 [.pointer a] w R:=rv Tryz.func22 ⟨[],[],[],[]⟩ h
theorem sG(h:rEb 56 [vP a] w λd c=>br (!d) (R (vS none 0 0) c) (nn a λa=>cLp c a λb=>nn b λa=>cLp c a λb=>rEs 61 [vP b] c λc d e b=>R (vS c d e) b)):ρ 24 [.pointer a] w R:=rv Tryz.func24 ⟨[],[],[],[]⟩ h
theorem vz(h:rEb 56 [vP a] w λd c=>br d (nn a λa=>cLp c a λb=>nn b λa=>cLb c (a.add 6) λb=>R (vB b) c) (R (vB false) c)):ρ 25 [.pointer a] w R:=rv Tryz.func25 ⟨[],[],[],[]⟩ h
theorem u4{a:ahr}{b:Bool}{w:ahs}{R:Value->WP}(h:rEp 123 [vP a] w λd c=>br (Option.isNone d) (R (vP none) c) (rEp 124 [iI 0] c λe c=>rEp 125 [] c λf c=>new c (oC [vP e,vP f,vP d,vB b,vS none 0 0,iI 0,vB false] 149) λa b=>R (vP (some (aM a))) b)):ρ 55 [.pointer a,vB b] w R:=rv Tryz.func55 ⟨[],[],[],[]⟩ h
theorem ug(h:br (!Option.isNone a) (nn a λa=>cLp w a λb=>R (vB !Option.isNone b) w) (R (vB false) w)):ρ 56 [.pointer a] w R:=rv Tryz.func56 ⟨[],[],[],[]⟩ h
theorem B9(h:new w (oC [vP a] 141) λa c=>rEb 126 [vS b i j,Value.func (Fn.func 127) (Array.mk []) (Array.mk [vP (some (aM a))])] c λc b=>R (vB !c) b):ρ 57 [.pointer a,vS b i j] w R:=rv Tryz.func57 ⟨[],[],[],[]⟩ h
theorem AB(h:∀b,drawn w b->∃(c:WP),c b/\nn a λd=>∃e,(∀a,c a->cL a (d.add 2) (vP e))/\nn a λd=>∃f,(∀a,c a->cL a (d.add 3) (vB f))/\nn a λd=>∃g,(∀a,c a->cL a d (vP g))/\(rE 129 [vP e,vB f,vP g,iI A] b λb d=>∃e f g h i j k l,b=vU [vG [vB e,vS f g h,vS i j k],iI l]/\c d/\new d (oC [vB false,vS none 0 0,vS none 0 0] 245) λb d=>c d/\bC d (aM b) [vB e,vS f g h,vS i j k] λd=>c d/\∃(c:lP [(33,Bw)]),br (l !=0) (c true d) (cLb d (aM b) λa=>c (!a) d)/\∀(_:ν) d e,c d e->br d (R (vU [vB false,iI l]) e) (cLs e (Addr.add (aM b) 1) λc d f=>τ [(38,aN)] λb f=>b 0 e/\∀(_:ν) e g,b e g->bQ (e<(d:Int)) (idx c d e 2 λc=>∃d h,rA g c 2 [iI d,iI h]/\new g (oC [iI 0,iI 0] 170) λc i=>bC i (aM c) [iI d,iI h] λd=>∃h i,rA d (aM c) 2 [iI h,iI i]/\rE 130 [vP a,vG [iI h,iI i],iI A] d λa c=>a=vU []/\aD (e+1)/\b (e+1) c/\f (e+1) c<f e g) (bQ (0<A) (nn a λb=>cLi g (b.add 5) λc=>aD (c+1)/\nn a λa=>st1 g (a.add 5) (iI (c+1)) λa=>R (vU [vB true,iI 0]) a) (R (vU [vB true,iI 0]) g))))/\new b (oC [vB false,vS none 0 0,vS none 0 0] 245) λb d=>c d/\rE 129 [vP e,vB f,vP g,iI A] d λd e=>∃f g h i j k l m,d=vU [vG [vB f,vS g h i,vS j k l],iI m]/\c e/\bC e (aM b) [vB f,vS g h i,vS j k l] λd=>c d/\∃(c:lP [(33,Bw)]),br (m !=0) (c true d) (cLb d (aM b) λa=>c (!a) d)/\∀(_:ν) d e,c d e->br d (R (vU [vB false,iI m]) e) (cLs e (Addr.add (aM b) 1) λc d f=>τ [(38,aN)] λb f=>b 0 e/\∀(_:ν) e g,b e g->bQ (e<(d:Int)) (idx c d e 2 λc=>∃d h,rA g c 2 [iI d,iI h]/\new g (oC [iI 0,iI 0] 170) λc i=>bC i (aM c) [iI d,iI h] λd=>∃h i,rA d (aM c) 2 [iI h,iI i]/\rE 130 [vP a,vG [iI h,iI i],iI A] d λa c=>a=vU []/\aD (e+1)/\b (e+1) c/\f (e+1) c<f e g) (bQ (0<A) (nn a λb=>cLi g (b.add 5) λc=>aD (c+1)/\nn a λa=>st1 g (a.add 5) (iI (c+1)) λa=>R (vU [vB true,iI 0]) a) (R (vU [vB true,iI 0]) g)))):ρ 58 [.pointer a,iI A] w R:=rv Tryz.func58 ⟨[(5,[(38,(.one (.int .i64)))])],[(3,[(33,(.one .bool))])],[],[]⟩ h
theorem xm(h:br (Option.isNone a) (R (vS none 0 0) w) (nn a λa=>cLs w a λb c d=>rEs 131 [vS b c d] w λc d e b=>τ [(14,aN)] λa f=>a 0 b/\∀(_:ν) b g,a b g->bQ (b<(d:Int)) (idx c d b 4 λe=>cLs g (e.add 3) λh i j=>rEs 115 [vS h i j] g λi j k h=>idx c d b 4 λc=>st1 h (c.add 3) (vS i j k) λc=>aD (b+1)/\a (b+1) c/\f (b+1) c<f b g) (R (vS c d e) g))):ρ 60 [.pointer a] w R:=rv Tryz.func60 ⟨[(5,[(14,(.one (.int .i64)))])],[],[],[]⟩ h
theorem ui(h:br (Option.isNone a) (R (vS none 0 0) w) (∀b,drawn w b->∃(c:WP),c b/\nn a λd=>∃e,(∀a,c a->cL a d (iI e))/\nn a λa=>∃d f g,(∀b,c b->cL b (a.add 1) (vS d f g))/\new b (oC [iI e] 3) λa b=>c b/\rS (fX 24 (Array.mk [vS (some (aM a)) 1 1,vS d f g])) b λa b=>∃d e f,a=vS d e f/\c b/\rEs 132 [vS d e f] b λd e f b=>c b/\R (vS d e f) b)):ρ 61 [.pointer a] w R:=rv Tryz.func61 ⟨[],[],[],[]⟩ h
theorem B_(h:rE 9 [vP a] w λb c=>∃d e f g h i j k l m n o p,b=vG [vS d e f,vS g h i,vS j k l,iI m,vS n o p]/\new c (oC [vS none 0 0,vS none 0 0,vS none 0 0,iI 0,vS none 0 0] 27) λb c=>bC c (aM b) [vS d e f,vS g h i,vS j k l,iI m,vS n o p] λc=>cLs c (Addr.add (aM b) 4) λd e f=>br ((e:Int)==0) (R (vP none) c) (∀d,drawn c d->∃(c:WP),c d/\∃e f g h i j k l m n o p q,(∀a,c a->rA a (aM b) 5 [vS e f g,vS h i j,vS k l m,iI n,vS o p q])/\rE 37 [vP a] d λb d=>∃r s t u v w x y z,b=vG [vS r s t,vS u v w,vS x y z]/\c d/\rE 218 [vP a] d λa b=>∃d x y z a0 a1 a2 a3 a4 a5 a6 a7 a8 a9 b0 b1 b2 b3 b4 b5 b6 b7 b8 b9,a=vG [vS d x y,vS z a0 a1,vS a2 a3 a4,vS a5 a6 a7,vS a8 a9 b0,vS b1 b2 b3,vS b4 b5 b6,vS b7 b8 b9]/\c b/\new b (oC [vS e f g,vS h i j,vS k l m,iI n,vS o p q,Value.iface 376 (vG [vS r s t,vS u v w]),Value.iface 379 (vG [vS d x y,vS z a0 a1,vS a2 a3 a4,vS a5 a6 a7,vS a8 a9 b0,vS b1 b2 b3,vS b4 b5 b6,vS b7 b8 b9])] 383) λa b=>c b/\R (vP (some (aM a))) b)):ρ 123 [.pointer a] w R:=rv Tryz.func123 ⟨[],[],[],[]⟩ h
theorem JJ(h:new w (oC [iI A,vS none 0 0,vS none 0 0] 253) λa b=>R (vP (some (aM a))) b):ρ 124 [iI A] w R:=rv Tryz.func124 ⟨[],[],[],[]⟩ h
theorem Mb  {w:ahs}{R:Value->WP}(h:new w (oC [vS none 0 0,vS none 0 0] 251) λa b=>R (vP (some (aM a))) b):ρ 125 [] w R:=rv Tryz.func125 ⟨[],[],[],[]⟩ h
theorem xr{b:Addr}(h:bQ (A<1) (R (vB true) w) (cLp w b λa=>nn a λa=>cLp w (a.add 2) λb=>rEi 128 [vP b] w λc b=>R (vB (decide (c<=A))) b)):ρ 127 [iI A,(.pointer (some b))] w R:=rv Tryz.func127 ⟨[],[],[],[]⟩ h
theorem uk(h:nn a λa=>cLs w a λb c d=>R (iI (c:Int)) w):ρ 128 [.pointer a] w R:=rv Tryz.func128 ⟨[],[],[],[]⟩ h
theorem xv{F:Bool}(h:new w (oC [vB false,vS none 0 0,vS none 0 0] 245) λc d=>∀e,drawn d e->∃(d:WP),d e/\nn a λf=>∃g h i j k l m n o p q r s,(∀a,d a->rA a f 5 [vS g h i,vS j k l,vS m n o,iI p,vS q r s])/\nn a λf=>∃(t:TypeId),∃u,(∀a,d a->cL a (f.add 5) (Value.iface t u))/\rEp 219 [vP b] e λf e=>d e/\new e (oC [vP f,vS g h i,vS j k l,vS m n o,iI p,vS q r s,Value.iface t u,vS none 0 0] 388) λb e=>d e/\∃(d:lP []),br F (nn a λa=>∃(c:TypeId),∃f,cL e (a.add 6) (Value.iface c f)/\st1 e (Addr.add (aM b) 6) (Value.iface c f) λa=>d a) (d e)/\∀(_:ν) a,d a->rE 220 [vP (some (aM b)),iI A] a λa d=>∃e f,a=vU [vB e,iI f]/\br (f !=0) (bC d (aM c) [vB false,vS none 0 0,vS none 0 0] λa=>∃b d e g h i j,rA a (aM c) 3 [vB b,vS d e g,vS h i j]/\R (vU [vG [vB b,vS d e g,vS h i j],iI f]) a) (∀a,drawn d a->∃(d:WP),d a/\∃f g h,(∀a,d a->cL a (Addr.add (aM b) 7) (vS f g h))/\∃i,(∀a,d a->cL a (aM b) (vP i))/\rEs 202 [vS f g h] a λf g h b=>d b/\rEs 221 [vP i] b λi j k b=>d b/\rEs 132 [vS i j k] b λi j k b=>d b/\bC b (aM c) [vB e,vS f g h,vS i j k] λa=>∃b d e f g h i,rA a (aM c) 3 [vB b,vS d e f,vS g h i]/\R (vU [vG [vB b,vS d e f,vS g h i],iI 0]) a)):ρ 129 [.pointer a,vB F,.pointer b,iI A] w R:=rv Tryz.func129 ⟨[],[(4,[])],[],[]⟩ h
abbrev fp:FuncId:=130
theorem jT(h:new w (oC [iI A,iI B] 170) λb c=>∀d,drawn c d->∃(c:WP),c d/\nn a λe=>∃f g h,(∀a,c a->cL a (e.add 4) (vS f g h))/\∃e i,(∀a,c a->rA a (aM b) 2 [iI e,iI i])/\nn a λj=>∃k,(∀a,c a->cL a (j.add 5) (iI k))/\new d (oC [iI e,iI i,iI k] 235) λd e=>c e/\rS (fX 39 (Array.mk [vS f g h,vS (some (aM d)) 1 1])) e λd e=>∃f g h,d=vS f g h/\c e/\nn a λc=>st1 e (c.add 4) (vS f g h) λc=>cLi c (aM b) λd=>br (d==1) (∀d,drawn c d->∃(c:WP),c d/\nn a λe=>∃f,(∀a,c a->cL a (e.add 1) (vP f))/\nn a λe=>∃g,(∀a,c a->cL a (e.add 5) (iI g))/\rE 222 [vP f,iI C,iI g] d λd e=>∃f g,d=vU [iI f,iI g]/\c e/\∀c,drawn e c->∃(d:WP),d c/\nn a λa=>∃e,(∀b,d b->cL b a (vP e))/\∃a,(∀c,d c->cL c (Addr.add (aM b) 1) (iI a))/\rEi 223 [vP e,iI a,iI f] c λc b=>R (vU []) b) (br (d==2) (∀d,drawn c d->∃(c:WP),c d/\nn a λe=>∃f,(∀a,c a->cL a (e.add 2) (vP f))/\∃e,(∀a,c a->cL a (Addr.add (aM b) 1) (iI e))/\rE 224 [vP f,iI e] d λd e=>∃f g,d=vU [iI f,iI g]/\c e/\nn a λc=>cLp e c λd=>rE 225 [vP d,iI f] e λc d=>∃e f h i,c=vU [vS e f h,iI i]/\∀c,drawn d c->∃(d:WP),d c/\nn a λi=>∃j,(∀a,d a->cL a (i.add 1) (vP j))/\∃i,(∀a,d a->cL a (Addr.add (aM b) 1) (iI i))/\rE 226 [vP j,iI g,iI i,vS e f h] c λb c=>∃e f,b=vU [iI e,iI f]/\d c/\∀b,drawn c b->∃(c:WP),c b/\nn a λd=>∃f,(∀a,c a->cL a d (vP f))/\nn a λd=>∃h,(∀a,c a->cL a (d.add 2) (vP h))/\nn a λa=>∃d,(∀b,c b->cL b a (vP d))/\rEi 228 [vP d] b λd b=>c b/\rEi 227 [vP h,iI d,iI g] b λd b=>c b/\rEi 223 [vP f,iI d,iI e] b λc b=>R (vU []) b) (br (d==3) (nn a λa=>st1 c (a.add 6) (vB true) λa=>R (vU []) a) (R (vU []) c)))):ρ 130 [.pointer a,(.agg #[iI A,iI B]),iI C] w R:=rv Tryz.func130 ⟨[],[],[],[]⟩ h
theorem jq(h:br (Option.isNone a) (R (vS none 0 0) w) (new w (oC [] 138) λb c=>rS (fX 38 (Array.mk [vS (some (aM b)) 0 0,vS a i j])) c λa b=>∃c d e,a=vS c d e/\R (vS c d e) b)):ρ 131 [vS a i j] w R:=rv Tryz.func131 ⟨[],[],[],[]⟩ h
theorem xx(h:br (Option.isNone a) (R (vP none) w) (new w (oC [vP a,iI 0,vS none 0 0] 450) λa b=>rE 303 [vP (some (aM a))] b λb c=>b=vU []/\R (vP (some (aM a))) c)):ρ 219 [.pointer a] w R:=rv Tryz.func219 ⟨[],[],[],[]⟩ h
theorem xz{a:ahr}{b:Int}{w:ahs}{R:Value->WP}(h:∃(x1:lP []),∃(x2:lN []),x1 w/\∀(I1:Nat->Value)(w1:ahs),x1 w1->∃(x3:lP [(6,S1.one Cs.ptr)]),(∀w2,drawn w1 w2->∃(I2:WP),I2 w2/\nn a λa1=>∃(t1:TypeId),∃v1,(∀w3,I2 w3->cL w3 (a1.add 6) (Value.iface t1 v1))/\nn a λa2=>∃o1,(∀w4,I2 w4->cL w4 a2 (vP o1))/\(rEi 304 [vP o1] w2 λn1 w5=>I2 w5/\(∃g1 x4,Sem.run Tryz.prog (callMethod (Value.iface t1 v1) "presage/trial.action" (Array.mk [iI n1,iI b])) w5=Result.ok (Next.enter g1 (Array.mk x4)) w5/\rE g1 x4 w5 λv3 w6=>∃n2 n3,v3=vG [iI n2,iI n3]/\new w6 (oC [iI 0,iI 0] 170) λk1 w7=>I2 w7/\bC w7 (aM k1) [iI n2,iI n3] λw8=>x3 (some (aM k1)) w8)/\new w5 (oC [iI 0,iI 0] 170) λk2 w9=>I2 w9/\∃g2 x5,Sem.run Tryz.prog (callMethod (Value.iface t1 v1) "presage/trial.action" (Array.mk [iI n1,iI b])) w9=Result.ok (Next.enter g2 (Array.mk x5)) w9/\rE g2 x5 w9 λv4 w10=>∃n4 n5,v4=vG [iI n4,iI n5]/\bC w10 (aM k2) [iI n4,iI n5] λw11=>x3 (some (aM k2)) w11)/\new w2 (oC [iI 0,iI 0] 170) λk3 w12=>I2 w12/\rEi 304 [vP o1] w12 λn6 w13=>I2 w13/\∃g3 x6,Sem.run Tryz.prog (callMethod (Value.iface t1 v1) "presage/trial.action" (Array.mk [iI n6,iI b])) w13=Result.ok (Next.enter g3 (Array.mk x6)) w13/\rE g3 x6 w13 λv6 w14=>∃n7 n8,v6=vG [iI n7,iI n8]/\bC w14 (aM k3) [iI n7,iI n8] λw15=>x3 (some (aM k3)) w15)/\∀(I3:Nat->Value)(o2:ahr)(w16:ahs),x3 o2 w16->nn o2 λa3=>cLi w16 a3 λn9=>br (n9==1) (nn a λa4=>cLp w16 a4 λo3=>rEi 305 [vP o3] w16 λn10 w17=>bQ (64<=n10) (R (vU [vB false,iI 15]) w17) (∀w18,drawn w17 w18->∃(I4:WP),I4 w18/\nn a λa5=>∃o4 k4 k5,(∀w19,I4 w19->cL w19 (a5.add 7) (vS o4 k4 k5))/\nn o2 λa6=>∃n11 n12,(∀w20,I4 w20->rA w20 a6 2 [iI n11,iI n12])/\new w18 (oC [iI n11,iI n12] 170) λk6 w21=>I4 w21/\rS (fX 86 (Array.mk [vS o4 k4 k5,vS (some (aM k6)) 1 1])) w21 λv8 w22=>∃o5 k7 k8,v8=vS o5 k7 k8/\I4 w22/\nn a λa7=>st1 w22 (a7.add 7) (vS o5 k7 k8) λw23=>R (vU [vB true,iI 0]) w23)) (br (n9==3) (∀w24,drawn w16 w24->∃(I5:WP),I5 w24/\nn a λa8=>∃o6 k9 k10,(∀w25,I5 w25->cL w25 (a8.add 7) (vS o6 k9 k10))/\nn o2 λa9=>∃n13 n14,(∀w26,I5 w26->rA w26 a9 2 [iI n13,iI n14])/\new w24 (oC [iI n13,iI n14] 170) λk11 w27=>I5 w27/\rS (fX 86 (Array.mk [vS o6 k9 k10,vS (some (aM k11)) 1 1])) w27 λv9 w28=>∃o7 k12 k13,v9=vS o7 k12 k13/\I5 w28/\nn a λa10=>st1 w28 (a10.add 7) (vS o7 k12 k13) λw29=>R (vU [vB true,iI 0]) w29) (br (n9==2) (nn a λa11=>cLs w16 (a11.add 7) λo8 k14 k15=>bQ (1024<=(k14:Int)) (R (vU [vB false,iI 15]) w16) (∀w30,drawn w16 w30->∃(I6:WP),I6 w30/\nn a λa12=>∃o9 k16 k17,(∀w31,I6 w31->cL w31 (a12.add 7) (vS o9 k16 k17))/\nn o2 λa13=>∃n15 n16,(∀w32,I6 w32->rA w32 a13 2 [iI n15,iI n16])/\new w30 (oC [iI n15,iI n16] 170) λk18 w33=>I6 w33/\rS (fX 86 (Array.mk [vS o9 k16 k17,vS (some (aM k18)) 1 1])) w33 λv10 w34=>∃o10 k19 k20,v10=vS o10 k19 k20/\I6 w34/\nn a λa14=>st1 w34 (a14.add 7) (vS o10 k19 k20) λw35=>∀w36,drawn w35 w36->∃(I7:WP),I7 w36/\nn a λa15=>∃o11 k21 k22,(∀w37,I7 w37->cL w37 (Addr.add (a15.add 1) 4) (vS o11 k21 k22))/\nn o2 λa16=>∃n17,(∀w38,I7 w38->cL w38 (a16.add 1) (iI n17))/\idx o11 k21 n17 3 λa17=>∃n18 o12 k23 k24 n19,(∀w39,I7 w39->rA w39 a17 3 [iI n18,vS o12 k23 k24,iI n19])/\new w36 (oC [iI 0,vS none 0 0,iI 0] 134) λk25 w40=>I7 w40/\bC w40 (aM k25) [iI n18,vS o12 k23 k24,iI n19] λw41=>∀w42,drawn w41 w42->∃(I8:WP),I8 w42/\nn a λa18=>∃o13,(∀w43,I8 w43->cL w43 a18 (vP o13))/\∃o14 k26 k27,(∀w44,I8 w44->cL w44 (Addr.add (aM k25) 1) (vS o14 k26 k27))/\rEi 306 [vP o13,iI (k26:Int)] w42 λn20 w45=>∃(x7:lP [(8,aN)]),(∀w46,drawn w45 w46->∃(I9:WP),I9 w46/\nn a λa19=>∃o15,(∀w47,I9 w47->cL w47 a19 (vP o15))/\nn a λa20=>∃(t2:TypeId),∃v12,(∀w48,I9 w48->cL w48 (a20.add 6) (Value.iface t2 v12))/\nn a λa21=>∃o16,(∀w49,I9 w49->cL w49 a21 (vP o16))/\∃n21,(∀w50,I9 w50->cL w50 (aM k25) (iI n21))/\nn a λa22=>∃o17 k28 k29,(∀w51,I9 w51->cL w51 (a22.add 1) (vS o17 k28 k29))/\aD (n21-(k28:Int))/\rEi 304 [vP o16] w46 λn22 w52=>I9 w52/\∃g4 x8,Sem.run Tryz.prog (callMethod (Value.iface t2 v12) "presage/trial.target" (Array.mk [iI n22,iI (n21-(k28:Int))])) w52=Result.ok (Next.enter g4 (Array.mk x8)) w52/\rEi g4 x8 w52 λn23 w53=>I9 w53/\rEi 307 [vP o15,iI n23] w53 λn24 w54=>I9 w54/\x7 n24 w54)/\∀(I10:Nat->Value)(n25:Int)(w55:ahs),x7 n25 w55->br (n25 !=0) (R (vU [vB false,iI n25]) w55) (x1 w55/\x2 w55<x2 w1))) (R (vU [vB false,iI 0]) w16)))):ρ 220 [.pointer a,iI b] w R:=rv Tryz.func220 ⟨[(1,[])],[(2,[(6,(.one .ptr))]),(19,[(8,(.one (.int .i64)))])],[],[]⟩ h
theorem qT(h:rEb 308 [vP a] w λd c=>br (!d) (R (vS none 0 0) c) (∀b,drawn c b->∃(c:WP),c b/\nn a λd=>∃e,(∀a,c a->cL a d (vP e))/\nn e λd=>∃e,(∀a,c a->cL a d (iI e))/\nn a λd=>∃f,(∀a,c a->cL a d (vP f))/\nn f λd=>∃f g h,(∀a,c a->cL a (d.add 1) (vS f g h))/\nn a λd=>∃i j k,(∀a,c a->cL a (d.add 2) (vS i j k))/\(new b (oC [iI e] 3) λb d=>c d/\rEi 310 [vP a] d λe d=>c d/\lV f g h none (some e) none 1 λ(a:ahr)(e f:Nat)=>new d (oC [vS (some (aM b)) 1 1,vS a e f,vS i j k] 24) λa b=>c b/\rEs 309 [vS (some (aM a)) 3 3] b λd e f b=>c b/\R (vS d e f) b)/\rEi 310 [vP a] b λd b=>c b/\lV f g h none (some d) none 1 λ(a:ahr)(d f:Nat)=>new b (oC [iI e] 3) λb e=>c e/\new e (oC [vS (some (aM b)) 1 1,vS a d f,vS i j k] 24) λa b=>c b/\rEs 309 [vS (some (aM a)) 3 3] b λd e f b=>c b/\R (vS d e f) b)):ρ 221 [.pointer a] w R:=rv Tryz.func221 ⟨[],[],[],[]⟩ h
theorem yX(h:br (Option.isNone a) (R (vU [iI 0,iI 1]) w) (bQ (A<0) (R (vU [iI 0,iI 1]) w) (bQ (B<0) (R (vU [iI 0,iI 1]) w) (rE 311 [vP a,vG [iI A,iI (-1),iI B,vS none 0 0]] w λa b=>∃c d,a=vU [iI c,iI d]/\R (vU [iI c,iI d]) b)))):ρ 222 [.pointer a,iI A,iI B] w R:=rv Tryz.func222 ⟨[],[],[],[]⟩ h
theorem xC(h:br (Option.isNone a) (R (iI 1) w) (nn a λb=>cLs w (b.add 1) λc d e=>bQ (64<=(d:Int)) (R (iI 15) w) (nn a λb=>cLs w (b.add 1) λc d e=>new w (oC [iI A] 3) λb f=>rS (fX 24 (Array.mk [vS c d e,vS (some (aM b)) 1 1])) f λb c=>∃d e f,b=vS d e f/\nn a λb=>st1 c (b.add 1) (vS d e f) λb=>nn a λc=>cLs b (c.add 2) λd e f=>new b (oC [iI B] 3) λb c=>rS (fX 24 (Array.mk [vS d e f,vS (some (aM b)) 1 1])) c λb c=>∃d e f,b=vS d e f/\nn a λa=>st1 c (a.add 2) (vS d e f) λa=>R (iI 0) a))):ρ 223 [.pointer a,iI A,iI B] w R:=rv Tryz.func223 ⟨[],[],[],[]⟩ h
theorem sJ(h:∀b,drawn w b->∃(c:WP),c b/\nn a λd=>∃e f g,(∀a,c a->cL a (d.add 4) (vS e f g))/\idx e f A 3 λd=>∃e f g,(∀a,c a->cL a (d.add 1) (vS e f g))/\nn a λa=>∃d e g,(∀b,c b->cL b (a.add 4) (vS d e g))/\idx d e A 3 λa=>∃d,(∀b,c b->cL b a (iI d))/\R (vU [iI (f:Int),iI d]) b):ρ 224 [.pointer a,iI A] w R:=rv Tryz.func224 ⟨[],[],[],[]⟩ h
theorem yZ(h:∃(b:lP [(22,Bw)]),br (Option.isNone a) (b true w) (bQ (A<0) (b true w) (nn a λa=>cLs w (a.add 1) λc d e=>b (decide ((d:Int)<A)) w))/\∀(_:ν) c d,b c d->br c (R (vU [vS none 0 0,iI 1]) d) (nn a λb=>cLs d (b.add 1) λc e f=>aD ((e:Int)-A)/\nn a λb=>cLs d (b.add 2) λc f g=>lV c f g (some ((e:Int)-A)) none none 1 λ(b:ahr)(c f:Nat)=>rEs 115 [vS b c f] d λd f g c=>rEs 132 [vS d f g] c λd f g c=>nn a λb=>cLs c (b.add 1) λh i j=>lV h i j none (some ((e:Int)-A)) none 1 λ(b:ahr)(h i:Nat)=>nn a λj=>st1 c (j.add 1) (vS b h i) λb=>nn a λc=>cLs b (c.add 2) λh i j=>lV h i j none (some ((e:Int)-A)) none 1 λ(c:ahr)(e h:Nat)=>nn a λa=>st1 b (a.add 2) (vS c e h) λa=>R (vU [vS d f g,iI 0]) a)):ρ 225 [.pointer a,iI A] w R:=rv Tryz.func225 ⟨[],[(2,[(22,(.one .bool))])],[],[]⟩ h
theorem y7(h:∃(c:lP [(25,Bw)]),br (Option.isNone a) (c true w) (bQ (A<0) (c true w) (bQ (B<0) (c true w) (rEb 312 [vP a,vS b i j] w λd b=>c (!d) b)))/\∀(_:ν) d e,c d e->br d (R (vU [iI 0,iI 1]) e) (rEs 115 [vS b i j] e λd e f c=>rE 311 [vP a,vG [iI A,iI B,iI 0,vS d e f]] c λa b=>∃c d,a=vU [iI c,iI d]/\R (vU [iI c,iI d]) b)):ρ 226 [.pointer a,iI A,iI B,vS b i j] w R:=rv Tryz.func226 ⟨[],[(2,[(25,(.one .bool))])],[],[]⟩ h
theorem sO{a:ahr}{b c:Int}{w:ahs}{R:Value->WP}(h:∀w1,drawn w w1->∃(I1:WP),I1 w1/\nn a λa1=>∃(t1:TypeId),∃v1,(∀w2,I1 w2->cL w2 (a1.add 5) (Value.iface t1 v1))/\nn a λa2=>∃o1 k1 k2,(∀w3,I1 w3->cL w3 a2 (vS o1 k1 k2))/\aD (c-(k1:Int))/\∃g1 x1,Sem.run Tryz.prog (callMethod (Value.iface t1 v1) "presage/trial.target" (Array.mk [iI b,iI (c-(k1:Int))])) w1=Result.ok (Next.enter g1 (Array.mk x1)) w1/\rEi g1 x1 w1 λn1 w4=>I1 w4/\R (iI n1) w4):ρ 227 [.pointer a,iI b,iI c] w R:=rv Tryz.func227 ⟨[],[],[],[]⟩ h
theorem y9(h:br (Option.isNone a) (R (iI 0) w) (nn a λb=>cLs w (b.add 1) λc d e=>br ((d:Int)==0) (nn a λa=>cLi w a λb=>R (iI b) w) (∀b,drawn w b->∃(c:WP),c b/\nn a λd=>∃e f g,(∀a,c a->cL a (d.add 1) (vS e f g))/\nn a λa=>∃d g h,(∀b,c b->cL b (a.add 1) (vS d g h))/\aD ((g:Int)-1)/\idx e f ((g:Int)-1) 1 λa=>∃d,(∀b,c b->cL b a (iI d))/\R (iI d) b))):ρ 228 [.pointer a] w R:=rv Tryz.func228 ⟨[],[],[],[]⟩ h
theorem sR(h:rEb 308 [vP a] w λd c=>br d (nn a λb=>cLp c b λd=>nn d λb=>cLs c (b.add 1) λd e f=>nn a λb=>st1 c (b.add 1) (iI (e:Int)) λb=>nn a λa=>st1 b (a.add 2) (vS none 0 0) λa=>R (vU []) a) (R (vU []) c)):ρ 303 [.pointer a] w R:=rv Tryz.func303 ⟨[],[],[],[]⟩ h
theorem vF(h:rEb 308 [vP a] w λd c=>br (!d) (R (iI 0) c) (nn a λb=>cLs c (b.add 2) λd e f=>bQ (0<(e:Int)) (∀b,drawn c b->∃(c:WP),c b/\nn a λd=>∃e f g,(∀a,c a->cL a (d.add 2) (vS e f g))/\nn a λa=>∃d g h,(∀b,c b->cL b (a.add 2) (vS d g h))/\aD ((g:Int)-1)/\idx e f ((g:Int)-1) 1 λa=>∃d,(∀b,c b->cL b a (iI d))/\R (iI d) b) (rEi 310 [vP a] c λd c=>bQ (0<d) (∀b,drawn c b->∃(c:WP),c b/\nn a λd=>∃e,(∀a,c a->cL a d (vP e))/\nn e λd=>∃e f g,(∀a,c a->cL a (d.add 1) (vS e f g))/\rEi 310 [vP a] b λd b=>∃(a:WP),a b/\(∀b,a b->c b)/\aD (d-1)/\idx e f (d-1) 1 λc=>∃d,(∀b,a b->cL b c (iI d))/\R (iI d) b) (nn a λa=>cLp c a λb=>nn b λa=>cLi c a λb=>R (iI b) c)))):ρ 304 [.pointer a] w R:=rv Tryz.func304 ⟨[],[],[],[]⟩ h
theorem qV(h:rEb 308 [vP a] w λd c=>br (!d) (R (iI 0) c) (∀b,drawn c b->∃(c:WP),c b/\nn a λd=>∃e,(∀a,c a->cL a (d.add 1) (iI e))/\nn a λa=>∃d f g,(∀b,c b->cL b (a.add 2) (vS d f g))/\aD (e+(f:Int))/\R (iI (e+(f:Int))) b)):ρ 305 [.pointer a] w R:=rv Tryz.func305 ⟨[],[],[],[]⟩ h
theorem vI(h:∃(b:lP [(18,Bw)]),(rEb 308 [vP a] w λe d=>br (!e) (b true d) (bQ (A<0) (b true d) (rEi 305 [vP a] d λd c=>b (decide (d<A)) c)))/\∀(_:ν) c d,b c d->br c (R (iI 1) d) (nn a λb=>cLs d (b.add 2) λc e f=>∀b,drawn d b->∃(c:WP),c b/\nn a λd=>∃f g h,(∀a,c a->cL a (d.add 2) (vS f g h))/\nn a λd=>∃i j k,(∀a,c a->cL a (d.add 2) (vS i j k))/\aD ((j:Int)-if(e:Int)<A then(e:Int) else A)/\lV f g h none (some ((j:Int)-if(e:Int)<A then(e:Int) else A)) none 1 λ(c:ahr)(d f:Nat)=>nn a λg=>st1 b (g.add 2) (vS c d f) λb=>nn a λc=>cLi b (c.add 1) λd=>aD (A-if(e:Int)<A then(e:Int) else A)/\aD (d-(A-if(e:Int)<A then(e:Int) else A))/\nn a λa=>st1 b (a.add 1) (iI (d-(A-if(e:Int)<A then(e:Int) else A))) λa=>R (iI 0) a)):ρ 306 [.pointer a,iI A] w R:=rv Tryz.func306 ⟨[],[(2,[(18,(.one .bool))])],[],[]⟩ h
theorem ur(h:rEb 308 [vP a] w λd c=>br (!d) (R (iI 1) c) (rEi 305 [vP a] c λd c=>bQ (64<=d) (R (iI 15) c) (nn a λb=>cLs c (b.add 2) λd e f=>new c (oC [iI A] 3) λb c=>rS (fX 24 (Array.mk [vS d e f,vS (some (aM b)) 1 1])) c λb c=>∃d e f,b=vS d e f/\nn a λa=>st1 c (a.add 2) (vS d e f) λa=>R (iI 0) a))):ρ 307 [.pointer a,iI A] w R:=rv Tryz.func307 ⟨[],[],[],[]⟩ h
theorem sV(h:br (!Option.isNone a) (nn a λa=>cLp w a λb=>R (vB !Option.isNone b) w) (R (vB false) w)):ρ 308 [.pointer a] w R:=rv Tryz.func308 ⟨[],[],[],[]⟩ h
theorem o_(h:τ [(3,aN),(11,aN)] λb c=>b 0 0 w/\∀(_:ν) d e f,b d e f->bQ (e<(i:Int)) (idx a i e 1 λa=>∃g h i,World.cell? f a=some (vS g h i)/\aD (d+(h:Int))/\bQ (d+(h:Int)<0) False (aD (e+1)/\b (d+(h:Int)) (e+1) f/\c (d+(h:Int)) (e+1) f<c d e f)) (rEs 359 [vS none 0 0,iI d] f λd e f c=>τ [(6,lY),(27,aN)] λb g=>b d e f 0 c/\∀(_:ν) c d e f h,b c d e f h->bQ (f<(i:Int)) (idx a i f 1 λa=>∃i j k,World.cell? h a=some (vS i j k)/\rS (fX 24 (Array.mk [vS c d e,vS i j k])) h λa i=>∃j k l,a=vS j k l/\aD (f+1)/\b j k l (f+1) i/\g j k l (f+1) i<g c d e f h) (R (vS c d e) h))):ρ 309 [vS a i j] w R:=rv Tryz.func309 ⟨[(3,[(3,(.one (.int .i64))),(11,(.one (.int .i64)))]),(11,[(6,(.one .slice)),(27,(.one (.int .i64)))])],[],[],[]⟩ h
theorem sZ(h:∀b,drawn w b->∃(c:WP),c b/\nn a λd=>∃e,(∀a,c a->cL a (d.add 1) (iI e))/\nn a λa=>∃d,(∀b,c b->cL b a (vP d))/\nn d λa=>∃d f g,(∀b,c b->cL b (a.add 1) (vS d f g))/\R (iI (if(f:Int)<e then(f:Int) else e)) b):ρ 310 [.pointer a] w R:=rv Tryz.func310 ⟨[],[],[],[]⟩ h
theorem AK(h:new w (oC [iI A,iI B,iI C,vS b i j] 138) λb c=>∀d,drawn c d->∃(c:WP),c d/\nn a λe=>∃f g h,(∀a,c a->cL a e (vS f g h))/\∃e i j k l m,(∀a,c a->rA a (aM b) 4 [iI e,iI i,iI j,vS k l m])/\new d (oC [iI e,iI i,iI j,vS k l m] 138) λb d=>c d/\rS (fX 38 (Array.mk [vS f g h,vS (some (aM b)) 1 1])) d λb d=>∃e f g,b=vS e f g/\c d/\nn a λb=>st1 d b (vS e f g) λb=>nn a λc=>cLs b (c.add 1) λd e f=>new b (oC [vB false] 4) λb c=>rS (fX 47 (Array.mk [vS d e f,vS (some (aM b)) 1 1])) c λb c=>∃d e f,b=vS d e f/\nn a λb=>st1 c (b.add 1) (vS d e f) λb=>nn a λa=>cLs b a λc d e=>aD ((d:Int)-1)/\R (vU [iI ((d:Int)-1),iI 0]) b):ρ 311 [.pointer a,(.agg #[iI A,iI B,iI C,vS b i j])] w R:=rv Tryz.func311 ⟨[],[],[],[]⟩ h
theorem zc(h:new w (oC [vP a] 146) λa c=>rEb 126 [vS b i j,Value.func (Fn.func 360) (Array.mk []) (Array.mk [vP (some (aM a))])] c λe d=>br e (R (vB false) d) (τ [(14,aN)] λc e=>c 0 d/\∀(_:ν) d f,c d f->bQ (d<(i:Int)) (idx b i d 1 λg=>cLi f g λh=>cLp f (aM a) λg=>nn g λg=>cLs f (g.add 1) λk l m=>idx k l h 1 λg=>cLb f g λk=>br k (lV b i j none (some d) none 1 λ(b:ahr)(c _:Nat)=>τ [(30,aN)] λd e=>d 0 f/\∀(_:ν) f g,d f g->bQ (f<(c:Int)) (idx b c f 1 λb=>cLi g b λc=>cLp g (aM a) λb=>nn b λa=>cLs g (a.add 1) λb h i=>idx b h c 1 λa=>st1 g a (vB false) λa=>aD (f+1)/\d (f+1) a/\e (f+1) a<e f g) (R (vB false) g)) (cLp f (aM a) λb=>nn b λa=>cLs f (a.add 1) λb g i=>idx b g h 1 λa=>st1 f a (vB true) λa=>aD (d+1)/\c (d+1) a/\e (d+1) a<e d f)) (R (vB true) f))):ρ 312 [.pointer a,vS b i j] w R:=rv Tryz.func312 ⟨[(4,[(14,(.one (.int .i64)))]),(8,[(30,(.one (.int .i64)))])],[],[],[]⟩ h
theorem qX(h:bQ (A<0) False (rS (Builtin.cap_ (Array.mk [24]) 3 (Array.mk [vS a i j])) w λb c=>∃d,b=iI d/\aD (d-(i:Int))/\aD (A-(d-(i:Int)))/\bQ (0<A-(d-(i:Int))) (rS (Builtin.cap_ (Array.mk [24]) 3 (Array.mk [vS a i j])) c λb c=>∃e,b=iI e/\lV a i j none (some e) none 1 λ(a:ahr)(b e:Nat)=>rS (Builtin.append_ (Array.mk [24,3]) 24 (Array.mk [vS a b e,iI (A-(d-(i:Int)))])) c λa b=>∃c d e,a=vS c d e/\lV c d e none (some (i:Int)) none 1 λ(a:ahr)(c d:Nat)=>R (vS a c d) b) (R (vS a i j) c))):ρ 359 [vS a i j,iI A] w R:=rv Tryz.func359 ⟨[],[],[],[]⟩ h
theorem uw{b:Addr}(h:bQ (A<0) (R (vB true) w) (cLp w b λa=>nn a λa=>cLs w a λc d e=>bQ ((d:Int)<=A) (R (vB true) w) (cLp w b λa=>nn a λa=>cLs w (a.add 1) λb c d=>idx b c A 1 λa=>cLb w a λb=>R (vB b) w))):ρ 360 [iI A,(.pointer (some b))] w R:=rv Tryz.func360 ⟨[],[],[],[]⟩ h
abbrev mT:FuncId:=420
theorem uy(h:new w (oC [vS a i j,vS b k l] 376) λa b=>cLs b (Addr.add (aM a) 1) λc d e=>idx c d A 1 λa=>cLs b a λc d e=>idx c d B 1 λa=>cLi b a λc=>R (iI c) b):ρ 420 [(.agg #[vS a i j,vS b k l]),iI A,iI B] w R:=rv Tryz.func420 ⟨[],[],[],[]⟩ h
end
abbrev lL:FuncId:=421
theorem s_{a:ahr}{b c:Nat}{d:ahr}{e f:Nat}{g:ahr}{i j:Nat}{k:ahr}{l m:Nat}{n:ahr}{o p:Nat}{q:ahr}{s t:Nat}{u:ahr}{v x:Nat}{y:ahr}{z aa:Nat}{ab ac:Int}{w:ahs}{R:Value->WP}(h:new w (oC [vS a b c,vS d e f,vS g i j,vS k l m,vS n o p,vS q s t,vS u v x,vS y z aa] 379) λa b=>new b (oC [iI 0,iI 0] 170) λb c=>∃d e f g h i j k l m n o p q r s t u v w x y z a0,rA c (aM a) 8 [vS d e f,vS g h i,vS j k l,vS m n o,vS p q r,vS s t u,vS v w x,vS y z a0]/\rE 423 [vG [vS d e f,vS g h i,vS j k l,vS m n o,vS p q r,vS s t u,vS v w x,vS y z a0],iI ab,iI ac] c λa c=>∃d e,a=vG [iI d,iI e]/\bC c (aM b) [iI d,iI e] λa=>∃c d,rA a (aM b) 2 [iI c,iI d]/\R (vG [iI c,iI d]) a):ρ 421 [(.agg #[vS a b c,vS d e f,vS g i j,vS k l m,vS n o p,vS q s t,vS u v x,vS y z aa]),iI ab,iI ac] w R:=rv Tryz.func421 ⟨[],[],[],[]⟩ h
abbrev lM:FuncId:=422
theorem te{a:ahr}{b c:Nat}{d:ahr}{e f:Nat}{g:ahr}{i j:Nat}{k:ahr}{l m:Nat}{n:ahr}{o p:Nat}{q:ahr}{s t:Nat}{u:ahr}{v x:Nat}{y:ahr}{z aa:Nat}{ab ac:Int}{w:ahs}{R:Value->WP}(h:new w (oC [vS a b c,vS d e f,vS g i j,vS k l m,vS n o p,vS q s t,vS u v x,vS y z aa] 379) λa b=>∃c d e f g h i j k l m n o p q r s t u v w x y z,rA b (aM a) 8 [vS c d e,vS f g h,vS i j k,vS l m n,vS o p q,vS r s t,vS u v w,vS x y z]/\rEi 424 [vG [vS c d e,vS f g h,vS i j k,vS l m n,vS o p q,vS r s t,vS u v w,vS x y z],iI ab,iI ac] b λc b=>R (iI c) b):ρ 422 [(.agg #[vS a b c,vS d e f,vS g i j,vS k l m,vS n o p,vS q s t,vS u v x,vS y z aa]),iI ab,iI ac] w R:=rv Tryz.func422 ⟨[],[],[],[]⟩ h
end
def FF(h:Hp)(k:Nat)(st:List Int):Prop:=∃o n c r,aj h (aM k) [iI 0,vS o n c,r]/\aY h st o n/\n<=64/\n<=c
theorem FF.mono{h h':Hp}{k:Nat}{st:List Int}(s:sub h h')(r:FF h k st):FF h' k st:=by
 obtain⟨o,n,c,r,J,u,O⟩:=r;exact⟨o,n,c,r,J.mono s,u.mono s,O⟩
def JK(m k kept:Nat)(ab:List Int):aC:=Proofs.YtaoaemnefghnbaaGreatDoor.ex λ(x:ahr×Nat)=>aV [az m [vP (some (aM k)),iI (kept:Int),vS x.1 ab.length x.2],own 1 x.1 ab.length x.2 (iv ab)]
theorem mC{w:ahs}{L:List aC}{m k kept:Nat}{ab:List Int}:St w (JK m k kept ab::L)↔∃o c,St w (az m [vP (some (aM k)),iI (kept:Int),vS o ab.length c]::own 1 o ab.length c (iv ab)::L):=by simp[JK,St.ex,St.flat]
section
variable{w:ahs}{L:List aC}{m k kept:Nat}{st ab:List Int}{a:Addr}
theorem yr(h:w.cell? (aM m)=some (vP (some a))):ρ 308 [vP (some (aM m))] w λv w'=>v=vB true/\w'=w:=
 sV (dL rfl ⟨_,h,rfl,rfl⟩)
theorem Gg(h:St w (JK m k kept ab::L))(hs:∀h,aG L h->FF h k st):ρ 310 [vP (some (aM m))] w λv w'=>v=iI ((min kept st.length:Nat):Int)/\hp w'=hp w:=by
 refine sZ λY X=>?_;have O:=aP X;have h:=h.eq O;obtain⟨o,c,h⟩:=mC.1 h;obtain⟨h0,hl,J,_⟩:=h.Sr;obtain⟨U,n2,c2,r,V,W,_⟩:=hs _ hl;have Z:=W.1;refine⟨λu=>hp u=hp Y,rfl,(kept:Int),λu e=>(by rw[ak,cD e,h.cell];rfl:World.cell? u _=_),some (aM k),λu e=>(by rw[cD e,h.cell];rfl:World.cell? u _=_),U,n2,c2,λu e=>V.cell (by simp_all) (j:=1) rfl,?_,O⟩
 grind
theorem Hy(h:St w (JK m k kept ab::L))(hk:kept<=64)(ha:ab.length<=1000):ρ 305 [vP (some (aM m))] w λv w'=>v=iI ((kept+ab.length:Nat):Int)/\hp w'=hp w:=by
 obtain⟨o,c,h⟩:=mC.1 h;refine qV ((yr (h.cell 0)).mono ?_);rintro _ _⟨rfl,rfl⟩;refine⟨_,rfl,bn rfl λU O=>?_⟩;have J:=aP O;have h:=h.eq J;exact⟨λu=>hp u=hp U,rfl,_,λu e=>(by rw[ak,cD e,h.cell];rfl:World.cell? u _=_),_,_,_,λu e=>(by rw[ak,cD e,h.cell];rfl:World.cell? u _=_),⟨ω,ω⟩,σ,J⟩
theorem WW(h:St w (JK m k kept ab::L))(hs:∀h,aG L h->FF h k st)(hk:kept<=st.length)(ha:ab.length<=1000):ρ 304 [vP (some (aM m))] w λv w'=>v=iI ((0::(st.take kept++ab)).getLast σ)/\hp w'=hp w:=by
 have h0:=h;obtain⟨o,c,h⟩:=mC.1 h;obtain⟨h1,hl,a0,_⟩:=h.Sr;obtain⟨o2,n2,c2,r,q1,q2,q3⟩:=hs _ hl;have e2:=q2.1;refine vF ((yr (h.cell 0)).mono ?_);rintro _ _⟨rfl,rfl⟩
 refine⟨_,rfl,bn rfl ⟨_,_,_,(by rw[ak,h.cell];rfl:World.cell? _ _=_),ae (λW=>?_) λW=>?_⟩⟩
 ·have W:0<ab.length:=by simp_all
  intro w1 hd;have O:=aP hd;have J:=h.eq O;obtain⟨ad,rfl⟩:=eE J.tail (by simp_all[cZ]);have U:=bI J.tail;refine⟨λu=>hp u=hp w1,rfl,_,_,_,λu e=>(by rw[ak,cD e,J.cell];rfl:World.cell? u _=_),_,_,_,λu e=>(by rw[ak,cD e,J.cell];rfl:World.cell? u _=_),⟨ω,ω⟩,?_⟩;have Y:((ab.length:Int)-1)=((ab.length-1:Nat):Int):=ω
  rw[Y]
  refine ay rfl ω ⟨ab[ab.length-1],λu e=>?_,?_,O⟩
  ·show World.cell? u _=_
   rw[cD e];exact qp J.tail rfl (by simp[iv])
  grind
 ·have W:ab=[]:=afY (by simp_all);subst W;refine(Gg h0 hs).mono ?_;rintro _ w1⟨rfl,O⟩;have hm:min kept st.length=kept:=ω
  rw[hm];have J:=h.eq O
  refine⟨_,rfl,ae (λX=>?_) λX=>?_⟩
  ·have X:0<kept:=by simp_all
   intro Z hd;have e5:=aP hd;have V:=J.eq e5;have a4:sub h1 (hp Z):=by simp_all
   refine⟨λu=>hp u=hp Z,rfl,some (aM k),λu e=>(by rw[cD e,V.cell];rfl:World.cell? u _=_),o2,n2,c2,λu e=>q1.cell (by simp_all) (j:=1) rfl,(Gg (mC.2 ⟨o,c,V⟩) hs).mono ?_⟩;rintro _ w3⟨rfl,Y⟩;rw[hm];have hx:st[kept-1]? =some st[kept-1]:=afJ ω;obtain⟨ad,rfl,hc⟩:=q2.at hx;refine⟨_,rfl,λu=>hp u=hp Z,Y,λu e=>e,⟨ω,ω⟩,?_⟩;have e4:((kept:Int)-1)=((kept-1:Nat):Int):=ω
   rw[e4];have U:kept-1<n2:=ω
   refine ay rfl U ⟨_,λu e=>hc u (by simp_all),?_,by simp_all⟩
   grind
  ·have X:kept=0:=by simp_all
   subst X;exact⟨some (aM k),(by rw[J.cell];rfl:World.cell? _ _=_),_,q1.cell0 (by simp_all),σ,O⟩
end
section
variable{w:ahs}{L:List aC}{m k kept n:Nat}{st ab:List Int}{z:Int}
theorem acI(h:St w (JK m k kept ab::L))(hk:kept<=64)(ha:ab.length<=1000):ρ 307 [vP (some (aM m)),iI z] w λv w'=>
  (64<=kept+ab.length/\v=iI 15/\hp w'=hp w)\/(kept+ab.length<64/\v=iI 0/\St w' (JK m k kept (ab++[z])::L)):=by
 have h0:=h;obtain⟨o,c,h⟩:=mC.1 h;refine ur ((yr (h.cell 0)).mono ?_);rintro _ _⟨rfl,rfl⟩;refine⟨_,rfl,bn rfl ((Hy h0 hk ha).mono ?_)⟩;rintro _ w1⟨rfl,W⟩
 refine⟨_,rfl,ae (λu=>?_) λu=>?_⟩
 ·grind
 ·have u:kept+ab.length<64:=by grind
  have h:=h.eq W;refine⟨_,_,_,(by rw[ak,h.cell];rfl:World.cell? _ _=_),ag h λb Z h=>?_⟩;refine(aU aT (rfl:ai Ty _=.slice _) (rfl:ai Ty _=.slice _) rfl rfl rfl (h.pick 3 [0,2,1]) rfl (by simp[aK]) (by grind) ω).mono ?_;rintro _ J⟨U,O,rfl,X⟩;refine⟨_,_,_,rfl,?_⟩
  show st1 J ((aM m).add 2) _ _
  rw[ak];have V:St J (az m [vP (some (aM k)),iI (kept:Int),vS o ab.length c]::own 1 U (ab.length+1) O (iv ab++[iI z])::L):=X.pick 3 [2,0];refine aR V σ λY h5=>.inr ⟨u,rfl,mC.2 ⟨U,O,?_⟩⟩
  simp_all[iv]
theorem aeD(h:St w (JK m k kept ab::L))(hk:kept<=64)(ha:ab.length<=1000)(hn:n<=kept+ab.length):ρ 306 [vP (some (aM m)),iI (n:Int)] w λv w'=>
  v=iI 0/\St w' (JK m k (kept-(n-ab.length)) (ab.take (ab.length-n))::L):=by
 have h0:=h;obtain⟨o,c,h⟩:=mC.1 h
 refine vI ⟨λb u=>b=false/\hp u=hp w,?_,?_⟩
 ·refine(yr (h.cell 0)).mono ?_;rintro _ _⟨rfl,rfl⟩;refine⟨_,rfl,bn rfl (bn σ ((Hy h0 hk ha).mono ?_))⟩
  grind
 rintro _ _ w1⟨rfl,W⟩;have h:=h.eq W;refine bn rfl ⟨_,_,_,(by rw[ak,h.cell];rfl:World.cell? _ _=_),λV hd=>?_⟩;have h:=h.eq (aP hd);have O:(if(ab.length:Int)<(n:Int) then(ab.length:Int) else(n:Int))=((min n ab.length:Nat):Int):=ω
 rw[O];have Z:(ab.length:Int)-((min n ab.length:Nat):Int)=((ab.length-n:Nat):Int):=ω
 have Y:(kept:Int)-((n:Int)-((min n ab.length:Nat):Int))=((kept-(n-ab.length):Nat):Int):=ω
 have hc:=bI h.tail;refine⟨λu=>hp u=hp V,rfl,_,_,_,λu e=>(by rw[ak,cD e,h.cell];rfl:World.cell? u _=_),_,_,_,λu e=>(by rw[ak,cD e,h.cell];rfl:World.cell? u _=_),⟨ω,ω⟩,?_⟩;rw[Z];refine ir ω ?_
 show st1 V ((aM m).add 2) _ _
 rw[ak];have J:=qz (k:=ab.length-n) h.swap ω;have J:=J.swap;refine aR J σ λX U=>?_;refine⟨_,(by rw[ak,U.cell];rfl:World.cell? _ _=_),⟨ω,ω⟩,⟨ω,ω⟩,?_⟩;rw[Y]
 show st1 X ((aM m).add 1) _ _
 rw[ak];refine aR U σ λw4 h4=>⟨rfl,mC.2 ⟨fE o 0 c 1,c,?_⟩⟩
 simp_all[iv,List.map_take]
theorem acJ(h:St w L)(hs:∀h,aG L h->FF h k st):ρ 219 [vP (some (aM k))] w λv w'=>∃b,v=vP (some (aM b))/\St w' (JK b k st.length []::L):=by
 refine xx (bn rfl (ag h λb U J=>?_))
 refine(sR ((yr (J.cell 0)).mono ?_)).mono (R:=λv w'=>v=.tuple #[]/\St w' (JK b k st.length []::L)) ?_
 ·rintro _ U⟨rfl,rfl⟩;obtain⟨h0,hl,u,_⟩:=J.freeze;obtain⟨o2,n2,c2,r,V,Y,_⟩:=hs _ hl;have X:=Y.1;refine⟨_,rfl,dL rfl ⟨some (aM k),J.cell 0,_,_,_,V.cell u (j:=1) rfl,?_⟩⟩
  show st1 U ((aM b).add 1) _ _
  rw[ak];refine aR J σ λw2 W=>?_
  show st1 w2 ((aM b).add 2) _ _
  rw[ak];refine aR W σ λw3 Z=>⟨rfl,mC.2 ⟨none,0,?_⟩⟩;have O:=aI 1 Z;rw[<-X] at O;exact O.swap
 simp
end
section
variable{a b c:ahr}{i j k l m n:Nat}{A B C:Int}{w:ahs}{R:Value->WP}
theorem JM(h:new w (oC [vS a i j,vS b k l] 94) λa b=>new b (oC [vS none 0 0,vS none 0 0,vS none 0 0,vS none 0 0,vS none 0 0,vS none 0 0,vS none 0 0,vS none 0 0] 106) λb c=>∃d e f g h i,rA c (aM a) 2 [vS d e f,vS g h i]/\rEb 107 [vG [vS d e f,vS g h i]] c λe d=>br (!e) (bC d (aM b) [vS none 0 0,vS none 0 0,vS none 0 0,vS none 0 0,vS none 0 0,vS none 0 0,vS none 0 0,vS none 0 0] λa=>∃c d e f g h i j k l m n o p q r s t u v w x y z,rA a (aM b) 8 [vS c d e,vS f g h,vS i j k,vS l m n,vS o p q,vS r s t,vS u v w,vS x y z]/\R (vU [vG [vS c d e,vS f g h,vS i j k,vS l m n,vS o p q,vS r s t,vS u v w,vS x y z],iI 1]) a) (new d (oC [vS none 0 0,vS none 0 0,vS none 0 0,vS none 0 0,vS none 0 0,vS none 0 0,vS none 0 0,vS none 0 0] 106) λc d=>cLs d (aM a) λe f g=>vd (f:Int) (f:Int) 24/\new d (Obj.cells (Array.mk (iX (Int.toNat (f:Int)) [vS none 0 0])) 197) λd e=>cLs e (aM a) λg h i=>τ [(26,aN)] λi j=>i 0 e/\∀(_:ν) e k,i e k->bQ (e<(h:Int)) (idx g h e 1 λa=>cLs k a λb g h=>rEi 108 [vS b g h,Value.func (Fn.func 109) (Array.mk []) (Array.mk []),iI (-1)] k λl h=>cLs h (aM c) λa m n=>new h (oC [iI l] 3) λh o=>rS (fX 24 (Array.mk [vS a m n,vS (some (aM h)) 1 1])) o λa h=>∃m n o,a=vS m n o/\st1 h (aM c) (vS m n o) λa=>τ [(41,aN)] λc h=>c 0 a/\∀(_:ν) a m,c a m->bQ (a<(g:Int)) (idx b g a 2 λb=>∃g i,rA m b 2 [iI g,iI i]/\new m (oC [iI 0,iI 0] 170) λb j=>bC j (aM b) [iI g,iI i] λg=>cLi g (aM b) λi=>br (i !=0) (cLi g (aM b) λi=>br (i !=2) (∀i,drawn g i->∃(g:WP),g i/\idx (some (aM d)) (Int.toNat (f:Int)) e 1 λj=>∃k l n,(∀a,g a->cL a j (vS k l n))/\∃j o,(∀a,g a->rA a (aM b) 2 [iI j,iI o])/\rEi 110 [vG [iI j,iI o]] i λj i=>g i/\new i (oC [iI a,iI j] 203) λb i=>g i/\rS (fX 197 (Array.mk [vS k l n,vS (some (aM b)) 1 1])) i λb i=>∃j k l,b=vS j k l/\g i/\idx (some (aM d)) (Int.toNat (f:Int)) e 1 λb=>st1 i b (vS j k l) λb=>aD (a+1)/\c (a+1) b/\h (a+1) b<h a m) (cLi g (Addr.add (aM b) 1) λi=>br (i !=l) (∀i,drawn g i->∃(g:WP),g i/\idx (some (aM d)) (Int.toNat (f:Int)) e 1 λj=>∃k l n,(∀a,g a->cL a j (vS k l n))/\∃j o,(∀a,g a->rA a (aM b) 2 [iI j,iI o])/\rEi 110 [vG [iI j,iI o]] i λj i=>g i/\new i (oC [iI a,iI j] 203) λb i=>g i/\rS (fX 197 (Array.mk [vS k l n,vS (some (aM b)) 1 1])) i λb i=>∃j k l,b=vS j k l/\g i/\idx (some (aM d)) (Int.toNat (f:Int)) e 1 λb=>st1 i b (vS j k l) λb=>aD (a+1)/\c (a+1) b/\h (a+1) b<h a m) (aD (a+1)/\c (a+1) g/\h (a+1) g<h a m))) (aD (a+1)/\c (a+1) g/\h (a+1) g<h a m)) (aD (e+1)/\i (e+1) m/\j (e+1) m<j e k)) (rE 111 [vS (some (aM d)) (Int.toNat (f:Int)) (Int.toNat (f:Int))] k λd e=>∃f g h i j k l m n o,d=vU [vG [vS f g h,vS i j k,vS l m n],iI o]/\bC e (Addr.add (aM c) 1) [vS f g h,vS i j k,vS l m n] λd=>cLs d (Addr.add (aM a) 1) λe f g=>idx e f 0 1 λe=>cLs d e λf g h=>vd (g:Int) (g:Int) 24/\new d (Obj.cells (Array.mk (iX (Int.toNat (g:Int)) [vS none 0 0])) 197) λd e=>τ [(89,aN)] λf h=>f 0 e/\∀(_:ν) e i,f e i->bQ (e<(↑(Int.toNat (g:Int)):Int)) (new i (oC [iI 0] 3) λb j=>st1 j (aM b) (iI e) λj=>cLs j (Addr.add (aM a) 1) λk l m=>rEi 112 [vS k l m,Value.func (Fn.func 113) (Array.mk []) (Array.mk [vP (some (aM b))]),iI (-1)] j λl k=>cLs k (Addr.add (aM c) 4) λj m n=>new k (oC [iI l] 3) λk o=>rS (fX 24 (Array.mk [vS j m n,vS (some (aM k)) 1 1])) o λj k=>∃m n o,j=vS m n o/\st1 k (Addr.add (aM c) 4) (vS m n o) λc=>cLs c (Addr.add (aM a) 1) λj k m=>τ [(105,aN)] λa m=>a 0 c/\∀(_:ν) c n,a c n->bQ (c<(k:Int)) (idx j k c 1 λe=>cLs n e λf h i=>cLi n (aM b) λe=>idx f h e 1 λe=>cLi n e λi=>bQ (0<=i) (cLi n (aM b) λe=>idx f h e 1 λe=>cLi n e λi=>br (i !=l) (∀e,drawn n e->∃(i:WP),i e/\∃j,(∀a,i a->cL a (aM b) (iI j))/\∃k,(∀a,i a->cL a (aM b) (iI k))/\idx (some (aM d)) (Int.toNat (g:Int)) k 1 λk=>∃l o p,(∀a,i a->cL a k (vS l o p))/\∃k,(∀a,i a->cL a (aM b) (iI k))/\idx f h k 1 λb=>∃f,(∀a,i a->cL a b (iI f))/\new e (oC [iI c,iI f] 203) λb e=>i e/\rS (fX 197 (Array.mk [vS l o p,vS (some (aM b)) 1 1])) e λb e=>∃f h k,b=vS f h k/\i e/\idx (some (aM d)) (Int.toNat (g:Int)) j 1 λb=>st1 e b (vS f h k) λb=>aD (c+1)/\a (c+1) b/\m (c+1) b<m c n) (aD (c+1)/\a (c+1) n/\m (c+1) n<m c n)) (aD (c+1)/\a (c+1) n/\m (c+1) n<m c n)) (aD (e+1)/\f (e+1) n/\h (e+1) n<h e i)) (rE 111 [vS (some (aM d)) (Int.toNat (g:Int)) (Int.toNat (g:Int))] i λa d=>∃e f g h i j k l m n,a=vU [vG [vS e f g,vS h i j,vS k l m],iI n]/\bC d (Addr.add (aM c) 5) [vS e f g,vS h i j,vS k l m] λa=>∃d e f g h i j k l m n o p q r s t u v w x y z a0,rA a (aM c) 8 [vS d e f,vS g h i,vS j k l,vS m n o,vS p q r,vS s t u,vS v w x,vS y z a0]/\bC a (aM b) [vS d e f,vS g h i,vS j k l,vS m n o,vS p q r,vS s t u,vS v w x,vS y z a0] λa=>∃c d e f g h i j k l m n o p q r s t u v w x y z,rA a (aM b) 8 [vS c d e,vS f g h,vS i j k,vS l m n,vS o p q,vS r s t,vS u v w,vS x y z]/\R (vU [vG [vS c d e,vS f g h,vS i j k,vS l m n,vS o p q,vS r s t,vS u v w,vS x y z],iI 0]) a)))):ρ 44 [(.agg #[vS a i j,vS b k l])] w R:=rv Tryz.func44 ⟨[(6,[(26,(.one (.int .i64)))]),(11,[(41,(.one (.int .i64)))]),(20,[(89,(.one (.int .i64)))]),(25,[(105,(.one (.int .i64)))])],[],[],[]⟩ h
theorem HA(h:new w (oC [vS a i j,vS b k l] 94) λa b=>cLs b (aM a) λc d e=>new b (oC [iI 0] 3) λb c=>st1 c (aM b) (iI (d:Int)) λc=>∃(d:lP [(22,Bw)]),(cLi c (aM b) λe=>bQ (e<1) (d true c) (cLi c (aM b) λe=>bQ (256<e) (d true c) (cLs c (Addr.add (aM a) 1) λe f g=>cLi c (aM b) λa=>d ((f:Int) !=a) c)))/\∀(_:ν) c e,d c e->br c (R (vB false) e) (∀c,drawn e c->∃(d:WP),d c/\∃e f g,(∀b,d b->cL b (aM a) (vS e f g))/\idx e f 0 1 λe=>∃f g h,(∀a,d a->cL a e (vS f g h))/\∃e f h,(∀b,d b->cL b (Addr.add (aM a) 1) (vS e f h))/\idx e f 0 1 λe=>∃f h i,(∀a,d a->cL a e (vS f h i))/\∃(d:lP [(42,Bw)]),bQ ((if(h:Int)<(g:Int) then(h:Int) else(g:Int))<1) (d true c) (d (decide (65<if(g:Int)<(h:Int) then(h:Int) else(g:Int))) c)/\∀(_:ν) c e,d c e->br c (R (vB false) e) (cLi e (aM b) λc=>τ [(44,aN)] λd f=>d 0 e/\∀(_:ν) e i,d e i->bQ (e<c) (∃(c:lP [(64,Bw)]),(cLs i (aM a) λb d f=>idx b d e 1 λb=>cLs i b λd f j=>br ((f:Int) !=(g:Int)) (c true i) (cLs i (Addr.add (aM a) 1) λb d f=>idx b d e 1 λa=>cLs i a λb d e=>c ((d:Int) !=(h:Int)) i))/\∀(_:ν) g h,c g h->br g (R (vB false) h) (cLs h (aM a) λc g j=>idx c g e 1 λc=>cLs h c λg j k=>rEb 203 [vS g j k,Value.func (Fn.func 204) (Array.mk []) (Array.mk [vP (some (aM b))])] h λh g=>br h (R (vB false) g) (cLs g (Addr.add (aM a) 1) λc h j=>idx c h e 1 λa=>cLs g a λc h j=>rEb 126 [vS c h j,Value.func (Fn.func 206) (Array.mk []) (Array.mk [vP (some (aM b))])] g λc b=>br c (R (vB false) b) (aD (e+1)/\d (e+1) b/\f (e+1) b<f e i)))) (R (vB true) i)))):ρ 107 [(.agg #[vS a i j,vS b k l])] w R:=rv Tryz.func107 ⟨[(8,[(44,(.one (.int .i64)))])],[(3,[(22,(.one .bool))]),(6,[(42,(.one .bool))]),(11,[(64,(.one .bool))])],[],[]⟩ h
theorem mW{d:FuncId}{e:List Value}(h:new w (Obj.map (Array.mk []) 0) λb c=>τ [(19,aN)] λf g=>f 0 c/\∀(_:ν) c h,f c h->bQ (c<(i:Int)) (idx a i c 2 λa=>∃i j,rA h a 2 [iI i,iI j]/\new h (oC [iI 0,iI 0] 170) λa k=>bC k (aM a) [iI i,iI j] λi=>∃j k,rA i (aM a) 2 [iI j,iI k]/\oN (Proofs.YtaoaemnefghnbaaGreatDoor.Fn d) (rE d (vG [iI j,iI k]::e) i λa d=>∃e i,a=vU [iI e,vB i]/\br i (aX Tryz.prog (Instr.lookup 276 (Value.map (some b)) (iI e) false) d λa d=>∃i,a=iI i/\aD (i+1)/\aX Tryz.prog (Instr.mapUpdate 276 (Value.map (some b)) (iI e) (iI (i+1))) d λ(_:Unit)(a:ahs)=>aD (c+1)/\f (c+1) a/\g (c+1) a<g c h) (aD (c+1)/\f (c+1) d/\g (c+1) d<g c h))) (aX Tryz.prog (Instr.range 276 (Value.map (some b))) h λa c=>∃d,a=vP d/\τ [(8,aN)] λa e=>a A c/\∀(_:ν) c f,a c f->aX Tryz.prog (Instr.next (vP d) false 0) f λg h=>g=vU [vB false]/\R (iI c) h\/∃i j,g=vU [vB true,iI i,j]/\aX Tryz.prog (Instr.entry (vP d)) h λd g=>∃h i,d=vU [iI h,iI i]/\aX Tryz.prog (Instr.lookup 276 (Value.map (some b)) (iI c) false) g λd g=>∃j,d=iI j/\bQ (j<i) (a h g/\e h g<e c f) (aX Tryz.prog (Instr.lookup 276 (Value.map (some b)) (iI c) false) g λb d=>∃g,b=iI g/\br (i==g) (bQ (h<c) (a h d/\e h d<e c f) (a c d/\e c d<e c f)) (a c d/\e c d<e c f)))):ρ 108 [vS a i j,(.func (.func d) #[] ⟨e⟩),iI A] w R:=rv Tryz.func108 ⟨[(4,[(19,(.one (.int .i64)))]),(11,[(8,(.one (.int .i64)))])],[],[],[]⟩ h
abbrev xF:FuncId:=109
theorem DU(h:new w (oC [iI A,iI B] 170) λa b=>∀c,drawn b c->∃(b:WP),b c/\∃d,(∀c,b c->cL c (Addr.add (aM a) 1) (iI d))/\∃e,(∀c,b c->cL c (aM a) (iI e))/\R (vU [iI d,vB (e==2)]) c):ρ 109 [(.agg #[iI A,iI B])] w R:=rv Tryz.func109 ⟨[],[],[],[]⟩ h
abbrev EY:FuncId:=110
theorem JO(h:new w (oC [iI A,iI B] 170) λa b=>cLi b (aM a) λc=>br (c==1) (cLi b (Addr.add (aM a) 1) λc=>aD (1+c)/\R (iI (1+c)) b) (br (c==2) (cLi b (Addr.add (aM a) 1) λc=>aD (-1-c)/\R (iI (-1-c)) b) (br (c==3) (R (iI (-1)) b) (R (iI 0) b)))):ρ 110 [(.agg #[iI A,iI B])] w R:=rv Tryz.func110 ⟨[],[],[],[]⟩ h
theorem Me(h:new w (oC [vS a i j] 221) λa b=>new b (oC [vS none 0 0,vS none 0 0,vS none 0 0] 104) λb c=>∃(d:lP [(15,Bw)]),(cLs c (aM a) λb e f=>bQ (256<(e:Int)) (d true c) (cLs c (aM a) λb e f=>rEb 207 [vS b e f,Value.func (Fn.func 208) (Array.mk []) (Array.mk [])] c λc b=>d c b))/\∀(_:ν) c e,d c e->br c (bC e (aM b) [vS none 0 0,vS none 0 0,vS none 0 0] λa=>∃c d e f g h i j k,rA a (aM b) 3 [vS c d e,vS f g h,vS i j k]/\R (vU [vG [vS c d e,vS f g h,vS i j k],iI 1]) a) (cLs e (aM a) λc d f=>vd (d:Int) (d:Int) 8/\new e (Obj.cells (Array.mk (iX (Int.toNat (d:Int)) [iI 0])) 3) λc e=>τ [(22,aN)] λf g=>f 0 e/\∀(_:ν) e h,f e h->bQ (e<(↑(Int.toNat (d:Int)):Int)) (idx (some (aM c)) (Int.toNat (d:Int)) e 1 λa=>st1 h a (iI e) λa=>aD (e+1)/\f (e+1) a/\g (e+1) a<g e h) (rE 210 [vS (some (aM c)) (Int.toNat (d:Int)) (Int.toNat (d:Int)),Value.func (Fn.func 211) (Array.mk []) (Array.mk [vP (some (aM a))])] h λe f=>e=vU []/\cLs f (aM a) λe g h=>vd (g:Int) (g:Int) 8/\new f (Obj.cells (Array.mk (iX (Int.toNat (g:Int)) [iI 0])) 3) λe f=>new f (oC [vS (some (aM e)) (Int.toNat (g:Int)) (Int.toNat (g:Int)),vS none 0 0,vS none 0 0] 366) λe f=>τ [(41,aN)] λg h=>g 0 f/\∀(_:ν) f i,g f i->bQ (f<(↑(Int.toNat (d:Int)):Int)) (idx (some (aM c)) (Int.toNat (d:Int)) f 1 λb=>cLi i b λc=>cLs i (aM a) λb d j=>idx b d c 1 λb=>cLs i b λd j k=>bQ (0<(j:Int)) (cLs i (aM a) λb d j=>idx b d c 1 λa=>cLs i a λb d j=>rE 212 [vP (some (aM e)),iI c,vS b d j] i λa b=>a=vU []/\aD (f+1)/\g (f+1) b/\h (f+1) b<h f i) (aD (f+1)/\g (f+1) i/\h (f+1) i<h f i)) (∃a c d f g h j k l,rA i (aM e) 3 [vS a c d,vS f g h,vS j k l]/\bC i (aM b) [vS a c d,vS f g h,vS j k l] λa=>∃c d e f g h i j k,rA a (aM b) 3 [vS c d e,vS f g h,vS i j k]/\R (vU [vG [vS c d e,vS f g h,vS i j k],iI 0]) a)))):ρ 111 [vS a i j] w R:=rv Tryz.func111 ⟨[(5,[(22,(.one (.int .i64)))]),(12,[(41,(.one (.int .i64)))])],[(2,[(15,(.one .bool))])],[],[]⟩ h
theorem uA{d:FuncId}{e:List Value}(h:new w (Obj.map (Array.mk []) 0) λb c=>τ [(19,aN)] λf g=>f 0 c/\∀(_:ν) c h,f c h->bQ (c<(i:Int)) (idx a i c 1 λa=>cLs h a λi j k=>oN (Proofs.YtaoaemnefghnbaaGreatDoor.Fn d) (rE d (vS i j k::e) h λa d=>∃e i,a=vU [iI e,vB i]/\br i (aX Tryz.prog (Instr.lookup 276 (Value.map (some b)) (iI e) false) d λa d=>∃i,a=iI i/\aD (i+1)/\aX Tryz.prog (Instr.mapUpdate 276 (Value.map (some b)) (iI e) (iI (i+1))) d λ(_:Unit)(a:ahs)=>aD (c+1)/\f (c+1) a/\g (c+1) a<g c h) (aD (c+1)/\f (c+1) d/\g (c+1) d<g c h))) (aX Tryz.prog (Instr.range 276 (Value.map (some b))) h λa c=>∃d,a=vP d/\τ [(8,aN)] λa e=>a A c/\∀(_:ν) c f,a c f->aX Tryz.prog (Instr.next (vP d) false 0) f λg h=>g=vU [vB false]/\R (iI c) h\/∃i j,g=vU [vB true,iI i,j]/\aX Tryz.prog (Instr.entry (vP d)) h λd g=>∃h i,d=vU [iI h,iI i]/\aX Tryz.prog (Instr.lookup 276 (Value.map (some b)) (iI c) false) g λd g=>∃j,d=iI j/\bQ (j<i) (a h g/\e h g<e c f) (aX Tryz.prog (Instr.lookup 276 (Value.map (some b)) (iI c) false) g λb d=>∃g,b=iI g/\br (i==g) (bQ (h<c) (a h d/\e h d<e c f) (a c d/\e c d<e c f)) (a c d/\e c d<e c f)))):ρ 112 [vS a i j,(.func (.func d) #[] ⟨e⟩),iI A] w R:=rv Tryz.func112 ⟨[(4,[(19,(.one (.int .i64)))]),(11,[(8,(.one (.int .i64)))])],[],[],[]⟩ h
abbrev xH:FuncId:=113
theorem DW{d:Addr}(h:∀b,drawn w b->∃(c:WP),c b/\∃e,(∀a,c a->cL a d (iI e))/\idx a i e 1 λe=>∃f,(∀a,c a->cL a e (iI f))/\∃e,(∀a,c a->cL a d (iI e))/\idx a i e 1 λa=>∃d,(∀b,c b->cL b a (iI d))/\R (vU [iI f,vB (decide (0<=d))]) b):ρ 113 [vS a i j,(.pointer (some d))] w R:=rv Tryz.func113 ⟨[],[],[],[]⟩ h
theorem Cg{c:Addr}(h:new w (oC [iI A,iI B] 170) λa b=>∃d e,rA b (aM a) 2 [iI d,iI e]/\cLi b c λa=>rEb 205 [vG [iI d,iI e],iI a] b λc b=>R (vB !c) b):ρ 204 [(.agg #[iI A,iI B]),(.pointer (some c))] w R:=rv Tryz.func204 ⟨[],[],[],[]⟩ h
theorem Mg(h:new w (oC [iI A,iI B] 170) λa b=>cLi b (aM a) λc=>br (c==1) (cLi b (Addr.add (aM a) 1) λc=>bQ (0<=c) (cLi b (Addr.add (aM a) 1) λc=>R (vB (decide (c<C))) b) (R (vB false) b)) (br (c==2) (cLi b (Addr.add (aM a) 1) λc=>bQ (1<=c) (cLi b (Addr.add (aM a) 1) λc=>R (vB (decide (c<=96))) b) (R (vB false) b)) (cLi b (aM a) λc=>bQ (0<=c) (cLi b (aM a) λc=>bQ (c<=4) (cLi b (Addr.add (aM a) 1) λc=>R (vB (c==0)) b) (R (vB false) b)) (R (vB false) b)))):ρ 205 [(.agg #[iI A,iI B]),iI C] w R:=rv Tryz.func205 ⟨[],[],[],[]⟩ h
theorem Ci{b:Addr}(h:bQ (A< -1) (R (vB true) w) (cLi w b λa=>R (vB (decide (a<=A))) w)):ρ 206 [iI A,(.pointer (some b))] w R:=rv Tryz.func206 ⟨[],[],[],[]⟩ h
theorem ft{d:FuncId}{e:List Value}(h:rEi 293 [vS a i j,Value.func (Fn.func d) (Array.mk []) (Array.mk e)] w λc b=>R (vB (decide (0<=c))) b):ρ 207 [vS a i j,(.func (.func d) #[] ⟨e⟩)] w R:=rv Tryz.func207 ⟨[],[],[],[]⟩ h
theorem FH(h:rEb 209 [vS a i j] w λc b=>R (vB !c) b):ρ 208 [vS a i j] w R:=rv Tryz.func208 ⟨[],[],[],[]⟩ h
abbrev JQ:FuncId:=211
theorem FJ{c:Addr}(h:∀a,drawn w a->∃(b:WP),b a/\∃d e f,(∀a,b a->cL a c (vS d e f))/\idx d e B 1 λd=>∃e f g,(∀a,b a->cL a d (vS e f g))/\∃d e g,(∀a,b a->cL a c (vS d e g))/\idx d e A 1 λc=>∃d e g,(∀a,b a->cL a c (vS d e g))/\aD ((f:Int)-(e:Int))/\R (iI ((f:Int)-(e:Int))) a):ρ 211 [iI A,iI B,(.pointer (some c))] w R:=rv Tryz.func211 ⟨[],[],[],[]⟩ h
theorem Ck(h:τ [(6,aN)] λc d=>c 0 w/\∀(_:ν) e f,c e f->rEb 295 [vP a,iI e,vS b i j] f λj h=>br (!j) (aD (e+1)/\c (e+1) h/\d (e+1) h<d e f) (nn a λc=>cLs h c λd f g=>idx d f A 1 λc=>st1 h c (iI e) λc=>τ [(26,aN)] λd f=>d 0 c/\∀(_:ν) c g,d c g->bQ (c<(i:Int)) (idx b i c 2 λb=>∃h i,rA g b 2 [iI h,iI i]/\new g (oC [iI 0,iI 0] 203) λb j=>bC j (aM b) [iI h,iI i] λh=>τ [] λi j=>i h/\∀(_:ν) h,i h->∀k,drawn h k->∃(l:WP),l k/\nn a λm=>∃n o p,(∀a,l a->cL a (m.add 2) (vS n o p))/\∃m,(∀a,l a->cL a (aM b) (iI m))/\aD (e+m)/\bQ ((o:Int)<=e+m) (nn a λb=>cLs k (b.add 2) λc d e=>new k (oC [iI (-1)] 3) λb f=>rS (fX 24 (Array.mk [vS c d e,vS (some (aM b)) 1 1])) f λb c=>∃d e f,b=vS d e f/\nn a λb=>st1 c (b.add 2) (vS d e f) λb=>nn a λc=>cLs b (c.add 1) λd e f=>new b (oC [iI 0] 3) λb c=>rS (fX 24 (Array.mk [vS d e f,vS (some (aM b)) 1 1])) c λb c=>∃d e f,b=vS d e f/\nn a λa=>st1 c (a.add 1) (vS d e f) λa=>i a/\j a<j h) (∀h,drawn k h->∃(i:WP),i h/\nn a λj=>∃k l m,(∀a,i a->cL a (j.add 2) (vS k l m))/\∃j,(∀a,i a->cL a (aM b) (iI j))/\aD (e+j)/\nn a λa=>∃m n o,(∀b,i b->cL b (a.add 1) (vS m n o))/\∃a,(∀c,i c->cL c (aM b) (iI a))/\aD (e+a)/\∃o,(∀a,i a->cL a (Addr.add (aM b) 1) (iI o))/\idx k l (e+j) 1 λb=>st1 h b (iI A) λb=>i b/\idx m n (e+a) 1 λa=>st1 b a (iI o) λa=>aD (c+1)/\d (c+1) a/\f (c+1) a<f c g)) (R (vU []) g))):ρ 212 [.pointer a,iI A,vS b i j] w R:=rv Tryz.func212 ⟨[(1,[(6,(.one (.int .i64)))]),(5,[(26,(.one (.int .i64)))]),(7,[])],[],[],[]⟩ h
theorem ga{d:FuncId}{e:List Value}(h:τ [(8,aN)] λb c=>b 0 w/\∀(_:ν) f g,b f g->bQ (f<(i:Int)) (idx a i f 1 λa=>∃h i j,World.cell? g a=some (vS h i j)/\oN (Proofs.YtaoaemnefghnbaaGreatDoor.Fn d) (rEb d (vS h i j::e) g λe d=>br e (R (iI f) d) (aD (f+1)/\b (f+1) d/\c (f+1) d<c f g))) (R (iI (-1)) g)):ρ 293 [vS a i j,(.func (.func d) #[] ⟨e⟩)] w R:=rv Tryz.func293 ⟨[(2,[(8,(.one (.int .i64)))])],[],[],[]⟩ h
theorem AN(h:new w (oC [vP a] 364) λa c=>new c (oC [iI A] 3) λc d=>rEb 354 [vS b i j,Value.func (Fn.func 355) (Array.mk []) (Array.mk [vP (some (aM c)),vP (some (aM a))])] d λc b=>R (vB !c) b):ρ 295 [.pointer a,iI A,vS b i j] w R:=rv Tryz.func295 ⟨[],[],[],[]⟩ h
theorem fR{d:FuncId}{e:List Value}(h:rEi 386 [vS a i j,Value.func (Fn.func d) (Array.mk []) (Array.mk e)] w λc b=>R (vB (decide (0<=c))) b):ρ 354 [vS a i j,(.func (.func d) #[] ⟨e⟩)] w R:=rv Tryz.func354 ⟨[],[],[],[]⟩ h
theorem vM{c:Addr}{d:Addr}(h:new w (oC [iI A,iI B] 203) λa b=>∀e,drawn b e->∃(b:WP),b e/\∃f,(∀a,b a->cL a c (iI f))/\∃g,(∀c,b c->cL c (aM a) (iI g))/\aD (f+g)/\∃h,(∀a,b a->cL a d (vP h))/\nn h λh=>∃i j k,(∀a,b a->cL a (h.add 2) (vS i j k))/\bQ (f+g<(j:Int)) (∃f,(∀a,b a->cL a d (vP f))/\nn f λd=>∃f g h,(∀a,b a->cL a (d.add 2) (vS f g h))/\∃d,(∀a,b a->cL a c (iI d))/\∃c,(∀d,b d->cL d (aM a) (iI c))/\aD (d+c)/\idx f g (d+c) 1 λa=>∃c,(∀d,b d->cL d a (iI c))/\R (vB (decide (0<=c))) e) (R (vB false) e)):ρ 355 [(.agg #[iI A,iI B]),(.pointer (some c)),(.pointer (some d))] w R:=rv Tryz.func355 ⟨[],[],[],[]⟩ h
theorem gK{d:FuncId}{e:List Value}(h:τ [(8,aN)] λb c=>b 0 w/\∀(_:ν) f g,b f g->bQ (f<(i:Int)) (idx a i f 2 λa=>∃h i,rowAt g a 0 2=some [iI h,iI i]/\oN (Proofs.YtaoaemnefghnbaaGreatDoor.Fn d) (rEb d (vG [iI h,iI i]::e) g λe d=>br e (R (iI f) d) (aD (f+1)/\b (f+1) d/\c (f+1) d<c f g))) (R (iI (-1)) g)):ρ 386 [vS a i j,(.func (.func d) #[] ⟨e⟩)] w R:=rv Tryz.func386 ⟨[(2,[(8,(.one (.int .i64)))])],[],[],[]⟩ h
theorem FM{a:ahr}{b c:Nat}{d:ahr}{e f:Nat}{g:ahr}{i j:Nat}{k:ahr}{l m:Nat}{n:ahr}{o p:Nat}{q:ahr}{s t:Nat}{u:ahr}{v x:Nat}{y:ahr}{z aa:Nat}{ab ac:Int}{w:ahs}{R:Value->WP}(h:new w (oC [vS a b c,vS d e f,vS g i j,vS k l m,vS n o p,vS q s t,vS u v x,vS y z aa] 106) λa b=>new b (oC [iI 0,iI 0] 170) λb c=>∃d e f g h i j k l,rA c (Addr.add (aM a) 1) 3 [vS d e f,vS g h i,vS j k l]/\rE 425 [vG [vS d e f,vS g h i,vS j k l],iI ab,iI ac] c λc d=>∃e f,c=vU [iI e,vB f]/\∃(c:lP []),(∃(g:lP [(17,Bw)]),br f (g (decide (0<e)) d) (g false d)/\∀(_:ν) d h,g d h->br d (aD (e-1)/\bC h (aM b) [iI 1,iI (e-1)] λa=>∃c d,rA a (aM b) 2 [iI c,iI d]/\R (vG [iI c,iI d]) a) (∃(d:lP [(26,Bw)]),br f (d (decide (e< -1)) h) (d false h)/\∀(_:ν) g h,d g h->br g (aD (-1-e)/\bC h (aM b) [iI 2,iI (-1-e)] λa=>∃c d,rA a (aM b) 2 [iI c,iI d]/\R (vG [iI c,iI d]) a) (∃(d:lP [(35,Bw)]),br f (d (decide (e<0)) h) (d false h)/\∀(_:ν) e g,d e g->br e (bC g (aM b) [iI 3,iI 0] λa=>∃c d,rA a (aM b) 2 [iI c,iI d]/\R (vG [iI c,iI d]) a) (br f (bC g (aM b) [iI 4,iI 0] λa=>∃c d,rA a (aM b) 2 [iI c,iI d]/\R (vG [iI c,iI d]) a) (bQ (0<=ab) (cLs g (aM a) λd e f=>bQ (ab<(e:Int)) (cLs g (aM a) λd e f=>idx d e ab 1 λd=>cLi g d λe=>bQ (0<e) (cLs g (aM a) λc d e=>idx c d ab 1 λa=>cLi g a λc=>bC g (aM b) [iI 2,iI c] λa=>∃c d,rA a (aM b) 2 [iI c,iI d]/\R (vG [iI c,iI d]) a) (c g)) (c g)) (c g))))))/\∀(_:ν) a,c a->bC a (aM b) [iI 0,iI 0] λa=>∃c d,rA a (aM b) 2 [iI c,iI d]/\R (vG [iI c,iI d]) a):ρ 423 [(.agg #[vS a b c,vS d e f,vS g i j,vS k l m,vS n o p,vS q s t,vS u v x,vS y z aa]),iI ab,iI ac] w R:=rv Tryz.func423 ⟨[],[(12,[]),(3,[(17,(.one .bool))]),(5,[(26,(.one .bool))]),(7,[(35,(.one .bool))])],[],[]⟩ h
theorem JT{a:ahr}{b c:Nat}{d:ahr}{e f:Nat}{g:ahr}{i j:Nat}{k:ahr}{l m:Nat}{n:ahr}{o p:Nat}{q:ahr}{s t:Nat}{u:ahr}{v x:Nat}{y:ahr}{z aa:Nat}{ab ac:Int}{w:ahs}{R:Value->WP}(h:new w (oC [vS a b c,vS d e f,vS g i j,vS k l m,vS n o p,vS q s t,vS u v x,vS y z aa] 106) λa b=>∃c d e f g h i j k,rA b (Addr.add (aM a) 5) 3 [vS c d e,vS f g h,vS i j k]/\rE 425 [vG [vS c d e,vS f g h,vS i j k],iI ac,iI ab] b λb c=>∃d e,b=vU [iI d,vB e]/\br e (R (iI d) c) (bQ (0<=ac) (cLs c (Addr.add (aM a) 4) λb d e=>bQ (ac<(d:Int)) (cLs c (Addr.add (aM a) 4) λb d e=>idx b d ac 1 λa=>cLi c a λb=>R (iI b) c) (R (iI (-1)) c)) (R (iI (-1)) c))):ρ 424 [(.agg #[vS a b c,vS d e f,vS g i j,vS k l m,vS n o p,vS q s t,vS u v x,vS y z aa]),iI ab,iI ac] w R:=rv Tryz.func424 ⟨[],[],[],[]⟩ h
theorem Oy(h:new w (oC [vS a i j,vS b k l,vS c m n] 104) λa b=>∃(c:lP [(22,Bw)]),bQ (A<0) (c true b) (cLs b (aM a) λd e f=>bQ ((e:Int)<=A) (c true b) (c (decide (B<0)) b))/\∀(_:ν) b d,c b d->br b (R (vU [iI 0,vB false]) d) (∀b,drawn d b->∃(c:WP),c b/\∃d e f,(∀b,c b->cL b (aM a) (vS d e f))/\idx d e A 1 λd=>∃e,(∀a,c a->cL a d (iI e))/\∃d f g,(∀b,c b->cL b (Addr.add (aM a) 1) (vS d f g))/\∃d g h,(∀b,c b->cL b (Addr.add (aM a) 2) (vS d g h))/\∃(c:lP [(59,Bw)]),bQ (e<0) (c true b) (bQ ((if(g:Int)<(f:Int) then(g:Int) else(f:Int))<e) (c true b) (aD ((if(g:Int)<(f:Int) then(g:Int) else(f:Int))-e)/\bQ ((if(g:Int)<(f:Int) then(g:Int) else(f:Int))-e<=B) (c true b) (cLs b (Addr.add (aM a) 2) λd f g=>aD (e+B)/\idx d f (e+B) 1 λa=>cLi b a λd=>c (d !=A) b)))/\∀(_:ν) b d,c b d->br b (R (vU [iI 0,vB false]) d) (cLs d (Addr.add (aM a) 1) λb c f=>aD (e+B)/\idx b c (e+B) 1 λa=>cLi d a λb=>R (vU [iI b,vB true]) d))):ρ 425 [(.agg #[vS a i j,vS b k l,vS c m n]),iI A,iI B] w R:=rv Tryz.func425 ⟨[],[(2,[(22,(.one .bool))]),(5,[(59,(.one .bool))])],[],[]⟩ h
end
structure fM where
 bs:List Int
 vs:List Int
 os:List Int
def Mh(r:fM)(row place:Int):Bool:=decide (row<0)||(decide ((r.bs.length:Int)<=row)||decide (place<0))
def Mi(r:fM):Nat:=min r.vs.length r.os.length
def DY(r:fM)(row:Int):Int:=r.bs.getD row.toNat 0
def JU(r:fM)(row place:Int):Bool:=decide (DY r row<0)||(decide ((Mi r:Int)<DY r row)||(decide ((Mi r:Int)-DY r row<=place)||decide (r.os.getD (DY r row+place).toNat 0≠row)))
def atR(r:fM)(row place:Int):Option Int:=if Mh r row place||JU r row place then none else some (r.vs.getD (DY r row+place).toNat 0)
def afr:Option Int->Value
 |some x=>.tuple #[.int .i64 x,.bool true]
 |none=>.tuple #[.int .i64 0,.bool false]
structure PkR(h:Hp)(r:fM)(a:ahr)(b:Nat)(d:ahr)(e:Nat)(g:ahr)(i:Nat):Prop where
 rb:aY h r.bs a b
 rv:aY h r.vs d e
 ro:aY h r.os g i
 lv:e<=1000000
 lo:i<=1000000
 bd:∀x∈r.vs,-1000000<=x/\x<=1000000
theorem PkR.mono{h h':Hp}{r:fM}{a:ahr}{b:Nat}{d:ahr}{e:Nat}{g:ahr}{i:Nat}(s:sub h h')(p:PkR h r a b d e g i):PkR h' r a b d e g i:=⟨p.rb.mono s,p.rv.mono s,p.ro.mono s,p.lv,p.lo,p.bd⟩
theorem nB{h:Hp}{xs:List Int}{a:ahr}{l:Nat}(r:aY h xs a l){i:Nat}(hi:i<l):∃ad,a=some ad/\∀w,sub h (hp w)->w.cell? (ad.add i)=some (iI (xs.getD i 0)):=by
 obtain⟨x,u⟩:∃x,xs[i]? =some x:=⟨_,afJ (by rw[r.1];exact hi)⟩;obtain⟨ad,O,J⟩:=r.at u;refine⟨ad,O,λw s=>?_⟩;rw[J w s,afP,u];rfl
section
variable{w:ahs}{r:fM}{a d g:ahr}{b c e f i j:Nat}
theorem aeE(p:PkR (hp w) r a b d e g i)(row place:Int):ρ 425 [.agg #[vS a b c,vS d e f,vS g i j],iI row,iI place] w λv w'=>v=afr (atR r row place)/\Gr w w':=by
 have eb:=p.rb.1;have ev:=p.rv.1;have eo:=p.ro.1;have V:(if(i:Int)<(e:Int) then(i:Int) else(e:Int))=(Mi r:Int):=by unfold Mi;rw[ev,eo];split<;>omega
 have hl:Mi r<=e/\Mi r<=i:=by unfold Mi;rw[ev,eo];omega
 have lv:=p.lv;refine Oy (ag (St.all w) λk1 w1 Z=>?_);have g1:Gr w w1:=Z.aQ
 refine⟨λx u=>u=w1/\x=Mh r row place,?_,?_⟩
 ·refine ae (λO=>⟨rfl,by simp[Mh,afO O]⟩) λO=>⟨_,_,_,Z.cell 0,ae (λU=>⟨rfl,?_⟩) λU=>⟨rfl,?_⟩⟩
  ·have:=afO U;simp[Mh,eb,this]
  ·have O:=afN O;have U:=afN U;unfold Mh;rw[eb,age O,age U];rfl
 rintro _ _ w2⟨rfl,rfl⟩
 refine ae (λO=>?_) λO=>λw3 hd=>?_
 ·refine⟨?_,g1⟩;unfold atR;rw[O];rfl
 have e3:=aP hd;have U:=Z.eq e3;have g3:Gr w w3:=g1.trans (Gr.of_eq e3);have hA:=O;unfold Mh at O;simp only[Bool.or_eq_false_iff,aho] at O;obtain⟨q1,q2,q3⟩:=O;obtain⟨n,rfl⟩:∃n:Nat,row=n:=⟨row.toNat,ω⟩;obtain⟨m,rfl⟩:∃n:Nat,place=n:=⟨place.toNat,ω⟩;obtain⟨ab,rfl,cb⟩:=nB p.rb (i:=n) ω;have W:r.bs.getD n 0=DY r (n:Int):=rfl;refine⟨λu=>hp u=hp w3,rfl,_,_,_,λu e=>(by rw[cD e];exact U.cell 0:World.cell? u _=_),ay rfl ω ⟨_,λu e=>cb u (by rw[e];exact g3),_,_,_,λu e=>(by rw[ak,cD e];exact U.cell 1:World.cell? u _=_),_,_,_,λu e=>(by rw[ak,cD e];exact U.cell 2:World.cell? u _=_),?_⟩⟩;rw[V,W]
 refine⟨λx u=>u=w3/\x=JU r (n:Int) (m:Int),?_,?_⟩
 ·refine ae (λJ=>⟨rfl,by simp[JU,afO J]⟩) λJ=>ae (λX=>⟨rfl,by simp[JU,afO X]⟩) λX=>?_;have J:=afN J;have X:=afN X;refine⟨⟨ω,ω⟩,ae (λY=>⟨rfl,by simp[JU,afO Y]⟩) λY=>?_⟩;have Y:=afN Y;obtain⟨t,ht⟩:∃t:Nat,DY r (n:Int)+(m:Int)=t:=⟨(DY r (n:Int)+(m:Int)).toNat,ω⟩;obtain⟨ao,rfl,co⟩:=nB p.ro (i:=t) ω;refine⟨_,_,_,by rw[ak];exact U.cell 2,⟨ω,ω⟩,?_⟩;rw[ht];refine ay rfl ω ⟨_,co _ g3,rfl,?_⟩;unfold JU;rw[ht,age J,age X,age Y];simp only[Bool.false_or,afU];rw[agM];simp
 rintro _ _ w4⟨rfl,rfl⟩
 refine ae (λJ=>?_) λJ=>?_
 ·refine⟨?_,g3⟩;unfold atR;rw[hA,J];rfl
 ·have hB:=J;unfold JU at J;simp only[Bool.or_eq_false_iff,aho] at J;obtain⟨p1,p2,p3,p4⟩:=J;obtain⟨t,ht⟩:∃t:Nat,DY r (n:Int)+(m:Int)=t:=⟨(DY r (n:Int)+(m:Int)).toNat,ω⟩;obtain⟨av,rfl,cv⟩:=nB p.rv (i:=t) ω;refine⟨_,_,_,by rw[ak];exact U.cell 1,⟨ω,ω⟩,?_⟩;rw[ht];refine ay rfl ω ⟨_,cv _ g3,?_,g3⟩;unfold atR;rw[hA,hB,ht,afU];rfl
end
section
open MapKept
section
variable{κ:Type}[DecidableEq κ][MVal κ]{P:Program}{Ty:TypeId->Option dp}{w:ahs}{L:List aC}{b r:Nat}{m:List (κ×Value)}{ks:List κ}
structure Z7(es:Array MapEntry)(seen:Array Nat)(m:List (κ×Value))(ks:List κ):Prop where
 perm:(ks.map MVal.val++(leftOf es seen).toList.map (·.key)).Perm (m.map λx=>MVal.val x.1)
def tf(b r:Nat)(m:List (κ×Value))(ks:List κ):aC:=ex λ(x:Array MapEntry×Nat×Array Nat)=>aV [pu (zQ x.1 x.2.1 m/\Z7 x.1 x.2.2 m ks),blk b (.map x.1 x.2.1),blk r (.mapIter (some b) x.2.1 x.2.2 x.2.1)]
def Mj(b r:Nat)(m:List (κ×Value))(ks:List κ)(k:κ)(u:Value):aC:=ex λ(x:Array MapEntry×Nat×Array Nat×MapEntry)=>
 aV [pu (zQ x.1 x.2.1 m/\Z7 x.1 (x.2.2.1.push x.2.2.2.born) m ks/\x.2.2.2∈x.1.toList/\x.2.2.2.key=MVal.val k/\x.2.2.2.val=u),blk b (.map x.1 x.2.1),blk r (.mapIter (some b) x.2.1 (x.2.2.1.push x.2.2.2.born) x.2.1)]
theorem yu:St w (tf b r m ks::L)↔∃es cl seen,zQ es cl m/\Z7 es seen m ks/\St w (blk b (.map es cl)::blk r (.mapIter (some b) cl seen cl)::L):=by
 constructor
 ·intro h;obtain⟨⟨es,cl,seen⟩,h⟩:=St.ex.1 h
  grind[St.pu,St.flat]
 ·rintro⟨es,cl,seen,J,u,O⟩;exact St.ex.2 ⟨⟨es,cl,seen⟩,St.flat.2 (St.pu.2 ⟨⟨J,u⟩,O⟩)⟩
theorem AO{k:κ}{u:Value}:St w (Mj b r m ks k u::L)↔∃es cl,∃(seen:Array Nat)(e:MapEntry),zQ es cl m/\Z7 es (seen.push e.born) m ks/\e∈es.toList/\e.key=MVal.val k/\e.val=u/\St w (blk b (.map es cl)::blk r (.mapIter (some b) cl (seen.push e.born) cl)::L):=by
 constructor
 ·intro h;obtain⟨⟨es,cl,seen,e⟩,h⟩:=St.ex.1 h
  grind[St.pu,St.flat]
 ·rintro⟨es,cl,seen,e,V,J,W,X,U,O⟩;exact St.ex.2 ⟨⟨es,cl,seen,e⟩,St.flat.2 (St.pu.2 ⟨⟨V,J,W,X,U⟩,O⟩)⟩
theorem KH{k:κ}{u:Value}(h:St w (Mj b r m ks k u::L)):St w (tf b r m ks::L):=by grind[seen,AO,yu]
theorem KI(h:St w (tf b r m ks::L)):St w (mapA b m::L):=by
 obtain⟨es,cl,seen,u,O,J⟩:=yu.1 h;exact mA.2 ⟨es,cl,u,J.swap.tail⟩
theorem KJ(hT:dY P Ty){t kt et:TypeId}(hk:ai Ty t=.map kt et)(h:St w (mapA b m::L)):
  aX P (Instr.range t (.map (some b))) w λv w'=>∃r,v=.pointer (some ⟨r,0,none⟩)/\St w' (tf b r m ([]:List κ)::L):=by
 obtain⟨d,O,u⟩:=dv hT hk σ;rw[BJ u] at O;obtain⟨es,cl,J,h⟩:=mA.1 h
 refine⟨_,_,run_range_map w t kt et b es cl O h.get,Ev.push w _,_,rfl,yu.2 ⟨es,cl,#[],J,⟨?_⟩,?_⟩⟩
 ·have U:leftOf es #[]=es:=by simp[leftOf]
  rw[U];have:=congrArg (List.map Prod.fst) J.eq;simp only[List.map_map] at this;have V:es.toList.map (·.key)=m.map λx=>MVal.val x.1:=this
  simp_all
 ·exact(h.push (.mapIter (some b) cl #[] cl)).swap
theorem Oz(e:MapEntry):∀(l:List MapEntry),(l.map (·.born)).Nodup->e∈l->l.Perm (e::l.filter λx=>decide (x.born≠e.born))
 |x::l,hn,he=>by
  have hn':x.born∉l.map (·.born)/\(l.map (·.born)).Nodup:=agB.1 hn
  rcases af6.1 he with rfl|h
  ·have:l.filter (λx=>decide (x.born≠e.born))=l:=List.filter_eq_self.2 λx hx=>by simp_all
   rw[List.filter_cons,afV σ,this]
  ·have hx:x.born≠e.born:=λe'=>hn'.1 (by grind)
   rw[List.filter_cons,afZ (by simp_all)]
   exact(List.Perm.cons x (Oz e l hn'.2 h)).trans (.swap _ _ _)
theorem St.setIter{b':Option Nat}{s c:Nat}{seen:Array Nat}(h:St w (blk r (.mapIter b' s seen c)::L)){w1:ahs}(hw:w1=w\/w1=w.drew)(o:Obj)(ho:Nh o=true:=by rfl):Ev w (ChangeMaps.setBlock w1 r o)/\St (ChangeMaps.setBlock w1 r o) (blk r o::L):=by
 have u:St w1 (blk r (.mapIter b' s seen c)::L):=by
  rcases hw with rfl|rfl
  ·omega
  ·exact h.same rfl
 have O:Ev w w1:=by
  rcases hw with rfl|rfl
  ·exact Ev.refl _
  ·exact Ev.drew _ _
 refine⟨O.trans ⟨rfl,rfl,rfl,by simp[ChangeMaps.setBlock],?_,?_⟩,u.setObj o ho⟩<;>
 ·intro x d J;unfold ChangeMaps.setBlock;rw[Array.getElem?_setIfInBounds_ne];exact J;intro e;subst e;rw[u.get] at J;grind
theorem acK{es:Array MapEntry}{cl:Nat}{e:MapEntry}(h:zQ es cl m)(he:e∈es.toList):∃k,(k,e.val)∈m/\e.key=MVal.val k:=by
 have:(e.key,e.val)∈es.toList.map λe=>(e.key,e.val):=afW.2 ⟨e,he,rfl⟩;rw[h.eq] at this
 grind
theorem val_inj{a c:κ}(h:MVal.val a=MVal.val c):a=c:=MVal.inj a c h
theorem OA{α β:Type}{f:α->β}(hf:∀a c,f a=f c->a=c):∀{l l':List α},(l.map f).Perm (l'.map f)->l.Perm l'
 |[],[],_=>.refl _
 |[],_::_,h=>by simp_all
 |a::l,l',h=>by
  have hm:f a∈l'.map f:=h.subset σ
  obtain⟨x,hx,e⟩:=afW.1 hm
  have:=hf _ _ e
  subst this
  obtain⟨s,t,rfl⟩:=List.append_of_mem hx
  have h2:(f x::l.map f).Perm (f x::(s++t).map f):=h.trans σ
  exact(List.Perm.cons x (OA hf ((List.perm_cons _).1 h2))).trans agC.symm
theorem OB{ty:TypeId}(h:St w (tf b r m ks::L)):aX P (Instr.next (.pointer (some ⟨r,0,none⟩)) false ty) w λv w'=>
  (v=.tuple #[vB false]/\ks.Perm (m.map Prod.fst)/\St w' (mapA b m::L))\/
  ∃(k:κ)(u:Value),(k,u)∈m/\v=.tuple #[vB true,MVal.val k,u]/\ks.length<m.length/\St w' (Mj b r m (ks++[k]) k u::L):=by
 have U:=KI h;obtain⟨es,cl,seen,V,h2,h3⟩:=yu.1 h
 rcases run_next_at (P:=P) w ty r b cl cl seen es cl h3.swap.get h3.get V.lt (afR _) with⟨h4,Z⟩|⟨e,he,w1,hw,Z⟩
 ·refine⟨_,_,Z,Ev.refl _,.inl ⟨rfl,?_,U⟩⟩;have h6:=h2.perm;have e1:(leftOf es seen).toList=[]:=afY ω;rw[e1,List.map_nil,agc] at h6;have e2:(m.map λx=>MVal.val (κ:=κ) x.1)=(m.map Prod.fst).map MVal.val:=σ
  grind[OA,val_inj]
 ·have O:e∈es.toList:=by simp_all[leftOf]
  obtain⟨k,X,hk⟩:=acK V O;obtain⟨a0,Y⟩:=St.setIter (h3.swap) hw (.mapIter (some b) cl (seen.push e.born) cl)
  have W:((leftOf es seen).toList.map (·.born)).Nodup:=by
   refine V.nd.sublist ?_;simp[leftOf,List.Sublist.map,List.filter_sublist]
  have J:=Oz e _ W he
  have e3:(leftOf es seen).toList.filter (λx=>decide (x.born≠e.born))=(leftOf es (seen.push e.born)).toList:=by
   unfold leftOf;rw[Array.toList_filter,Array.toList_filter,List.filter_filter]
   grind
  rw[e3] at J;have hp:=h2.perm
  have a4:(MVal.val k::(leftOf es (seen.push e.born)).toList.map (·.key)).Perm ((leftOf es seen).toList.map (·.key)):=by
   have:=(J.map (·.key)).symm
   simp_all
  refine⟨_,_,Z,a0,.inr ⟨k,e.val,X,by grind,?_,AO.2 ⟨es,cl,seen,e,V,⟨?_⟩,O,hk,rfl,Y.swap⟩⟩⟩
  ·have:=hp.length_eq
   grind
  ·refine List.Perm.trans ?_ hp
   simp_all[List.map_nil,List.Perm.append_left]
theorem KK{k:κ}{u:Value}(h:St w (Mj b r m ks k u::L)):aX P (Instr.entry (.pointer (some ⟨r,0,none⟩))) w λv w'=>v=.tuple #[MVal.val k,u]/\w'=w:=by
 obtain⟨es,cl,seen,e,W,X,J,V,U,O⟩:=AO.1 h;have:=run_entry_at (P:=P) w r b cl seen es cl e O.swap.get O.get J W.nd;rw[V,U] at this;exact⟨_,_,this,Ev.refl _,rfl,rfl⟩
end
section
variable{κ α:Type}[DecidableEq κ]{w:ahs}{L:List aC}{b sz:Nat}{f:List α->List Value}{s t:κ}
abbrev Lq(α:Type):=(ahr×Nat)×List α
def bS(q:Lq α):Value:=vS q.1.1 q.2.length q.1.2
def bG(sz:Nat)(f:List α->List Value)(q:Lq α):aC:=own sz q.1.1 q.2.length q.1.2 (f q.2)
def mV(ps:List (κ×Lq α)):List (κ×Value):=ps.map λq=>(q.1,bS q.2)
def mO(sz:Nat)(f:List α->List Value)(ps:List (κ×Lq α)):List aC:=ps.map λq=>bG sz f q.2
def fF(s:κ):List (κ×Lq α)->Option (Lq α)
 |[]=>none
 |(a,q)::m=>if s=a then some q else fF s m
def jU(s:κ)(ps:List (κ×Lq α)):List α:=match fF s ps with|some q=>q.2|none=>[]
def pe(s:κ)(q:Lq α):List (κ×Lq α)->List (κ×Lq α)
 |[]=>[(s,q)]
 |(a,u)::m=>if s=a then(s,q)::m else(a,u)::pe s q m
theorem js:∀ps:List (κ×Lq α),assoc s (mV ps)=(fF s ps).map bS
 |[]=>rfl
 |(a,q)::m=>by
  show(if s=a then some (bS q) else assoc s (mV m))=_
  unfold fF
  split
  ·rfl
  ·exact js m
theorem WX(q:Lq α):∀ps:List (κ×Lq α),mV (pe s q ps)=cO s (bS q) (mV ps)
 |[]=>rfl
 |(a,u)::m=>by
  unfold pe
  show _=(if s=a then(s,bS q)::mV m else(a,bS u)::cO s (bS q) (mV m))
  split
  ·rfl
  ·rw[<-WX q m];rfl
theorem OC(q:Lq α):∀ps:List (κ×Lq α),fF t (pe s q ps)=if t=s then some q else fF t ps
 |[]=>by rfl
 |(a,u)::m=>by
  unfold pe
  by_cases h:s=a
  ·simp_all[fF]
  ·rw[afV h]
   unfold fF
   rw[OC q m]
   grind
theorem mX(q:Lq α)(ps:List (κ×Lq α)):jU t (pe s q ps)=if t=s then q.2 else jU t ps:=by grind[jU,OC]
theorem DZ(q:Lq α):∀ps:List (κ×Lq α),(pe s q ps).map Prod.fst=if s∈ps.map Prod.fst then ps.map Prod.fst else ps.map Prod.fst++[s]
 |[]=>by rfl
 |(a,u)::m=>by
  unfold pe
  by_cases h:s=a
  ·simp_all
  ·rw[afV h,agv,DZ q m]
   grind
theorem Ml(q:Lq α){ps:List (κ×Lq α)}(h:(ps.map Prod.fst).Nodup):((pe s q ps).map Prod.fst).Nodup:=by grind[DZ,List.nodup_append]
theorem HB{q:Lq α}:∀{ps:List (κ×Lq α)},fF s ps=some q->(s,q)∈ps
 |[],h=>by cases h
 |(a,u)::m,h=>by
  unfold fF at h
  split at h
  ·simp_all
  ·exact agO _ (HB h)
theorem WY{ps:List (κ×Lq α)}:(fF s ps).isSome=true↔s∈ps.map Prod.fst:=by
 induction ps with
 |nil=>simp[fF]
 |cons x m ih=>
  obtain⟨a,u⟩:=x;unfold fF
  grind
theorem OD(sz:Nat)(f:List α->List Value)(s:κ):∀ps:List (κ×Lq α),
  (∃q M,fF s ps=some q/\(mO sz f ps).Perm (bG sz f q::M)/\∀q',(mO sz f (pe s q' ps)).Perm (bG sz f q'::M))\/(fF s ps=none/\∀q',(mO sz f (pe s q' ps)).Perm (bG sz f q'::mO sz f ps))
 |[]=>.inr ⟨rfl,λq'=>.refl _⟩
 |(a,u)::m=>by
  by_cases h:s=a
  ·refine .inl ⟨u,mO sz f m,by grind[fF],.refl _,λq'=>?_⟩
   simp only[pe,h,if_true];rfl
  ·rcases OD sz f s m with⟨q,M,h1,h2,h3⟩|⟨h1,h2⟩
   ·refine .inl ⟨q,bG sz f u::M,by simp_all[fF],(List.Perm.cons _ h2).trans (.swap _ _ _),λq'=>?_⟩
    simp only[pe,h,if_false]
    exact(List.Perm.cons _ (h3 q')).trans (.swap _ _ _)
   ·refine .inr ⟨by simp_all[fF],λq'=>?_⟩
    simp only[pe,h,if_false]
    exact(List.Perm.cons _ (h2 q')).trans (.swap _ _ _)
theorem uB(hf:f []=[]){ps:List (κ×Lq α)}(h:St w (aV (mO sz f ps)::L))(s:κ):∃(q:Lq α)(M:List aC),(assoc s (mV ps)).getD (vS none 0 0)=bS q/\q.2=jU s ps/\St w (bG sz f q::aV M::L)/\
  ∀(w':ahs)(L':List aC)(q':Lq α),St w' (bG sz f q'::aV M::L')->St w' (aV (mO sz f (pe s q' ps))::L'):=by
 have back:∀(M:List aC)(q':Lq α),(mO sz f (pe s q' ps)).Perm (bG sz f q'::M)->∀(w':ahs)(L':List aC),St w' (bG sz f q'::aV M::L')->St w' (aV (mO sz f (pe s q' ps))::L'):=λM q' hp w' L' h=>by
  have J:=St.flat.1 h.swap;have u:St w' ((bG sz f q'::M)++L'):=J.perm agC;exact St.flat.2 (u.perm (hp.symm.append_right _))
 rcases OD sz f s ps with⟨q,M,J,u,O⟩|⟨J,u⟩
 ·refine⟨q,M,by simp_all[js],by simp_all[jU],?_,λw' L' q'=>back M q' (O q') w' L'⟩;have V:=(St.flat.1 h).perm (u.append_right _);have U:St w (M++(bG sz f q::L)):=V.perm agC.symm;exact(St.flat.2 U).swap
 ·refine⟨((none,0),[]),mO sz f ps,by rw[js,J];rfl,by simp_all[jU],?_,λw' L' q'=>back _ q' (u q') w' L'⟩
  simp_all[bG,aI]
theorem HC:∀{L:List aC}{i:Nat}(h:i<L.length),vc L i=L[i]
 |[],i,h=>by grind
 |A::L,0,_=>rfl
 |A::L,i+1,h=>by
  show vc L i=_
  rw[HC (L:=L) (by simp_all)];rfl
theorem SJ{ps:List (κ×Lq α)}{h:Hp}(hs:aG (aV (mO sz f ps)::L) h){q:Lq α}(hq:fF s ps=some q):∃h1,sub h1 h/\bG sz f q h1:=by
 have J:=oK.1 hs;have O:bG sz f q∈mO sz f ps:=afW.2 ⟨(s,q),HB hq,rfl⟩;obtain⟨i,hi⟩:=agb O;have u:=(afK.1 hi).1;obtain⟨h1,s1,ha⟩:=ew i (by grind) J;have e:vc (mO sz f ps++L) i=bG sz f q:=by grind[HC,List.length_append,List.getElem_append_left,List.getElem?_eq_some_iff]
 rw[e] at ha
 grind
end
section
variable{κ:Type}[DecidableEq κ][MVal κ]{P:Program}{Ty:TypeId->Option dp}{w:ahs}{b:Nat}{m:List (κ×Value)}{h:Hp}
theorem AP{α:Type}{sz:Nat}{f:List α->List Value}{L:List aC}{s:κ}{ps:List (κ×Lq α)}{M:List aC}(back:∀(w':ahs)(L':List aC)(q':Lq α),St w' (bG sz f q'::aV M::L')->St w' (aV (mO sz f (pe s q' ps))::L'))
  {o:ahr} {n c:Nat} (us:List α) {vs:List Value} (hn:n=us.length) (hv:vs=f us) (h:St w (mapA b (cO s (vS o n c) (mV ps))::own sz o n c vs::aV M::L)):
  St w (mapA b (mV (pe s ((o,c),us) ps))::aV (mO sz f (pe s ((o,c),us) ps))::L):=by
 subst hn;subst hv;have e:mV (pe s ((o,c),us) ps)=cO s (vS o us.length c) (mV ps):=WX _ _;rw[e];exact(back w _ ((o,c),us) (h.pick 3 [1,2,0])).swap
theorem Uq{A:aC}(hA:A h):aG [A] h:=⟨h,λ_=>none,λ_=>.inr rfl,sZZ,λ_ _ h=>(nomatch h),hA,trivial⟩
theorem fu{h':Hp}(s:sub h h')(hm:mapA b m h):mapA b m h':=by
 obtain⟨es,cl,J,u⟩:=hm;exact⟨es,cl,s _ _ J,u⟩
theorem eJ(hm:mapA b m h)(s:sub h (hp w))(hT:dY P Ty){t kt et:TypeId}{i:dp}{z:Value}(hk:ai Ty t=.map kt et)(hkt:wM P kt κ)(hi:Ty et=some i)(hz:i.zero=some z)(k:κ):
  aX P (Instr.lookup t (.map (some b)) (MVal.val k) false) w λv w'=>v=(assoc k m).getD z/\w'=w:=
 qu (L:=[]) hT hk hkt hi hz (Uq (fu s hm)) k
end
section
variable{κ:Type}[DecidableEq κ][BI κ]{P:Program}{Ty:TypeId->Option dp}{w:ahs}{b:Nat}{m:List (κ×Value)}{h:Hp}
theorem OE(hm:mapA b m h)(s:sub h (hp w))(hT:dY P Ty){t kt et:TypeId}{i:dp}{z:Value}(hk:ai Ty t=.map kt et)(hkt:P.underlying kt=some (BI.kd κ))(hi:Ty et=some i)(hz:i.zero=some z)(k:κ):
  aX P (Instr.lookup t (.map (some b)) (MVal.val k) false) w λv w'=>v=(assoc k m).getD z/\w'=w:=eJ hm s hT hk (wM.Hf hkt) hi hz k
end
def Zl(g:ah)(j:Nat)(s:Int):List Nat:=(List.range j).filter λi=>decide ((g.prods[i]?.map aO.left)=some s)
abbrev Jb(g:ah)(s:Int):List Nat:=Zl g g.prods.length s
theorem HD{g:ah}{j:Nat}{p:aO}(h:g.prods[j]? =some p)(s:Int):Zl g (j+1) s=Zl g j s++if s=p.left then[j] else[]:=by
 unfold Zl;rw[agx,ago]
 grind
theorem Mm(g:ah)(j:Nat)(s:Int):(Zl g j s).length<=j:=by
 have:=agp (λi=>decide ((g.prods[i]?.map aO.left)=some s)) (List.range j);rwa [agK] at this
theorem yv{g:ah}{s:Int}{i:Nat}:i∈Jb g s↔∃p,g.prods[i]? =some p/\p.left=s:=by
 unfold Jb Zl
 grind
structure MkR(h:Hp)(g:ah)(k:Nat):Prop where
 ex:∃(x:GA)(kb:Nat)(m:List (Int×Value)),aj h (aM k) (x.cells++[.map (some kb)])/\gR h g x/\mapA kb m h/\
  ∀s:Int,∃(a:ahr)(c:Nat),(assoc s m).getD (vS none 0 0)=.slice a (Jb g s).length c/\aY h ((Jb g s).map Int.ofNat) a (Jb g s).length
theorem MkR.mono{h h':Hp}{g:ah}{k:Nat}(s:sub h h')(r:MkR h g k):MkR h' g k:=by
 obtain⟨x,J,m,O,u,U,V⟩:=r.ex;exact⟨x,J,m,O.mono s,u.mono s,fu s U,λz=>by obtain⟨a,c,e,r⟩:=V z;exact⟨a,c,e,r.mono s⟩⟩
end
section
variable{w:ahs}{L:List aC}{a:ahr}{l c:Nat}{xs:List au}{g:ah}{x:GA}
theorem aeF(hg:gR (hp w) g x)(hb:mi g):ρ 93 [.agg ⟨x.cells⟩] w λv w'=>∃(k kb:Nat)(ps:List (Int×Lq Int)),v=vP (some (aM k))/\(∀s,jU s ps=(Jb g s).map Int.ofNat)/\St w' (az k (x.cells++[.map (some kb)])::mapA kb (mV ps)::aV (mO 1 iv ps)::all w):=by
 refine QR ?_;refine gH hg λk1 w1 gw hg B=>?_;have pl:=hg.p.1;obtain⟨_,_,_,b4,_,_,_⟩:=hb;refine⟨_,_,_,_,_,_,_,_,_,_,_,_,_,B.row sZZ,?_⟩;refine nI (St.all w1) λkb w2 h=>?_;have h:=dT (κ:=Int) h;refine ag (vs:=x.cells++[.map (some kb)]) h λY w3 h=>?_
 refine⟨_,_,_,B.c4 (aA 2 h.l),λz w'=>∃(j:Nat)(ps:List (Int×Lq Int)),z=j/\j<=x.pl/\(∀s,jU s ps=(Zl g j s).map Int.ofNat)/\St w' (az Y (x.cells++[.map (some kb)])::mapA kb (mV ps)::aV (mO 1 iv ps)::all w1),λz _=>x.pl-z.toNat,
  ⟨0,[],rfl,afL _,λs=>rfl,(show St w3 (az Y (x.cells++[.map (some kb)])::mapA kb ([]:List (Int×Value))::aV []::all w1) from by
   have h:=h.pick 2 [1,0];exact((St.flat (M:=[])).2 h).pick 3 [2,1,0])⟩,?_⟩
 clear h;rintro _ _ w4⟨j,ps,rfl,hj,Z,h⟩;have s4:sub (hp w1) (hp w4):=aA 3 h.l;refine ae (λJ=>?_) λJ=>?_
 rotate_left
 ·have J:j=x.pl:=by grind
  subst J;rw[<-pl] at Z;exact⟨Y,kb,ps,rfl,Z,St.on (N:=[_,_,_]) h (bH gw)⟩
 have J:j<x.pl:=by simp_all
 obtain⟨p,ad,vs,a9,a6,a5,ra,rl,rc,rfl,am,b1⟩:=hg.p.get J;refine aJ a6 J ⟨_,_,_,_,_,a5.at s4 rfl,ag h λU w5 h=>aL h rfl (by simp[aK]) λw6 h=>?_⟩;intro w7 hd;have h:=h.eq (aP hd);have W:∀{u:ahs}{L':List aC},St u (az Y (x.cells++[.map (some kb)])::L')->u.cell? ((aM Y).add 5)=some (.map (some kb)):=λh=>(af 0 h.l).cell sZZ (j:=5) rfl;have O:∀{u:ahs}{L':List aC},St u (az U [iI p.left,vS ra rl rc,iI p.level]::L')->u.cell? (aM U)=some (iI p.left):=λh=>(af 0 h.l).cell0 sZZ
 refine⟨λu=>u.cell? ((aM Y).add 5)=some (.map (some kb))/\u.cell? (aM U)=some (iI p.left),⟨W (h.pick 2 [1]),O h⟩,_,λu V=>V.1,_,λu V=>V.2,_,λu V=>V.1,_,λu V=>V.2,?_,?_⟩
 ·refine(cq (κ:=Int) aT (rfl:ai Ty _=.map _ _) bL rfl rfl (h.pick 3 [2]) p.left).mono ?_;rintro _ _⟨rfl,rfl⟩;obtain⟨q,M,e1,e2,X,back⟩:=uB rfl (h.pick 4 [3,0,1,2]) p.left;have a0:q.2.length<=j:=by simp_all[Mm]
  refine⟨_,_,_,e1,⟨W (X.pick 4 [3]),O (X.pick 3 [2])⟩,ag X λav a8 h=>⟨⟨W (h.pick 5 [4]),O (h.pick 4 [3])⟩,?_⟩⟩;refine(aU (us:=iv q.2) aT (rfl:ai Ty _=.slice _) (rfl:ai Ty _=.slice _) rfl rfl rfl h rfl (by simp[aK]) (by grind) ω).mono ?_;rintro _ a7⟨o,c',rfl,h⟩;refine⟨_,_,_,rfl,⟨W (h.pick 5 [4]),O (h.pick 4 [3])⟩,(dh (κ:=Int) aT (rfl:ai Ty _=.map _ _) bL (h.pick 7 [5,0,2,4,6]) p.left _).mono ?_⟩;rintro _ a4 h;have h:=AP back (q.2++[(j:Int)]) σ (by simp[iv]) h;exact⟨⟨ω,ω⟩,⟨j+1,_,σ,J,λs=>by grind[mX,HD],h.pick 4 [2,0,1,3]⟩,bY J⟩
 ·refine ag h λal aa h=>⟨⟨W (h.pick 3 [2]),O (h.pick 2 [1])⟩,(cq (κ:=Int) aT (rfl:ai Ty _=.map _ _) bL rfl rfl (h.pick 4 [3]) p.left).mono ?_⟩;rintro _ _⟨rfl,rfl⟩;obtain⟨q,M,e1,e2,X,back⟩:=uB rfl (h.pick 5 [4,0,1,2,3]) p.left;have a0:q.2.length<=j:=by simp_all[Mm]
  refine⟨_,_,_,e1,⟨W (X.pick 5 [4]),O (X.pick 4 [3])⟩,?_⟩;refine(aU (us:=iv q.2) aT (rfl:ai Ty _=.slice _) (rfl:ai Ty _=.slice _) rfl rfl rfl (X.pick 3 [2,0,1]) rfl (by simp[aK]) (by grind) ω).mono ?_;rintro _ a7⟨o,c',rfl,h⟩;refine⟨_,_,_,rfl,⟨W (h.pick 5 [4]),O (h.pick 4 [3])⟩,(dh (κ:=Int) aT (rfl:ai Ty _=.map _ _) bL (h.pick 7 [5,0,2,4,6]) p.left _).mono ?_⟩;rintro _ a4 h;have h:=AP back (q.2++[(j:Int)]) σ (by simp[iv]) h;exact⟨⟨ω,ω⟩,⟨j+1,_,σ,J,λs=>by grind[mX,HD],h.pick 4 [2,0,1,3]⟩,bY J⟩
theorem aeG{h:Hp}{k kb:Nat}{ps:List (Int×Lq Int)}(hg:gR h g x)(hps:∀s,jU s ps=(Jb g s).map Int.ofNat)(hs:aG (az k (x.cells++[.map (some kb)])::mapA kb (mV ps)::aV (mO 1 iv ps)::L) h):MkR h g k:=by
 obtain⟨X,U,hA⟩:=Bi 1 hs;refine⟨x,kb,mV ps,af 0 hs,hg,fu U hA,λs=>?_⟩;have e:=hps s;cases hq:fF s ps with
 |none=>
  have u:jU s ps=[]:=by simp_all[jU]
  rw[u] at e;have O:Jb g s=[]:=List.map_eq_nil_iff.1 e.symm;rw[js,hq,O];exact⟨none,0,rfl,aY.nil⟩
 |some q=>
  have u:jU s ps=q.2:=by simp_all[jU]
  rw[u] at e;obtain⟨W,J,V⟩:=SJ (aq (aq hs)) hq;have hl:q.2.length=(Jb g s).length:=by simp_all
  refine⟨q.1.1,q.1.2,by simp_all[js,bS],?_⟩;rw[<-e,<-hl];exact(bp rfl (bK V)).mono J
def abS(g:ah)(I:List au):Prop:=∀x∈I,vn g x
theorem OG{k:Nat}{y:au}(hm:MkR (hp w) g k)(hf:vn g y):
  ρ 184 [vP (some (aM k)),.agg (eW y).toArray] w λv w'=>v=iI (mQ g y)/\Gr w w':=by
 obtain⟨x,kb,m,h1,hg,_,_⟩:=hm.ex;obtain⟨h2,h3,p,Z,h4⟩:=hf;refine wY (ag (St.all w) λk1 w1 h=>?_);intro w2 hd;have h:=h.eq (aP hd);have g2:Gr w w2:=h.aQ;have r2:aj (hp w2) (aM k1) [iI y.prod,iI y.dot]:=af 0 h.l;obtain⟨n,hn⟩:∃n:Nat,y.prod=n:=⟨y.prod.toNat,ω⟩;obtain⟨d,J⟩:∃d:Nat,y.dot=d:=⟨y.dot.toNat,ω⟩;have U:g.prods[n]? =some p:=by simp_all
 have W:n<x.pl:=by have:=(afK.1 U).1;have:=hg.p.1;omega
 obtain⟨p',a4,vs,O,a0,Y,ra,rl,rc,rfl,a6,V⟩:=hg.p.get W;rw[U] at O;cases O;have a5:=V.1;refine⟨λu=>Gr w2 u,Gr.refl _,x.pa,x.pl,x.pc,λu s=>h1.cell (sub.trans g2 s) (j:=4) rfl,_,λu s=>r2.cell0 s,?_⟩;rw[hn];refine aJ a0 W ⟨_,_,_,λu s=>Y.cell (sub.trans g2 s) (j:=1) rfl,_,r2.cell sZZ (j:=1) rfl,?_⟩;rw[wR Z,J,afU]
 refine ae (λh5=>?_) λh5=>?_
 ·grind
 ·have h5:d≠rl:=λe=>by simp_all
  obtain⟨v,ad,hv,X,cv⟩:=V.dS (i:=d) ω;refine⟨_,(r2.cell sZZ (j:=1) rfl),?_⟩
  show idx ra rl y.dot 1 _
  rw[J];refine ay X ω ⟨v,cv _ g2,?_⟩
  simp_all
end
end Go.Proofs.YtaoaemnefghnbaaGreatDoor
