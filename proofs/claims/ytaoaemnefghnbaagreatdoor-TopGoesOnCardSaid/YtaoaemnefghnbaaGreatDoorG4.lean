/- Texts of this claim, one behind the other. -/
import Derived.Test.YtaoaemnefghnbaaGreatDoorG3
import Derived.Laws.IdiomStrings
import Derived.Test.YtaoaemnefghnbaaGreatDoorG2
import Derived.Laws.StructEq
set_option linter.unusedVariables false
set_option linter.unusedSectionVars false
set_option maxRecDepth 100000
set_option maxHeartbeats 16000000
namespace Go.V
end Go.V
namespace Go.Proofs.YtaoaemnefghnbaaGreatDoor
end Go.Proofs.YtaoaemnefghnbaaGreatDoor
open Go.V Go.Proofs.YtaoaemnefghnbaaGreatDoor
namespace Go.Proofs.YtaoaemnefghnbaaGreatDoor
theorem aeH{n:Nat}(h:(n+1)*16<=140737488355328):n<9223372036854775807:=ω
theorem th{α:Type}:∀{l m:List α},l.Nodup->(∀x∈l,x∈m)->l.length<=m.length
 |[],m,_,_=>afL _
 |a::l,m,h,hs=>by
  obtain⟨m1,m2,rfl⟩:=List.append_of_mem (hs a σ)
  rw[agB] at h
  have:=th (l:=l) (m:=m1++m2) h.2 λx hx=>by grind
  grind
def it0(i:Nat):au:=⟨(i:Int),0⟩
theorem wi.or{g:ah}{I:List au}{x:au}(h:wi g I x):x∈I\/∃i,i<g.prods.length/\x=it0 i:=by
 cases h with
 |base h=>simp_all
 |step _ _ hp _=>exact .inr ⟨_,(afK.1 hp).1,rfl⟩
theorem SK(g:ah)(I:List au):(cls g I).length<=I.length+g.prods.length:=by
 have:=th (m:=I++(List.range g.prods.length).map it0) (LZ (g:=g) (I:=I)).nodup λx u=>by
  rw[afT]
  rcases(BU.1 u).or with h|⟨i,hi,rfl⟩
  ·simp_all
  grind
 simp_all
theorem WZ{h:Hp}{xs:List au}{a:ahr}{l:Nat}(r:aY h xs a l):ec a (tv xs) h:=by
 cases xs with
 |nil=>exact .inl rfl
 |cons x0 xs'=>
  obtain⟨u,vs,rfl,_⟩:=r.2 0 x0 rfl;refine .inr ⟨u,rfl,ym (n:=2) (λ_=>rfl) _ u λi x U=>?_⟩;obtain⟨V,vs,e,O,J⟩:=r.2 i x U;cases e;rw[show vs=eW x from J] at O;omega
theorem acM(xs:List au):∀v∈tv xs,aK v=true:=λv u=>by
 obtain⟨x,_,u⟩:=agN.1 u
 rcases af6.1 u with rfl|u
 ·rfl
 ·rw[af_] at u;subst u;rfl
theorem Mn{P:Program}{Ty:TypeId->Option dp}{w:ahs}{L:List aC}{e e':TypeId}(hT:dY P Ty){t tx ty:TypeId}{i:dp}{z:Value}(hk:ai Ty t=.slice e)(hkx:ai Ty tx=.slice e')(hi:Ty e=some i)(hz:i.zero=some z)(hzs:(cellsOf z).length=i.size)
  {a a2:ahr} {l c n c2:Nat} {us news:List Value} (h:St w (own i.size a l c us::L)) (hn:news.length=n*i.size) (h0:0<i.size) (hx:ec a2 news (hp w)) (h1:∀u∈news,aK u=true) (hb:(l+n)*i.bytes<=140737488355328) (h63:l+n<=9223372036854775807):
  aX P (Builtin.append_ (Array.mk [t,tx]) ty (Array.mk [vS a l c,vS a2 n c2])) w λv w'=>∃a' c',v=vS a' (l+n) c'/\St w' (own i.size a' (l+n) c' (us++news)::L):=by
 refine ja hT hk hi hz hzs h (n:=n) (news:=news) (gk hT hkx hn ?_ h1) hb h63
 rcases hx with rfl|⟨O,rfl,hc⟩
 ·left
  rcases Nat.eq_zero_or_pos n with h|h
  ·omega
  ·have:=Nat.mul_pos h h0;simp_all
 ·exact .inr ⟨O,rfl,λj u J=>jA (hc j u J)⟩
structure AQ(g:ah)(I:List au)(m:List (Int×Value))(H:List Int)(i:Nat)(ls:List au):Prop where
 nd:H.Nodup
 eq:ls=I++(H.flatMap (Jb g)).map it0
 of:∀s∈H,0<=s/\∃y,wi g I y/\mQ g y=s
 mp:∀s,(assoc s m).getD (iI 0)=iI (if s∈H then 1 else 0)
 dn:∀(j:Nat) y,j<i->ls[j]? =some y->0<=mQ g y->mQ g y∈H
section
variable{g:ah}{I ls:List au}{m:List (Int×Value)}{H:List Int}{i:Nat}
theorem SL:∀{H:List Int},H.Nodup->(H.flatMap (Jb g)).Nodup
 |[],_=>σ
 |s::H,h=>by
  rw[agB] at h
  rw[agr,agw]
  refine⟨List.nodup_range.filter _,SL h.2,λa ha b hb e=>?_⟩
  subst e
  obtain⟨t,ht,hb⟩:=agN.1 hb
  obtain⟨p,h1,rfl⟩:=yv.1 ha
  obtain⟨q,h2,rfl⟩:=yv.1 hb
  simp_all
theorem AQ.len(h:AQ g I m H i ls):ls.length<=I.length+g.prods.length:=by
 have:=th (m:=List.range g.prods.length) (SL (g:=g) h.nd) λx u=>by grind[yv,List.getElem?_eq_some_iff]
 rw[agK] at this;rw[h.eq,afS,af4];omega
theorem AQ.sound(h:AQ g I m H i ls){x:au}(hx:x∈ls):wi g I x:=by
 rw[h.eq,afT] at hx
 rcases hx with hx|hx
 ·exact .base hx
 ·obtain⟨n,hn,rfl⟩:=afW.1 hx;obtain⟨s,J,hn⟩:=agN.1 hn;obtain⟨p,hp,e⟩:=yv.1 hn;obtain⟨h0,y,u,O⟩:=h.of s J;exact .step u ω hp ω
theorem AQ.start:AQ g I [] [] 0 I:=⟨σ,σ,λs u=>by simp_all,λs=>by rfl,λj y J=>ω⟩
theorem AQ.skip(h:AQ g I m H i ls){y:au}(hy:ls[i]? =some y)(hs:mQ g y<0\/mQ g y∈H):AQ g I m H (i+1) ls:=
 ⟨h.nd,h.eq,h.of,h.mp,λj z J u h0=>by
  by_cases e:j=i
  ·grind
  ·exact h.dn j z ω u h0⟩
theorem AQ.more(h:AQ g I m H i ls){y:au}(hy:ls[i]? =some y)(h0:0<=mQ g y)(hs:mQ g y∉H):AQ g I (cO (mQ g y) (iI 1) m) (H++[mQ g y]) (i+1) (ls++(Jb g (mQ g y)).map it0):=by
 have V:=afI hy
 refine⟨?_,?_,λs u=>?_,λs=>?_,λj z W O U=>?_⟩
 ·rw[agw];exact⟨h.nd,σ,λa ha b hb e=>by simp_all⟩
 ·rw[agh,af8,<-af0,<-h.eq];simp
 ·rw[afT,af_] at u
  rcases u with u|rfl
  ·exact h.of s u
  ·exact⟨h0,y,h.sound V,rfl⟩
 ·rw[fl]
  by_cases e:s=mQ g y
  ·grind
  ·rw[afV e,h.mp s];grind
 ·rw[afT,af_];have J:j<ls.length:=by grind
  rw[af5 J] at O
  by_cases e:j=i
  ·simp_all
  ·exact .inl (h.dn j z ω O U)
theorem AQ.fin(h:AQ g I m H i ls)(hi:i=ls.length):lay ls=cls g I:=by
 refine Z2 (n_ _) λx=>?_;rw[mB];refine⟨h.sound,λu=>?_⟩
 induction u with
 |base u=>rw[h.eq];simp_all
 | @step y k p _ h1 h2 h3 ih=>
  obtain⟨j,J⟩:=agb ih;have:=h.dn j y (by grind) J h1;rw[h.eq,afT];exact .inr (afW.2 ⟨k,agN.2 ⟨_,this,yv.2 ⟨p,h2,h3⟩⟩,rfl⟩)
end
section
variable{w:ahs}{L:List aC}{a:ahr}{l c:Nat}{I:List au}{g:ah}
theorem Z8(hr:aY (hp w) I a l)(hb:l*16<=140737488355328):ρ 270 [vS a l c] w λv w'=>∃o c',v=vS o l c'/\St w' (own 2 o l c' (tv I)::all w):=by
 have hl:=hr.1
 refine jn (ae (λh=>?_) λh=>?_)
 ·have ha:a=none:=by simp_all
  subst ha
  have J:I=[]:=by
   cases I with
   |nil=>rfl
   |cons x _=>obtain⟨O,_,e,_⟩:=hr.2 0 x rfl;grind
  subst J;have:l=0:=hl.symm;subst this;exact⟨_,_,rfl,aI 2 (St.all w)⟩
 ·refine ag (St.all w) λk u h=>?_;have g1:Gr w u:=h.aQ;have h:St u (own 2 (some (aM k)) 0 0 []::all w):=bj (cs:=[]) h rfl rfl (afR _);refine(Mn (us:=[]) (news:=tv I) aT (rfl:ai Ty _=.slice _) (rfl:ai Ty _=.slice _) rfl rfl rfl h (by rw[jQ,hl]) σ (WZ (hr.mono g1)) (acM I) (by simp_all) ω).mono ?_
  grind
theorem Ur{k:Nat}(hm:MkR (hp w) g k)(hr:aY (hp w) I a l)(hf:abS g I)(hb:(l+g.prods.length+1)*16<=140737488355328):
  ρ 183 [vP (some (aM k)),vS a l c] w λv w'=>∃o,v=.slice o (cls g I).length (cls g I).length/\St w' (own 2 o (cls g I).length (cls g I).length (tv (cls g I))::all w):=by
 have hl:=hr.1;refine vr ((Z8 hr ω).mono ?_);rintro _ w1⟨o,c',rfl,h⟩;refine⟨_,_,_,rfl,nI h λkh w2 h=>?_⟩;have h:=dT (κ:=Int) h
 refine⟨λo n c z w'=>∃(i:Nat)(ls:List au)(m:List (Int×Value))(H:List Int),z=i/\n=ls.length/\i<=ls.length/\AQ g I m H i ls/\St w' (own 2 o n c (tv ls)::mapA kh m::all w),λ_ _ _ z _=>(l+g.prods.length)-z.toNat,
  ⟨0,I,[],[],rfl,hl.symm,afL _,.start,h.pick 2 [1,0]⟩,?_⟩
 clear h;rintro _ o _ c2 _ w3⟨i,ls,m,H,rfl,rfl,hi,hC,h⟩;have J:=hC.len;rw[hl] at J;refine ae (λU=>?_) λU=>?_
 rotate_left
 ·have U:i=ls.length:=by grind
  refine(WO h ω).mono ?_;rintro _ al⟨a',rfl,h⟩;rw[hC.fin U] at h ⊢;exact⟨_,_,_,rfl,_,rfl,h.pick 3 [0,2]⟩
 have U:i<ls.length:=by simp_all
 obtain⟨y,ad,hy,rfl,cy⟩:=kU (BW h) U;have a6:=afI hy;have a8:vn g y:=(hC.sound a6).fit hf;have s3:sub (hp w) (hp w3):=aA 2 h.l;refine aJ rfl U ⟨_,_,cy _ sZZ,(OG (hm.mono s3) a8).mono ?_⟩;rintro _ w4⟨rfl,g4⟩;have h:=h.gr g4
 refine⟨_,rfl,ae (λW=>?_) λW=>?_⟩
 ·have W:=afO W;exact⟨⟨ω,ω⟩,⟨i+1,ls,m,H,σ,rfl,U,hC.skip hy (.inl W),h⟩,bY ω⟩
 have W:0<=mQ g y:=by simp_all
 refine(cq (κ:=Int) aT (rfl:ai Ty _=.map _ _) bL rfl rfl (h.pick 3 [1,0,2]) _).mono ?_;rintro _ _⟨rfl,rfl⟩
 refine⟨_,hC.mp _,ae (λX=>?_) λX=>?_⟩
 ·have X:mQ g y∈H:=by grind
  exact⟨⟨ω,ω⟩,⟨i+1,ls,m,H,σ,rfl,U,hC.skip hy (.inr X),h⟩,bY ω⟩
 have X:mQ g y∉H:=λhn=>by simp_all
 refine(cq (κ:=Int) aT (rfl:ai Ty _=.map _ _) bL rfl rfl (h.pick 3 [1,0,2]) _).mono ?_;rintro _ _⟨rfl,rfl⟩;refine⟨_,hC.mp _,⟨ω,ω⟩,(dh (κ:=Int) aT (rfl:ai Ty _=.map _ _) bL (h.pick 3 [1,0,2]) _ _).mono ?_⟩;rintro _ w7 h;rw[afV X,show(0:Int)+1=1 from rfl] at h;have V:=hC.more hy W X;have u:=V.len;rw[hl,afS,af4] at u;have s7:sub (hp w) (hp w7):=aA 2 h.l;obtain⟨x,kb,mb,r1,hg,Y,Z⟩:=hm.ex;obtain⟨ab,cb,eb,rb⟩:=Z (mQ g y);refine⟨_,r1.cell s7 (j:=5) rfl,(OE (κ:=Int) Y s7 aT (rfl:ai Ty _=.map _ _) bL rfl rfl _).mono ?_⟩;rintro _ w8⟨rfl,e8⟩;rw[e8];refine⟨_,_,_,eb,?_⟩
 refine⟨λo n c z w'=>∃j:Nat,z=j/\j<=(Jb g (mQ g y)).length/\n=ls.length+j/\St w' (own 2 o n c (tv (ls++((Jb g (mQ g y)).take j).map it0))::mapA kh (cO (mQ g y) (iI 1) m)::all w),λ_ _ _ z _=>(Jb g (mQ g y)).length-z.toNat,
  ⟨0,rfl,afL _,rfl,?_⟩,?_⟩
 ·rw[List.take_zero,List.map_nil,agc];exact h.pick 3 [1,0,2]
 clear h;rintro _ o _ c9 _ w9⟨j,rfl,hj,rfl,h⟩;have s9:sub (hp w) (hp w9):=aA 2 h.l;refine ae (λO=>?_) λO=>?_
 rotate_left
 ·have O:j=(Jb g (mQ g y)).length:=by grind
  subst O;rw[af7] at h;exact⟨⟨ω,ω⟩,⟨i+1,_,_,_,σ,σ,by grind,V,h⟩,bY (Nat.lt_of_lt_of_le U J)⟩
 have O:j<(Jb g (mQ g y)).length:=by simp_all
 obtain⟨n,hn⟩:∃n,(Jb g (mQ g y))[j]? =some n:=⟨_,afJ O⟩;obtain⟨v,am,hv,a5,cb⟩:=rb.dS O;have a4:v=(n:Int):=by simp_all
 subst a4;have a0:(ls.length+j+1)*16<=140737488355328:=agn (ag2 16 (Nat.succ_le_succ (agn (Nat.add_le_add_left (Nat.le_of_lt O) _) u))) hb;have a7:=aeH a0;clear J u V Z Y;refine ay a5 O ⟨_,cb _ s9,ag h λav a9 h=>?_⟩;refine(aU (us:=tv (ls++((Jb g (mQ g y)).take j).map it0)) aT (rfl:ai Ty _=.slice _) (rfl:ai Ty _=.slice _) rfl rfl rfl h rfl (by simp[aK]) a0 a7).mono ?_;rintro _ aa⟨o6,b1,rfl,h⟩;refine⟨_,_,_,rfl,⟨ω,ω⟩,⟨j+1,σ,O,rfl,?_⟩,bY O⟩
 have e:tv (ls++((Jb g (mQ g y)).take (j+1)).map it0)=tv (ls++((Jb g (mQ g y)).take j).map it0)++[iI (n:Int),iI 0]:=by
  rw[afM,hn,agQ,af8,<-af0,DI];rfl
 rw[e];exact h.pick 4 [0,2,3]
def u5(g:ah)(K:List au)(s:Int):List au:=(K.filter λx=>decide (mQ g x=s)).map λx=>⟨x.prod,x.dot+1⟩
theorem QY{g:ah}{K:List au}{x:au}{s:Int}:u5 g (K++[x]) s=if s=mQ g x then u5 g K s++[⟨x.prod,x.dot+1⟩] else u5 g K s:=by
 unfold u5
 grind
theorem KL(g:ah)(K:List au)(s:Int):(u5 g K s).length<=K.length:=by simp[u5,agp]
theorem Ut{k:Nat}(hm:MkR (hp w) g k)(hr:aY (hp w) I a l)(hf:abS g I)(hb:(l+g.prods.length+1)*16<=140737488355328)(hbr:∀p∈g.prods,p.right.length<=17592186043904):
  ρ 95 [vP (some (aM k)),vS a l c] w λv w'=>∃(kk:Nat)(ps:List (Int×Lq au)),v=.map (some kk)/\(∀s,0<=s->jU s ps=bx g I s)/\(ps.map Prod.fst).Nodup/\(∀s,s∈ps.map Prod.fst↔0<=s/\bx g I s≠[])/\St w' (mapA kk (mV ps)::aV (mO 2 tv ps)::all w):=by
 have hl:=hr.1;refine vp (nI (St.all w) λkk w1 h=>?_);have h:=dT (κ:=Int) h;have g1:Gr w w1:=aA 1 h.l;refine((Ur (hm.mono g1) (hr.mono g1) hf hb).mono ?_);rintro _ w2⟨o,rfl,J⟩;have h:=J.fb h.l;have X:=SK g I;rw[hl] at X;refine⟨_,_,_,rfl,?_⟩
 refine⟨λz w'=>∃(j:Nat)(ps:List (Int×Lq au)),z=j/\j<=(cls g I).length/\(∀s,0<=s->jU s ps=u5 g ((cls g I).take j) s)/\(ps.map Prod.fst).Nodup/\(∀s,s∈ps.map Prod.fst↔0<=s/\u5 g ((cls g I).take j) s≠[])/\
   St w' (mapA kk (mV ps)::aV (mO 2 tv ps)::own 2 o (cls g I).length (cls g I).length (tv (cls g I))::all w),λz _=>(cls g I).length-z.toNat,
  ⟨0,[],rfl,afL _,λs _=>by rfl,σ,λs=>by simp[u5],?_⟩,?_⟩
 ·have h3:St w2 (mapA kk ([]:List (Int×Value))::own 2 o (cls g I).length (cls g I).length (tv (cls g I))::all w):=h.pick 3 [1,0,2];exact((St.flat (M:=[])).2 h3).swap
 clear h J;rintro _ _ w3⟨j,ps,rfl,hj,W,U,O,h⟩;refine ae (λu=>?_) λu=>?_
 rotate_left
 ·have u:j=(cls g I).length:=by grind
  rw[u,af7] at W O;exact⟨kk,ps,rfl,W,U,O,h.pick 4 [0,1,3]⟩
 have u:j<(cls g I).length:=by simp_all
 obtain⟨y,ad,hy,rfl,cy⟩:=kU (BW (h.pick 3 [2])) u;have V:vn g y:=(BU.1 (afI hy)).fit hf
 have a7:y.dot+1<=9223372036854775807:=by
  obtain⟨_,_,p,hp,h5⟩:=V
  grind
 have a5:=V.2.1;have s3:sub (hp w) (hp w3):=aA 3 h.l;have Z:∀s,u5 g ((cls g I).take (j+1)) s=if s=mQ g y then u5 g ((cls g I).take j) s++[⟨y.prod,y.dot+1⟩] else u5 g ((cls g I).take j) s:=λs=>by simp_all[afM,QY]
 refine aJ rfl u ⟨_,_,cy _ sZZ,ag h λk4 w4 h=>aL h rfl (by simp[aK]) λw5 h=>⟨_,_,(af 0 h.l).at sZZ rfl,(OG (hm.mono (aA 4 h.l)) V).mono ?_⟩⟩;rintro _ w6⟨rfl,g6⟩;have h:=h.gr g6;refine⟨_,rfl,ae (λJ=>?_) λJ=>?_⟩
 rotate_left
 ·have J:mQ g y<0:=by simp_all
  refine⟨⟨ω,ω⟩,⟨j+1,ps,σ,u,λs hs=>?_,U,λs=>?_,h.pick 5 [1,2,3,4]⟩,bY u⟩
  ·grind
  grind
 have J:0<=mQ g y:=afO J;refine(cq (κ:=Int) aT (rfl:ai Ty _=.map _ _) bL rfl rfl (h.pick 5 [1,0,2,3,4]) _).mono ?_;rintro _ w7⟨rfl,e7⟩;rw[e7];obtain⟨q,M,e1,e2,hq,back⟩:=uB rfl (h.pick 5 [2,0,1,3,4]) (mQ g y);have a0:q.2.length<=(cls g I).length:=by grind[Nat.le_trans,KL,List.length_take]
 have r4:aj (hp w6) (aM k4) [iI y.prod,iI y.dot]:=af 2 hq.l;have Y:(q.2.length+1)*16<=140737488355328:=agn (ag2 16 (Nat.succ_le_succ (agn a0 X))) hb;have a4:=aeH Y;refine⟨_,_,_,e1,_,r4.cell0 sZZ,_,r4.cell sZZ (j:=1) rfl,⟨ω,ω⟩,ag hq λk7 w8 h=>?_⟩;refine(aU (us:=tv q.2) aT (rfl:ai Ty _=.slice _) (rfl:ai Ty _=.slice _) rfl rfl rfl h rfl (by simp[aK]) Y a4).mono ?_;rintro _ w9⟨o3,c3,rfl,h⟩;refine⟨_,_,_,rfl,(dh (κ:=Int) aT (rfl:ai Ty _=.map _ _) bL (h.pick 7 [4,0,2,5,6]) (mQ g y) _).mono ?_⟩;rintro _ a6 h;have h:=AP back (q.2++[⟨y.prod,y.dot+1⟩]) σ (by rw[DI];rfl) h
 refine⟨⟨ω,ω⟩,⟨j+1,_,σ,u,λs hs=>?_,Ml _ U,λs=>?_,h⟩,bY u⟩
 ·rw[mX,Z,e2]
  simp_all
 ·rw[DZ,Z];have:=O s
  by_cases e:s=mQ g y
  ·subst e;rw[afZ rfl];refine⟨λ_=>⟨J,σ⟩,λ_=>?_⟩
   grind
  grind
end
section
variable{α:Type}{f:α->List Value}{n:Nat}
theorem pf(hf:∀x,(f x).length=n):∀xs:List α,(xs.flatMap f).length=xs.length*n
 |[]=>σ
 |x::xs=>by rw[agr,afS,hf,pf hf xs,agk,ahi,Nat.add_comm]
theorem W0(hf:∀x,(f x).length=n):∀(xs:List α)(i j:Nat)(x y:α)(v:Value),xs[i]? =some x->j<n->f y=(f x).set j v->(xs.flatMap f).set (i*n+j) v=(xs.set i y).flatMap f
 |[],i,j,x,y,v,h,_,_=>by rfl
 |z::xs,0,j,x,y,v,h,hj,he=>by simp_all
 |z::xs,i+1,j,x,y,v,h,hj,he=>by
  rw[List.set_cons_succ,agr,agr,agS _ _ (by grind),hf,show(i+1)*n+j-n=i*n+j by grind]
  rw[W0 hf xs i j x y v (by simp_all) hj he]
end
theorem Gh{M L:List aC}{h:Hp}{i:Nat}{A:aC}(hs:aG (aV M::L) h)(hi:M[i]? =some A):∃h1,sub h1 h/\A h1:=by
 have J:=oK.1 hs;obtain⟨u,e⟩:=afK.1 hi;obtain⟨h1,s1,ha⟩:=ew i (by grind) J;rw[HC (by grind),List.getElem_append_left u,e] at ha
 grind
def Uu(x:aH):List Value:=[iI x.sym,iI x.to]
def p8(xs:List aH):List Value:=xs.flatMap Uu
theorem Z9(xs:List aH):(p8 xs).length=xs.length*2:=pf (f:=Uu) (n:=2) (λ_=>rfl) xs
abbrev SQ:=Lq au×Lq aH
def Uv(q:SQ):List Value:=[bS q.1,bS q.2]
def P6(ss:List SQ):List Value:=ss.flatMap Uv
def SM(ss:List SQ):List aC:=ss.map λq=>bG 2 tv q.1
def QZ(ss:List SQ):List aC:=ss.map λq=>bG 2 p8 q.2
def eZ(ss:List SQ):List dx:=ss.map λq=>q.1.2
def cr(ss:List SQ):List (List aH):=ss.map λq=>q.2.2
theorem SN(ss:List SQ):(P6 ss).length=ss.length*2:=pf (f:=Uv) (n:=2) (λ_=>rfl) ss
theorem W1(ss:List SQ)(q:SQ):P6 (ss++[q])=P6 ss++Uv q:=by simp[P6]
def kW(x:au):Prop:=0<=x.prod/\x.prod<256/\0<=x.dot/\x.dot<65536
def FN(x:au):List UInt8:=[UInt8.ofNat x.prod.toNat,UInt8.ofNat (x.dot.toNat%256),UInt8.ofNat (x.dot.toNat/256)]
def vN(K:List au):List UInt8:=K.flatMap FN
def mn(K:List au):ByteArray:=⟨(vN K).toArray⟩
def u8V(b:UInt8):Value:=.int .u8 (b.toNat:Int)
theorem W2{x y:au}(hx:kW x)(hy:kW y)(h:FN x=FN y):x=y:=by
 obtain⟨a1,a2,a3,Z⟩:=hx;obtain⟨b1,W,b3,U⟩:=hy;unfold FN at h;simp only[List.cons.injEq,and_true] at h;obtain⟨J,u,O⟩:=h;have X:=congrArg UInt8.toNat J;have V:=congrArg UInt8.toNat u;have Y:=congrArg UInt8.toNat O
 grind[UInt8.toNat_ofNat',au.ext']
theorem OH:∀{K M:List au},(∀x∈K,kW x)->(∀x∈M,kW x)->vN K=vN M->K=M
 |[],[],_,_,_=>rfl
 |[],y::M,_,_,h=>by grind[vN,FN]
 |x::K,[],_,_,h=>by grind[vN,FN]
 |x::K,y::M,hk,hm,h=>by
  unfold vN at h
  rw[agr,agr] at h
  obtain⟨h1,h2⟩:=List.append_inj h rfl
  rw[W2 (hk x σ) (hm y σ) h1,OH (λz hz=>hk z (by grind)) (λz hz=>hm z (by grind)) h2]
theorem Q0{K M:List au}(hk:∀x∈K,kW x)(hm:∀x∈M,kW x)(h:mn K=mn M):K=M:=by
 refine OH hk hm ?_
 simp_all[mn]
theorem Uw(K:List au)(x:au):vN (K++[x])=vN K++FN x:=by simp[vN]
theorem OI(K:List au):(vN K).length=K.length*3:=by
 induction K with
 |nil=>rfl
 |cons x K ih=>grind[vN,List.length_append,List.length_cons,FN]
theorem afs{x:au}(h:kW x):[Value.int .u8 (IntKind.u8.wrap x.prod),Value.int .u8 (IntKind.u8.wrap x.dot),Value.int .u8 (IntKind.u8.wrap (aZ .i64 x.dot 8))]=(FN x).map u8V:=by
 obtain⟨a1,a2,a3,u⟩:=h
 have e:aZ .i64 x.dot 8=x.dot/256:=by
  simp only[aZ,IntKind.bits]
  grind
 rw[e];simp only[FN,agv,List.map_nil,u8V,UInt8.toNat_ofNat',IntKind.wrap,IntKind.signed,IntKind.bits]
 grind
def FO(m:List (ByteArray×Value))(st:List dx):Prop:=∀K,(∀x∈K,kW x)->(assoc (mn K) m).getD (iI 0)=iI (if K∈st then((st.idxOf K:Nat):Int)+1 else 0)
theorem FO.start:FO [] []:=λK _=>by rfl
theorem FO.put{m:List (ByteArray×Value)}{st:List dx}{K:dx}(h:FO m st)(hK:∀x∈K,kW x)(hn:K∉st):FO (cO (mn K) (iI ((st.length+1:Nat):Int)) m) (st++[K]):=λM u=>by
 rw[fl]
 by_cases e:mn M=mn K
 ·have:=Q0 u hK e
  grind
 ·rw[afV e,h M u]
  grind
section
variable{w:ahs}{L:List aC}{a:ahr}{l c:Nat}{K:List au}
theorem aeI(hr:aY (hp w) K a l)(hK:∀x∈K,kW x)(hne:K≠[])(hb:l*16<=140737488355328):
  ρ 182 [vS a l c] w λv w'=>v=.string (mn K)/\Gr w w':=by
 have hl:=hr.1;refine Oj ⟨λo n c z w'=>∃j:Nat,z=j/\j<=l/\n=(vN (K.take j)).length/\St w' (own 1 o n c ((vN (K.take j)).map u8V)::all w),λ_ _ _ z _=>l-z.toNat,⟨0,rfl,afL _,rfl,aI 1 (St.all w)⟩,?_⟩;rintro _ o _ c1 _ Z⟨j,rfl,X,rfl,h⟩;have s1:sub (hp w) (hp Z):=aA 1 h.l
 refine ae (λu=>?_) λu=>?_
 ·have u:j<l:=by simp_all
  obtain⟨x,Y,hx,rfl,cx⟩:=kU hr u;have V:=hK x (afI hx);refine aJ rfl u ⟨_,_,cx _ s1,ag h λk3 w2 h=>aL h rfl (by simp[aK]) λw3 h=>?_⟩;have O:aj (hp w3) (aM k3) [iI x.prod,iI x.dot]:=af 0 h.l;refine⟨_,O.cell0 sZZ,_,O.cell sZZ (j:=1) rfl,_,O.cell sZZ (j:=1) rfl,by show(0:Int)<=8;simp,?_⟩;refine ag h λk4 w4 h=>?_;rw[afs V] at h;have U:=OI (K.take j);rw[agj] at U;refine(Mn (n:=3) (us:=(vN (K.take j)).map u8V) (news:=(FN x).map u8V) aT (rfl:ai Ty _=.slice _) (rfl:ai Ty _=.slice _) rfl rfl rfl (h.pick 3 [2,0]) rfl σ (.inr ⟨_,rfl,af 0 h.l⟩) (λu hu=>by obtain⟨b,_,rfl⟩:=afW.1 hu;rfl) (by grind) ω).mono ?_;rintro _ w5⟨o2,c2,rfl,h⟩;have e:vN (K.take (j+1))=vN (K.take j)++FN x:=by rw[afM,hx,agQ,Uw]
  refine⟨_,_,_,rfl,⟨ω,ω⟩,⟨j+1,σ,u,by rw[e,afS];rfl,?_⟩,bY u⟩;rw[e,af8];exact h.pick 3 [0,2]
 ·have u:j=l:=by grind
  subst u;rw[<-hl,af7] at h ⊢;have J:0<((vN K).map u8V).length:=by grind[List.length_map,OI,List.length_pos_iff]
  obtain⟨Y,rfl⟩:=eE h J;have W:=run_convert_bytes_back (P:=Tryz.prog) Z QD sj Wr Y c1 (vN K) N8 Ui oV λj X=>qp h rfl (by rw[afQ,afJ X];rfl);exact⟨_,_,W,Ev.refl _,_,rfl,rfl,h.aQ⟩
end
abbrev Q1(kt ka:Nat)(o:ahr)(c:Nat)(asked int:Int)(m:List (ByteArray×Value))(ss:List SQ)(L:List aC):List aC:=
 az kt [vS o ss.length c,iI asked,iI int,.map (some ka)]::own 2 o ss.length c (P6 ss)::mapA ka m::aV (SM ss)::aV (QZ ss)::L
def pg(ss:List SQ)(b:ahr)(d:Nat)(K:dx):List SQ:=if K∈eZ ss then ss else ss++[(((b,d),K),((none,0),[]))]
theorem Mo(ss:List SQ)(b:ahr)(d:Nat)(K:dx):eZ (pg ss b d K)=wT (eZ ss) K:=by grind[pg,wT,eZ]
theorem tj(ss:List SQ):(eZ ss).length=ss.length:=af4 _
theorem acN{ss:List SQ}{K:dx}(h:K∈eZ ss):∃q,ss[(eZ ss).idxOf K]? =some q/\q.1.2=K:=by
 have u:=List.idxOf_lt_length_of_mem h;rw[tj] at u;refine⟨ss[(eZ ss).idxOf K],afJ u,?_⟩;have J:(eZ ss)[(eZ ss).idxOf K]'(by grind)=K:=List.getElem_idxOf _
 grind[eZ]
theorem Mp{h:Hp}{o:ahr}{ss:List SQ}{i:Nat}{q:SQ}(r:ec o (P6 ss) h)(hq:ss[i]? =some q):∃ad,o=some ad/\aj h (ad.add (eV i 2)) (Uv q):=by
 rcases r with e|⟨ad,rfl,r⟩
 ·have u:=congrArg List.length e
  grind[SN,List.length_nil,List.getElem?_eq_some_iff]
 ·exact⟨ad,rfl,cG (n:=2) (λ_=>rfl) ss ad r i q hq⟩
theorem Mq{ss:List SQ}{i:Nat}{q:SQ}(hq:ss[i]? =some q):(SM ss)[i]? =some (bG 2 tv q.1):=by simp_all[SM]
theorem Z_{ss:List SQ}{i:Nat}{q:SQ}(hq:ss[i]? =some q):(QZ ss)[i]? =some (bG 2 p8 q.2):=by simp_all[QZ]
theorem Mr{q:Lq au}{h:Hp}(ha:bG 2 tv q h):aY h q.2 q.1.1 q.2.length:=L8 rfl (bK ha)
section
variable{w:ahs}{L:List aC}
theorem OJ{kt ka c l d:Nat}{o b:ahr}{asked int:Int}{m:List (ByteArray×Value)}{ss:List SQ}{K:dx}(h:St w (Q1 kt ka o c asked int m ss (own 2 b l d (tv K)::L)))
  (hK:FO m (eZ ss)) (hne:K≠[]) (hsm:∀x∈K,kW x) (ha:0<=asked/\asked<4611686018427387904) (hi:0<=int/\int<4611686018427387904) (hn:ss.length<=300) (hl:l*16<=140737488355328):
  ρ 94 [vP (some (aM kt)),vS b l d] w λv w'=>v=iI ((eZ ss).idxOf K:Nat)/\∃o' c' m',FO m' (wT (eZ ss) K)/\
   St w' (Q1 kt ka o' c' (asked+1) (int+((pg ss b d K).length-ss.length:Nat)) m' (pg ss b d K) L):=by
 have a4:l=K.length:=by have:=fO (h.pick 6 [5]);grind[jQ]
 have a5:0<l:=by grind
 have hz:K[0]? =some K[0]:=afJ ω;refine wW ⟨_,(af 0 h.l).cell sZZ (j:=1) rfl,⟨ω,ω⟩,?_⟩
 show st1 w ((aM kt).add 1) _ _
 rw[ak];refine aR h σ λw1 h=>?_;obtain⟨h5,s5,Z⟩:=Bi 5 h.l;have J:aY (hp w1) K b l:=(L8 a4.symm (bK Z)).mono s5;refine(aeI J hsm hne hl).mono ?_;rintro _ w2⟨rfl,g2⟩;have h:=h.gr g2;have J:=J.mono g2;clear s5 Z
 refine⟨_,rfl,λu=>K∉eZ ss/\St u (Q1 kt ka o c (asked+1) int m ss (own 2 b l d (tv K)::L)),?_,?_⟩
 ·intro O hd;have h:=h.eq (aP hd);have J:aY (hp O) K b l:=J.mono (Gr.drawn hd);have U:aj (hp O) (aM kt) [vS o ss.length c,iI (asked+1),iI int,.map (some ka)]:=af 0 h.l
  have lk:aX Tryz.prog (Instr.lookup Ft (.map (some ka)) (.string (mn K)) false) O λv w'=>v=iI (if K∈eZ ss then(((eZ ss).idxOf K:Nat):Int)+1 else 0)/\w'=O:=by
   refine(cq (κ:=ByteArray) aT (rfl:ai Ty _=.map _ _) oV rfl rfl (h.pick 3 [2]) (mn K)).mono ?_;rintro _ _⟨rfl,rfl⟩;exact⟨hK K hsm,rfl⟩
  refine⟨λu=>Gr O u,Gr.refl _,_,λu s=>U.cell s (j:=3) rfl,lk.mono ?_⟩;rintro _ w5⟨rfl,e5⟩;rw[e5];refine⟨_,rfl,λu=>Gr O u,Gr.refl _,λ_ h=>h,ae (λh1=>?_) λh1=>?_⟩
  rotate_left
  ·grind
  have V:K∈eZ ss:=agD λhn=>by simp_all
  obtain⟨q,hq,bc⟩:=acN V;have av:=(afK.1 hq).1;obtain⟨ad,rfl,rs⟩:=Mp (dE 1 h.l) hq;obtain⟨h6,s6,a9⟩:=Gh (h.pick 4 [3]).l (Mq hq);have b3:aY (hp O) K q.1.1.1 q.1.2.length:=by have:=(Mr a9).mono s6;simp_all
  have b7:q.1.2.length=l:=by simp_all
  obtain⟨x,bi,hx,b2,cx⟩:=kU J a5;obtain⟨y,bl,hy,b1,cy⟩:=kU b3 (by omega:0<q.1.2.length);rw[hx] at hy;cases hy;rw[aez] at cx cy;refine⟨_,_,_,λu s=>U.cell0 s,_,λu s=>U.cell s (j:=3) rfl,uZ b2 a5 ⟨_,_,cx,lk.mono ?_⟩⟩;rintro _ b6⟨rfl,a7⟩;rw[a7,afZ V];have e1:(((eZ ss).idxOf K:Nat):Int)+1-1=(((eZ ss).idxOf K:Nat):Int):=ω
  refine⟨_,rfl,λu=>Gr O u,Gr.refl _,λ_ h=>h,⟨ω,ω⟩,?_⟩;rw[e1];refine aJ rfl av ⟨_,_,_,λu s=>rs.cell0 s,uZ b1 ω ⟨_,_,cy,_,λu _=>QU u _ _ x x,_,rfl,dL σ ⟨_,U.cell sZZ (j:=3) rfl,lk.mono ?_⟩⟩⟩;rintro _ b8⟨rfl,a8⟩;rw[a8,afZ V]
  refine⟨_,rfl,⟨ω,ω⟩,σ,some ad,c,m,?_,?_⟩
  ·simp_all[wT]
  ·unfold pg;rw[afZ V,agX];rw[show int+((0:Nat):Int)=int by omega];exact h.pick 6 [0,1,2,3,4]
 clear h J;rintro _ am⟨V,h⟩;refine⟨_,(af 0 h.l).cell sZZ (j:=2) rfl,⟨ω,ω⟩,?_⟩
 show st1 am ((aM kt).add 2) _ _
 rw[ak];refine aR h σ λb4 h=>?_;refine⟨_,_,_,(af 0 h.l).cell0 sZZ,ag h λk7 ba h=>?_⟩;refine(aU (us:=P6 ss) aT (rfl:ai Ty _=.slice _) (rfl:ai Ty _=.slice _) rfl rfl rfl (h.pick 3 [0,2,1]) rfl (by simp[aK]) (by grind) ω).mono ?_;rintro _ bz⟨X,Y,rfl,h⟩;refine⟨_,_,_,rfl,aR (h.pick 3 [2,0]) σ λbe h=>?_⟩;intro W hd;have h:=h.eq (aP hd);have h:St W (az kt [vS X (ss.length+1) Y,iI (asked+1),iI (int+1),.map (some ka)]::own 2 X (ss.length+1) Y (P6 ss++[vS b l d,vS none 0 0])::mapA ka m::aV (SM ss)::aV (QZ ss)::own 2 b l d (tv K)::L):=h;have U:aj (hp W) (aM kt) [vS X (ss.length+1) Y,iI (asked+1),iI (int+1),.map (some ka)]:=af 0 h.l;refine⟨λu=>Gr W u,Gr.refl _,_,λu s=>U.cell s (j:=3) rfl,_,_,_,λu s=>U.cell0 s,(dh (κ:=ByteArray) aT (rfl:ai Ty _=.map _ _) oV (h.pick 3 [2,0,1]) (mn K) _).mono ?_⟩;rintro _ aa h;have a0:=hK.put hsm V;rw[tj] at a0;refine⟨_,(af 1 h.l).cell sZZ (j:=3) rfl,(cq (κ:=ByteArray) aT (rfl:ai Ty _=.map _ _) oV rfl rfl h (mn K)).mono ?_⟩;rintro _ b5⟨rfl,al⟩;rw[al];have e1:=a0 K hsm;have e2:[K].idxOf K=0:=σ
 rw[afZ σ,List.idxOf_append,afV V,e2,ahj,tj] at e1;have a6:pg ss b d K=ss++[(((b,d),K),((none,0),[]))]:=by simp_all[pg]
 have bb:wT (eZ ss) K=eZ ss++[K]:=by simp_all[wT]
 refine⟨_,e1,⟨ω,ω⟩,?_,X,Y,cO (mn K) (iI ((ss.length+1:Nat):Int)) m,?_,?_⟩
 ·simp_all[List.idxOf_eq_length,tj]
 ·simp_all
 ·rw[a6];have h:=St.snoc ((aI 2 h).pick 7 [0,5,1,2,3,4,6]);have h:=(St.snoc (h.pick 6 [5,4,0,1,2,3])).pick 5 [3,4,2,0,1];have e3:P6 (ss++[(((b,d),K),((none,0),[]))])=P6 ss++[vS b l d,vS none 0 0]:=by rw[W1,a4];rfl
  have e4:SM (ss++[(((b,d),K),((none,0),[]))])=SM ss++[own 2 b l d (tv K)]:=by simp_all[SM,bG]
  have e5:QZ (ss++[(((b,d),K),((none,0),[]))])=QZ ss++[own 2 none 0 0 []]:=by simp[QZ,bG,p8]
  have e6:(ss++[(((b,d),K),(((none,0),[]):Lq aH))]).length=ss.length+1:=σ
  show St aa (az kt [vS X _ Y,_,iI (int+_),_]::own 2 X _ Y _::_::_::_::L)
  rw[e3,e4,e5,e6,show((ss.length+1-ss.length:Nat):Int)=1 by omega];exact h
end
section
variable{g:ah}{K:dx}{x:au}{s:Int}{i:Nat}
theorem ax.cX(h:ax g):g.T<=65/\g.N<=65/\g.prods.length<=97/\2<=g.prods.length/\1<=g.T/\2<=g.N:=by
 obtain⟨_,u,J,_⟩:=h;have ht:0<g.terms.length:=by have:=(afK.1 u.1).1;omega
 exact⟨u.2.2.1,u.2.2.2.1,J.2.1,J.1,ht,u.2.1⟩
theorem ax.sym(h:ax g){p:aO}(hp:p∈g.prods)(hs:s∈p.right):1<=s/\s<g.T+g.N:=by
 obtain⟨_,W,J,V,u,_,O,_⟩:=h;obtain⟨n,hn⟩:=agb hp;cases n with
 |zero=>
  rw[u] at hn;cases hn;rw[O,af_] at hs;have:=J.2.2.2;omega
 |succ n=>
  have U:p∈g.prods.drop 1:=by
   refine afI (i:=n) ?_
   simp_all
  have:=(J.2.2.1 p U).2 s hs;exact⟨this.1,this.2.1⟩
theorem xI(hc:ax g)(hf:∀x∈K,vn g x)(h0:0<=s)(hne:bx g K s≠[]):1<=s/\s<g.T+g.N:=by
 obtain⟨x,U⟩:=agP _ hne;obtain⟨y,O,J,_⟩:=dW.1 U;obtain⟨p,hp,_,u⟩:=L0 (O.fit hf) J h0;exact hc.sym (afI hp) (afI u)
theorem OL(hp:g.prods.length<=97)(hs:nZ K)(hf:∀x∈K,vn g x)(hd:∀x∈K,x.dot<=299):K.length<=29100:=by
 have:=th (m:=(List.range 29100).map λn=>(⟨((n/300:Nat):Int),((n%300:Nat):Int)⟩:au)) hs.nodup λx u=>by
  obtain⟨U,O,p,J,_⟩:=hf x u;have W:=(afK.1 J).1;have V:=hd x u;refine afW.2 ⟨x.prod.toNat*300+x.dot.toNat,agd.2 ω,?_⟩;exact au.ext' (by grind) (by grind)
 simp_all
theorem W3(hp:g.prods.length<=97)(hf:vn g x)(hd:x.dot<65536):kW x:=by
 obtain⟨J,u,p,O,_⟩:=hf;have U:=(afK.1 O).1;exact⟨J,ω,u,hd⟩
theorem AR(g:ah)(K:dx):(c_ g K).Pairwise (·<·):=(List.pairwise_lt_range (n:=g.T+g.N)).filter _
theorem aaa{ks:List Int}(hc:ax g)(hf:∀x∈K,vn g x)(hn:ks.Nodup)(hk:∀s,s∈ks↔0<=s/\bx g K s≠[]):ks.mergeSort (λx y=>decide (x<=y))=(c_ g K).map Int.ofNat:=by
 have hp:=List.mergeSort_perm ks (λx y=>decide (x<=y));have U:(ks.mergeSort λx y=>decide (x<=y)).Pairwise (·<=·):=by grind[List.pairwise_mergeSort,decide]
 have O:((c_ g K).map Int.ofNat).Pairwise (·<=·):=by grind[AR]
 have n2:((c_ g K).map Int.ofNat).Nodup:=by grind[AR]
 have V:ks.Perm ((c_ g K).map Int.ofNat):=(List.perm_ext_iff_of_nodup hn n2).2 λs=>by
  rw[hk,afW]
  constructor
  ·rintro⟨h0,u⟩;obtain⟨_,W⟩:=xI hc hf h0 u;refine⟨s.toNat,agi.2 ⟨agd.2 ω,?_⟩,by grind⟩
   grind
  ·rintro⟨n,J,rfl⟩;exact⟨σ,afO (agi.1 J).2⟩
 grind[List.Perm.eq_of_pairwise,Int.le_antisymm]
end
section
variable{κ α:Type}[DecidableEq κ]
def HE(s:κ)(ps:List (κ×Lq α)):Lq α:=(fF s ps).getD ((none,0),[])
theorem Q2{ps:List (κ×Lq α)}(hn:(ps.map Prod.fst).Nodup){s:κ}{q:Lq α}(hm:(s,q)∈ps):fF s ps=some q:=by
 induction ps with
 |nil=>simp_all
 |cons x m ih=>
  obtain⟨a,u⟩:=x;rw[agv,agB] at hn;unfold fF
  grind
theorem W4{sz:Nat}{f:List α->List Value}{ps:List (κ×Lq α)}(hn:(ps.map Prod.fst).Nodup){ks:List κ}(hp:ks.Perm (ps.map Prod.fst)):(mO sz f ps).Perm (ks.map λs=>bG sz f (HE s ps)):=by
 have e:mO sz f ps=(ps.map Prod.fst).map λs=>bG sz f (HE s ps):=by
  unfold mO;rw[List.map_map];refine agV λx u=>?_
  show bG sz f x.2=bG sz f (HE x.1 ps)
  unfold HE;rw[Q2 hn u];rfl
 rw[e];exact(hp.map _).symm
end
theorem W5{w:ahs}{L M N:List aC}(h:St w (aV M::L))(hp:M.Perm N):St w (aV N::L):=St.flat.2 ((St.flat.1 h).perm (hp.append_right _))
theorem aab{w:ahs}{L M:List aC}{A:aC}(h:St w (aV (A::M)::L)):St w (A::aV M::L):=by
 have J:St w (A::(M++L)):=St.flat.1 h;have u:St w (M++(A::L)):=J.perm agC.symm;exact(St.flat.2 u).swap
def Ms(es:List (List aH)):Nat:=(es.map List.length).sum
theorem KM(es:List (List aH))(x:List aH):Ms (es++[x])=Ms es+x.length:=by simp[Ms]
theorem tp{g:ah}{K:dx}:∀(l:List Nat)(acc:List dx×List aH),(pZ g K l acc).2.length=acc.2.length+l.length
 |[],_=>rfl
 |s::l,acc=>by
  show(pZ g K l _).2.length=_
  rw[tp l];grind
theorem W6{ss:List SQ}{i:Nat}{q:SQ}(hq:ss[i]? =some q)(e:Lq aH):eZ (ss.set i (q.1,e))=eZ ss/\SM (ss.set i (q.1,e))=SM ss/\cr (ss.set i (q.1,e))=(cr ss).set i e.2/\QZ (ss.set i (q.1,e))=(QZ ss).set i (bG 2 p8 e):=by simp_all[eZ,BS,SM,cr,QZ]
theorem aac{ss:List SQ}{i:Nat}{q:SQ}(hq:ss[i]? =some q)(e:Lq aH):(P6 ss).set (i*2+1) (bS e)=P6 (ss.set i (q.1,e)):=
 W0 (f:=Uv) (n:=2) (λ_=>rfl) ss i 1 q (q.1,e) _ hq σ rfl
structure bR(g:ah)(ss:List SQ):Prop where
 dn:SD g ss.length
 ks:eZ ss=(fK g ss.length).1
 es:cr ss=(fK g ss.length).2
structure Ux(g:ah)(ss:List SQ)(m:List (ByteArray×Value))(asked:Int)(i:Nat):Prop where
 ks:eZ ss=(fK g i).1
 es:cr ss=(fK g i).2++List.replicate (ss.length-i) []
 lt:∀j,j<i->j<(fK g j).1.length
 le:ss.length<=256
 key:FO m (eZ ss)
 ask:asked=1+(Ms (fK g i).2:Int)
structure OM(g:ah)(K:dx)(ss:List SQ)(m:List (ByteArray×Value))(asked:Int)(i t:Nat)(es:List aH):Prop where
 ks:eZ ss=(pZ g K ((c_ g K).take t) ((fK g i).1,[])).1
 ed:es=(pZ g K ((c_ g K).take t) ((fK g i).1,[])).2
 es:cr ss=(fK g i).2++List.replicate (ss.length-i) []
 le:ss.length<=256
 key:FO m (eZ ss)
 ask:asked=1+(Ms (fK g i).2:Int)+t
section
variable{g:ah}{K:dx}{ss:List SQ}{m m':List (ByteArray×Value)}{asked:Int}{i t:Nat}{es:List aH}
theorem Ux.start{b:ahr}{d:Nat}(h:FO m (wT [] [⟨0,0⟩])):Ux g (pg [] b d [⟨0,0⟩]) m 1 0:=by
 have e:pg [] b d [⟨0,0⟩]=[(((b,d),[⟨0,0⟩]),((none,0),[]))]:=by rfl
 have u:wT [] [(⟨0,0⟩:au)]=[[⟨0,0⟩]]:=by rfl
 rw[u] at h;rw[e];exact⟨rfl,rfl,λj J=>ω,σ,h,rfl⟩
theorem Ux.inner(h:Ux g ss m asked i)(hK:(fK g i).1[i]? =some K):OM g K ss m asked i 0 []:=
 ⟨h.ks,rfl,h.es,h.le,h.key,by rw[h.ask];omega⟩
theorem OM.next(h:OM g K ss m asked i t es){s:Nat}(hs:(c_ g K)[t]? =some s)(hi:i<=ss.length){b:ahr}{d:Nat}(hk:FO m' (wT (eZ ss) (bx g K s)))(hle:(pg ss b d (bx g K s)).length<=256):
  OM g K (pg ss b d (bx g K s)) m' (asked+1) i (t+1) (es++[⟨(s:Int),(((eZ ss).idxOf (bx g K s):Nat):Int)⟩]):=by
 have e:=Oe (g:=g) (K:=K) (acc:=((fK g i).1,[])) hs
 refine⟨?_,?_,?_,hle,by simp_all[Mo],by rw[h.ask];omega⟩
 ·rw[Mo,e,h.ks]
 ·rw[e,h.ed,h.ks]
 ·unfold pg
  split
  ·exact h.es
  ·have:cr (ss++[(((b,d),bx g K s),(((none,0),[]):Lq aH))])=cr ss++[[]]:=by simp[cr]
   rw[this,h.es,afS,ag8,show ss.length+1-i=(ss.length-i)+1 by omega,List.replicate_succ',af0]
theorem OM.done(h:OM g K ss m asked i (c_ g K).length es)(hb:∀j,j<i->j<(fK g j).1.length)(hK:(fK g i).1[i]? =some K)(hes:(fK g i).2.length=i)(hi:i<ss.length){q:SQ}(hq:ss[i]? =some q)(e:Lq aH)(he:e.2=es):
  Ux g (ss.set i (q.1,e)) m asked (i+1):=by
 have J:=W6 hq e;have U:=h.ks;have O:=h.ed;rw[af7] at U O;have u:=gX hK
 refine⟨by simp_all,?_,λj V=>?_,by rw[agF];exact h.le,by rw[J.1];exact h.key,?_⟩
 ·rw[J.2.2.1,h.es,u,he,<-O,agF,agS _ _ ω,hes,agX,show ss.length-i=(ss.length-(i+1))+1 by omega,agW,List.set_cons_zero,af0];rfl
 ·grind
 ·rw[u,KM,h.ask,tp]
  grind
end
theorem Mt{g:ah}:∀i,Ms (fK g i).2<=i*(g.T+g.N)
 |0=>afL _
 |i+1=>by
  cases h:(fK g i).1[i]? with
  |none=>rw[sB h,ahi];exact agn (Mt i) (Nat.le_add_right _ _)
  |some K=>
   rw[gX h,KM,tp,ahi]
   have h1:(c_ g K).length<=g.T+g.N:=by
    have:=agp (λs=>decide (bx g K (s:Nat)≠[])) (List.range (g.T+g.N))
    rwa [agK] at this
   have:=Mt (g:=g) i
   grind
theorem W7(ss:List SQ)(b:ahr)(d:Nat)(K:dx):ss.length<=(pg ss b d K).length/\(pg ss b d K).length<=ss.length+1:=by grind[pg]
theorem aad{κ α:Type}(ps:List (κ×Lq α)):(mV ps).map Prod.fst=ps.map Prod.fst:=by simp[mV,List.map_map]
theorem acO{κ α:Type}(ps:List (κ×Lq α)):(mV ps).length=ps.length:=af4 _
abbrev z3:List Value:=[vS none 0 0,iI 0,iI 0]
section
variable{w:ahs}{L:List aC}{g:ah}{x:GA}
theorem aae(hg:gR (hp w) g x)(hb:mi g):ρ 41 [.agg ⟨x.cells⟩] w λv w'=>
  (¬ax g/\v=.tuple #[.agg #[vS none 0 0,iI 0,iI 0],iI 1]/\Gr w w')\/
  (ax g/\acz g/\v=.tuple #[.agg #[vS none 0 0,iI 0,iI 0],iI 11]/\Gr w w')\/
  (ax g/\∃(o:ahr)(ss:List SQ),bR g ss/\v=.tuple #[.agg #[vS o ss.length ss.length,iI (1+(Ms (cr ss):Int)),iI (ss.length:Int)],iI 0]/\
   St w' (own 2 o ss.length ss.length (P6 ss)::aV (SM ss)::aV (QZ ss)::all w)):=by
 refine JD (gH hg λk1 w1 gw hg B=>?_);refine ag (St.all w1) λk2 w2 h=>?_;refine⟨_,_,_,_,_,_,_,_,_,_,_,_,_,B.row h.aQ,(sx (hg.mono h.aQ) hb).mono ?_⟩;rintro _ w3⟨⟨rb,rfl,cu⟩,g3⟩;have h:=h.gr g3;have s3:sub (hp w1) (hp w3):=h.aQ
 refine⟨_,rfl,ae (λZ=>?_) λZ=>?_⟩
 ·have hn:¬ax g:=λhc=>by simp_all
  exact aL h rfl (by simp[aK]) λw4 h=>⟨_,_,_,_,_,(af 0 h.l).at sZZ rfl,.inl ⟨hn,rfl,gw.trans h.aQ⟩⟩
 have hc:ax g:=cu.1 (by simp_all);obtain⟨hT,hN,hP,eu,er,e3⟩:=hc.cX;obtain⟨_,_,_,_,_,_,c6⟩:=id hb;refine⟨_,_,_,_,_,_,_,_,_,_,_,_,_,B.row s3,(aeF (hg.mono s3) hb).mono ?_⟩;rintro _ w5⟨km,kb,pb,rfl,cz,h5⟩;have h:=(St.on (N:=[_,_,_]) h5 h.l).pick 5 [3,0,1,2,4];obtain⟨H,al,sH,h⟩:=St.freeze h;have b5:sub (hp w1) H:=aA 3 al;have hm:MkR H g km:=aeG (hg.mono b5) cz al;have sw:sub (hp w) H:=sub.trans gw b5;clear al h5 sH B s3 g3;refine⟨_,rfl,nI h λka w6 h=>?_⟩;have h:=dT (κ:=ByteArray) h;refine ag h λkt w7 h=>ag h λk3 w8 h=>?_;have h:St w8 (own 2 (some (aM k3)) 1 1 (tv [⟨0,0⟩])::az kt [vS none 0 0,iI 0,iI 0,.map (some ka)]::mapA ka ([]:List (ByteArray×Value))::az k2 z3::[has H]):=bj (cs:=[]) h rfl rfl (afR _);have h:=aI 2 ((St.flat (M:=[])).2 ((St.flat (M:=[])).2 h));refine(OJ (ss:=[]) (h.pick 8 [4,0,5,1,2,3,6,7]) FO.start σ (by simp[kW]) ⟨σ,σ⟩ ⟨σ,σ⟩ σ σ).mono ?_;rintro _ w9⟨rfl,o1,c1,m1,av,h⟩
 refine⟨_,rfl,λz w'=>∃(i:Nat)(ss:List SQ)(o:ahr)(c:Nat)(m:List (ByteArray×Value))(asked:Int),z=i/\i<=ss.length/\Ux g ss m asked i/\St w' (Q1 kt ka o c asked ss.length m ss (az k2 z3::[has H])),λz _=>300-z.toNat,
  ⟨0,pg [] (some (aM k3)) 1 [⟨0,0⟩],o1,c1,m1,1,rfl,afL _,.start av,?_⟩,?_⟩
 ·have e:(0:Int)+(((pg [] (some (aM k3)) 1 [⟨0,0⟩]).length-([]:List SQ).length:Nat):Int)=((pg [] (some (aM k3)) 1 [⟨0,0⟩]).length:Int):=σ
  rw[e] at h;exact h
 clear h av;rintro _ _ b6⟨i,ss,o,c,m,asked,rfl,hi,hB,h⟩;have bc:ss.length<=256:=hB.le;refine⟨_,_,_,(af 0 h.l).cell0 sZZ,ae (λZ=>?_) λZ=>?_⟩
 rotate_left
 ·have Z:i=ss.length:=by grind
  subst Z;have a5:=tj ss;have V:=hB.es;rw[agX,List.replicate_zero,agc] at V;have hA:bR g ss:=⟨⟨by rw[<-hB.ks,a5],bc,hB.lt⟩,hB.ks,V⟩;refine⟨_,_,_,(af 0 h.l).cell0 sZZ,iO (b9 (bI (h.pick 2 [1])) ⟨_,_,_,rfl,?_⟩)⟩;have h:=cj (h.pick 7 [1,0,3,4,5,6]);refine aR (h.pick 2 [1,0]) σ λc7 h=>?_;have c8:aj (hp c7) (aM kt) ([vS (fE o 0 ss.length 2) ss.length ss.length,iI asked,iI (ss.length:Int)]++[.map (some ka)]):=af 0 h.l
  refine⟨_,_,_,_,_,c8.take.at sZZ rfl,aL (h.pick 6 [4,1,2,3,5]) rfl (by simp[aK]) λef h=>⟨_,_,_,_,_,(af 0 h.l).at sZZ rfl,.inr (.inr ⟨hc,fE o 0 ss.length 2,ss,hA,?_,?_⟩)⟩⟩
  ·rw[V,<-hB.ask]
  ·exact St.on (N:=[_,_,_]) (h.pick 5 [1,2,3,4]) (bH sw)
 have Z:i<ss.length:=by simp_all
 obtain⟨q,hq⟩:∃q,ss[i]? =some q:=⟨_,afJ Z⟩;obtain⟨K,bA⟩:∃K,K=q.1.2:=⟨_,rfl⟩;have hK:(fK g i).1[i]? =some K:=by rw[<-hB.ks];simp_all[eZ]
 have hI:=jC (g:=g) ω i;have b2:=afI hK;have X:=hI.fit K b2;have bP:∀x∈K,x.dot<=i:=hI.dots i K hK;have dc:=OL hP (hI.srt K b2) X λx hx=>by grind
 have b7:=Mt (g:=g) i;have c5:Ms (fK g i).2<=33280:=agn b7 (Nat.mul_le_mul (show i<=256 by omega) (show g.T+g.N<=130 by omega));have V:=QP (g:=g) i (by grind);obtain⟨ad,rfl,rs⟩:=Mp (dE 1 h.l) hq;obtain⟨h6,s6,bb⟩:=Gh (h.pick 4 [3]).l (Mq hq);have b1:aY (hp b6) K q.1.1.1 q.1.2.length:=by have:=(Mr bb).mono s6;grind
 have ck:q.1.2.length=K.length:=by grind
 clear bb s6;have b3:sub H (hp b6):=aA 6 h.l;refine⟨_,_,_,(af 0 h.l).cell0 sZZ,aJ rfl Z ⟨_,_,_,rs.cell0 sZZ,(Ut (hm.mono b3) b1 X ω c6).mono ?_⟩⟩;rintro _ eb⟨kk,Y,rfl,ej,aa,b8,h2⟩;have h:=h2.N0 h.l;clear rs b1 h2 b3
 have bl:Y.length<=130:=by
  have:=th (m:=(List.range 130).map Int.ofNat) aa λs hs=>by
   obtain⟨h0,bB⟩:=(b8 s).1 hs;obtain⟨_,h4⟩:=xI hc X h0 bB;exact afW.2 ⟨s.toNat,agd.2 ω,by grind⟩
  simp_all
 refine⟨_,rfl,(KJ aT (rfl:ai Ty _=.map _ _) h).mono ?_⟩;rintro _ eg⟨r,rfl,h⟩;refine⟨_,rfl,λo n c' w'=>∃ks:List Int,n=ks.length/\St w' (own 1 o n c' (iv ks)::tf kk r (mV Y) ks::aV (mO 2 tv Y)::Q1 kt ka (some ad) c asked ss.length m ss (az k2 z3::[has H])),λ_ n _ _=>Y.length-n,⟨[],rfl,aI 1 h⟩,?_⟩;clear h;rintro _ ci _ bi ea⟨ks,rfl,h⟩;refine(OB (h.pick 2 [1,0])).mono ?_;rintro _ e6 (⟨rfl,O,h⟩|⟨s,u,d6,rfl,a5,h⟩)
 rotate_left
 ·rw[acO] at a5;refine .inr ⟨s,u,rfl,(KK h).mono ?_⟩;rintro _ d7⟨rfl,cA⟩;rw[cA];refine⟨s,u,rfl,ag (KH h) λem d8 h=>?_⟩;refine(aU (us:=iv ks) aT (rfl:ai Ty _=.slice _) (rfl:ai Ty _=.slice _) rfl rfl rfl (h.pick 3 [0,2,1]) rfl (by simp[aK]) (by grind) ω).mono ?_;rintro _ d5⟨eA,e8,rfl,h⟩;refine⟨_,_,_,rfl,⟨ks++[s],σ,?_⟩,by grind⟩;have e:iv (ks++[s])=iv ks++[iI s]:=by simp[iv]
  rw[e];exact h.pick 3 [0,2]
 rw[aad] at O;obtain⟨S,hS⟩:∃S,S=c_ g K:=⟨_,rfl⟩;have a8:=aaa (ks:=ks) hc X (O.nodup_iff.2 aa) λs=>by grind
 rw[<-hS] at a8;have a9:(S.map Int.ofNat).Perm (Y.map Prod.fst):=by grind[List.mergeSort_perm,trans]
 have cF:ks.length=S.length:=by rw[O.length_eq,<-a9.length_eq,af4]
 have dk:S.length<=130:=by have:=a9.length_eq;simp_all
 refine .inl ⟨rfl,(SE (h.pick 2 [1,0]) ω).mono ?_⟩;rintro _ d4⟨rfl,h⟩;rw[a8] at h;have h:=W5 (h.pick 3 [2,0,1]) (W4 aa a9)
 refine⟨rfl,λo n c' z w'=>∃(t:Nat)(es:List aH)(ss':List SQ)(o':ahr)(a6:Nat)(m':List (ByteArray×Value))(J:Int),z=t/\t<=S.length/\n=es.length/\OM g K ss' m' J i t es/\ss.length<=ss'.length/\
   St w' (own 2 o n c' (p8 es)::own 1 ci ks.length bi (iv (S.map Int.ofNat))::mapA kk (mV Y)::aV (((S.map Int.ofNat).drop t).map λs=>bG 2 tv (HE s Y))::Q1 kt ka o' a6 J ss'.length m' ss' (az k2 z3::[has H])),λ_ _ _ z _=>S.length-z.toNat,
  ⟨0,[],ss,some ad,c,m,asked,rfl,afL _,rfl,hB.inner hK,afR _,aI 2 (h.pick 3 [1,2,0])⟩,?_⟩
 clear h hq bA ck;rintro _ a0 _ d3 _ et⟨t,es,ss',o',a6,m',J,rfl,ht,rfl,U,e7,h⟩;have cC:ss'.length<=256:=U.le
 have cT:es.length=t:=by
  rw[U.ed,tp,agj,<-hS,ahk ht];simp
 refine ae (λh3=>?_) λh3=>?_
 ·have h3:t<S.length:=by simp_all
  obtain⟨s,hs⟩:∃s,S[t]? =some s:=⟨_,afJ h3⟩;have el:(S.map Int.ofNat)[t]? =some (s:Int):=by simp_all
  obtain⟨ep,c9,cx⟩:=cH (h.pick 2 [1]) (j:=t) (v:=iI (s:Int)) (by simp_all[iv]);have be:bx g K (s:Int)≠[]:=yp s (by grind);have cg:(s:Int)∈Y.map Prod.fst:=(b8 s).2 ⟨ω,be⟩;obtain⟨Q,hQ⟩:∃Q,fF (s:Int) Y=some Q:=ahh.1 (WY.2 cg);have ch:HE (s:Int) Y=Q:=by simp_all[HE]
  have cm:Q.2=bx g K (s:Int):=by grind[jU]
  have am:(S.map Int.ofNat).drop t=(s:Int)::(S.map Int.ofNat).drop (t+1):=by simp_all[agm,afK]
  have a5:=SK g K;have cI:(bx g K (s:Int)).length<=(cls g K).length:=KL g _ _;have ei:Q.2.length<=29300:=by grind
  refine ay c9 ω ⟨_,cx,(cq (κ:=Int) aT (rfl:ai Ty _=.map _ _) bL rfl rfl (h.pick 3 [2]) (s:Int)).mono ?_⟩;rintro _ e9⟨rfl,bz⟩;rw[bz];rw[am,agv,ch] at h;have h:=aab (h.pick 4 [3,0,1,2]);refine⟨Q.1.1,Q.2.length,Q.1.2,by rw[js,hQ];rfl,(WO h ω).mono ?_⟩;rintro _ dl⟨W,rfl,h⟩;rw[cm,wQ Oc] at h ⊢
  have a7:∀x∈bx g K (s:Int),kW x:=λx hx=>by
   refine W3 hP (Od X (agu _) x hx) ?_;obtain⟨y,Z,_,rfl⟩:=dW.1 hx;have:=Z.dot bP (agu _)
   grind
  have d0:=U.ask;refine⟨_,_,_,rfl,(OJ (h.pick 10 [5,6,7,8,9,0,1,2,3,4]) U.key be a7 ⟨ω,ω⟩ ⟨ω,ω⟩ ω ω).mono ?_⟩;rintro _ d9⟨rfl,cc,cp,cd,ca,h⟩;have ez:=W7 ss' W (bx g K (s:Int)).length (bx g K (s:Int));have b4:(ss'.length:Int)+(((pg ss' W (bx g K (s:Int)).length (bx g K (s:Int))).length-ss'.length:Nat):Int)=((pg ss' W (bx g K (s:Int)).length (bx g K (s:Int))).length:Int):=ω
  rw[b4] at h;refine⟨_,rfl,ag h λek e4 h=>?_⟩;refine(aU (us:=p8 es) aT (rfl:ai Ty _=.slice _) (rfl:ai Ty _=.slice _) rfl rfl rfl (h.pick 8 [0,7,1,2,3,4,5,6]) rfl (by simp[aK]) (by grind) ω).mono ?_;rintro _ ey⟨dF,e5,rfl,h⟩
  refine⟨_,_,_,rfl,_,_,_,(af 2 h.l).cell0 sZZ,ae (λh4=>?_) λh4=>?_⟩
  ·have h4:256<(pg ss' W (bx g K (s:Int)).length (bx g K (s:Int))).length:=by grind
   refine aL (h.pick 12 [10,11]) rfl (by simp[aK]) λeB h=>⟨_,_,_,_,_,(af 0 h.l).at sZZ rfl,.inr (.inl ⟨hc,⟨i,K,t+1,hK,λj hj=>?_,?_⟩,rfl,sub.trans sw (aA 1 h.l)⟩)⟩
   ·by_cases e:j=i
    ·grind
    ·exact hB.lt j ω
   ·rw[hS] at hs;rw[Oe hs,<-U.ks]
    grind[tj,pg,bx,Mo,wT]
  ·have h4:(pg ss' W (bx g K (s:Int)).length (bx g K (s:Int))).length<=256:=by grind
   refine⟨⟨ω,ω⟩,⟨t+1,es++[⟨(s:Int),(((eZ ss').idxOf (bx g K (s:Int)):Nat):Int)⟩],_,cc,cp,cd,_,σ,h3,σ,U.next (by simp_all) ω ca h4,ω,?_⟩,bY h3⟩;have e:p8 (es++[⟨(s:Int),(((eZ ss').idxOf (bx g K (s:Int)):Nat):Int)⟩])=p8 es++[iI (s:Int),iI (((eZ ss').idxOf (bx g K (s:Int)):Nat):Int)]:=by unfold p8;rw[agh];rfl
   rw[e];exact h.pick 10 [0,8,9,7,2,3,4,5,6]
 ·have h3:t=S.length:=by grind
  intro ba hd;have h:=h.eq (aP hd);obtain⟨q',a4⟩:∃q',ss'[i]? =some q':=⟨_,afJ ω⟩;have rt:aj (hp ba) (aM kt) [vS o' ss'.length a6,iI J,iI (ss'.length:Int),.map (some ka)]:=af 4 h.l;obtain⟨bT,rfl,_⟩:=Mp (dE 5 h.l) a4;refine⟨λu=>Gr ba u,Gr.refl _,_,_,_,λu s=>rt.cell0 s,jN (b9 (bI h) ⟨_,_,_,rfl,Gr.refl _,aJ rfl ω ?_⟩)⟩;have h:=cj h;rw[add_add,bg];refine gE (h.pick 6 [5,0,4]) rfl (by grind[SN]) λeo h=>?_;rw[h3] at U;have e0:(fE a0 0 es.length 2,es.length,es).2.2=es:=rfl;have e1:=aac a4 ((fE a0 0 es.length 2,es.length),es);have e2:=W6 a4 ((fE a0 0 es.length 2,es.length),es);have h:=(St.Wx (n:=i) (h.pick 6 [1,5,0,2,3,4]) (by grind[QZ,List.length_map])).pick 5 [2,1,3,4,0];refine⟨⟨ω,ω⟩,⟨i+1,ss'.set i (q'.1,((fE a0 0 es.length 2,es.length),es)),some bT,a6,m',J,σ,by grind,(by simp_all:OM g K ss' m' J i (c_ g K).length es).done hB.lt hK V ω a4 _ rfl,?_⟩,by grind⟩;unfold Q1;rw[agF,e2.2.1,e2.2.2.2,<-e1];exact h
def Q3(R:Value->WP)(k1:Nat)(k2:Nat)(k27:Nat)(k44:Nat)(o43:ahr)(w64:ahs):Prop:=∃a,World.cell? w64 (aM k44)=some (vP a)/\iK Tryz.prog Ev 171 [vP a] w64 λa b=>∃c,a=iI c/\vd c c 8/\new b (Obj.cells (Array.mk (iX (Int.toNat c) [iI 0])) 3) λa b=>new b (oC [vS none 0 0] 24) λb d=>st1 d (aM b) (vS (some (aM a)) (Int.toNat c) (Int.toNat c)) λa=>∃c,World.cell? a (aM k44)=some (vP c)/\iK Tryz.prog Ev 172 [vP c] a λa c=>∃d e,a=Value.func (Fn.func d) (Array.mk []) (Array.mk e)/\oN (Proofs.YtaoaemnefghnbaaGreatDoor.Fn d) (∃(a:List (List Value)),∃(f:aC),∃(g:aC),∃(h:Nat->aC),∃(i:aC),∃(_:Nat->aC),∃(j:List aC),St c (h 0::f::j)/\(∀(a:Hp),aG j a->g a)/\Zj Tryz.prog d [] e f g a/\(∀(b:List Value),b∈a->∃a,b=[iI a])/\(∀(c:Nat)(d:Int),List.get?Internal a c=some [iI d]->∀(a:List aC)(e:ahs),Nt a j->St e (h c::a)->∃(f:aC),St e (f::a)/\∀(a:List aC)(e:ahs),Nt a j->St e (f::a)->∃f g i,World.cell? e (aM b)=some (vS f g i)/\idx f g d 1 λf=>st1 e f (iI d) λe=>∃f,World.cell? e (Addr.add (aM k44) 1)=some (iI f)/\br (decide (f<=d)) (∃f g i,World.cell? e (aM b)=some (vS f g i)/\∃b,World.cell? e (Addr.add (aM k44) 1)=some (iI b)/\nn o43 λi=>∃j k l,World.cell? e (Addr.add i 1)=some (vS j k l)/\aD (b+(↑k:Int))/\idx f g d 1 λf=>st1 e f (iI (b+(↑k:Int))) λb=>∀e,drawn b e->∃(b:ahs->Prop),b e/\nn o43 λf=>∃g i j,(∀a,b a->World.cell? a (Addr.add f 1)=some (vS g i j))/\∃f k l,(∀a,b a->World.cell? a (Addr.add (aM k1) 1)=some (vS f k l))/\∃l,(∀a,b a->World.cell? a (Addr.add (aM k44) 1)=some (iI l))/\aD (d-l)/\idx f k (d-l) 1 λd=>∃f,(∀a,b a->World.cell? a d=some (Value.string f))/\new e (oC [Value.string f] 9) λd e=>b e/\aX Tryz.prog (fX 23 (Array.mk [vS g i j,vS (some (aM d)) 1 1])) e λd e=>∃f g i,d=vS f g i/\b e/\nn o43 λb=>st1 e (Addr.add b 1) (vS f g i) λb=>St b (h (c+1)::a)) (St e (h (c+1)::a)))/\(∀(c:ahs),St c (h (List.length a)::f::j)->∃a d e,World.cell? c (aM b)=some (vS a d e)/\∃e,World.cell? c (Addr.add (aM k1) 3)=some (iI e)/\idx a d e 1 λa=>∃d,World.cell? c a=some (iI d)/\nn o43 λa=>st1 c (Addr.add a 3) (iI d) λa=>∃c,World.cell? a (Addr.add (aM k44) 1)=some (iI c)/\nn o43 λd=>∃e,World.cell? a (Addr.add d 3)=some (iI e)/\new a (oC [iI e] 3) λa d=>new d (oC [iI c,vS (some (aM a)) 1 1,iI 0] 134) λa c=>nn o43 λd=>st1 c (Addr.add d 4) (vS (some (aM a)) 1 1) λa=>∃c d e,World.cell? a (Addr.add (aM k1) 4)=some (vS c d e)/\τ [(93,aN)] λe f=>e 0 a/\∀(_:ν) a g,e a g->br (decide (a<(↑d:Int))) (idx c d a 3 λc=>∃d h i j k,rowAt g c 0 3=some [iI d,vS h i j,iI k]/\new g (oC [iI 0,vS none 0 0,iI 0] 134) λc l=>bC l (aM c) [iI d,vS h i j,iI k] λd=>∃h,World.cell? d (aM k44)=some (vP h)/\∃i,World.cell? d (aM c)=some (iI i)/\iK Tryz.prog Ev 168 [vP h,iI i] d λd h=>∃i,d=vB i/\br (!i) (aD (a+1)/\e (a+1) h/\f (a+1) h<f a g) (∃d i,rowAt h (aM k27) 0 2=some [vP d,iI i]/\∃j k l,World.cell? h (Addr.add (aM c) 1)=some (vS j k l)/\iK Tryz.prog Ev 173 [vA (Array.mk [vP d,iI i]),vS j k l] h λd h=>∃i,d=vB i/\br (!i) (aD (a+1)/\e (a+1) h/\f (a+1) h<f a g) (∀d,drawn h d->∃(h:ahs->Prop),h d/\∃i j k,(∀a,h a->World.cell? a (aM b)=some (vS i j k))/\∃k,(∀a,h a->World.cell? a (aM c)=some (iI k))/\idx i j k 1 λi=>∃j,(∀a,h a->World.cell? a i=some (iI j))/\∃i,(∀a,h a->World.cell? a (Addr.add (aM c) 2)=some (iI i))/\new d (oC [iI 0,vS none 0 0,iI 0] 134) λd k=>h k/\bC k (aM d) [iI j,vS none 0 0,iI i] λh=>∃i j k,World.cell? h (Addr.add (aM c) 1)=some (vS i j k)/\τ [(121,aN)] λc k=>c 0 h/\∀(_:ν) h l,c h l->br (decide (h<(↑j:Int))) (idx i j h 1 λa=>∃e,World.cell? l a=some (iI e)/\∀a,drawn l a->∃(f:ahs->Prop),f a/\∃g i j,(∀a,f a->World.cell? a (Addr.add (aM d) 1)=some (vS g i j))/\∃m n o,(∀a,f a->World.cell? a (aM b)=some (vS m n o))/\idx m n e 1 λb=>∃e,(∀a,f a->World.cell? a b=some (iI e))/\new a (oC [iI e] 3) λa b=>f b/\aX Tryz.prog (fX 24 (Array.mk [vS g i j,vS (some (aM a)) 1 1])) b λa b=>∃e g i,a=vS e g i/\f b/\st1 b (Addr.add (aM d) 1) (vS e g i) λa=>aD (h+1)/\c (h+1) a/\k (h+1) a<k h l) (nn o43 λb=>∃c h i,World.cell? l (Addr.add b 4)=some (vS c h i)/\∃b j k m n,rowAt l (aM d) 0 3=some [iI b,vS j k m,iI n]/\new l (oC [iI b,vS j k m,iI n] 134) λb d=>aX Tryz.prog (fX 25 (Array.mk [vS c h i,vS (some (aM b)) 1 1])) d λb c=>∃d h i,b=vS d h i/\nn o43 λb=>st1 c (Addr.add b 4) (vS d h i) λb=>aD (a+1)/\e (a+1) b/\f (a+1) b<f a g)))) (nn o43 λa=>∃b c d e f h i j k l m n o,rowAt g a 0 5=some [vS b c d,vS e f h,vS i j k,iI l,vS m n o]/\bC g (aM k2) [vS b c d,vS e f h,vS i j k,iI l,vS m n o] λa=>∃b c d e f g h i j k l m n,rowAt a (aM k2) 0 5=some [vS b c d,vS e f g,vS h i j,iI k,vS l m n]/\∀(o:ahs),hp o=hp a->R (vT (Array.mk [vA (Array.mk [vS b c d,vS e f g,vS h i j,iI k,vS l m n]),iI 0])) o))/\(∀(a:ahs),St a (i::f::j)->∃b c d e f g h i j k l m n,rowAt a (aM k2) 0 5=some [vS b c d,vS e f g,vS h i j,iI k,vS l m n]/\∀(o:ahs),hp o=hp a->R (vT (Array.mk [vA (Array.mk [vS b c d,vS e f g,vS h i j,iI k,vS l m n]),iI 0])) o)/\True)
section
variable{a b c d e:ahr}{i j k l m n o p:Nat}{A B:Int}{w:ahs}{R:Value->WP}
theorem D3(h:new w (ψ a i j b k l c m n A d o p) λa b=>new b (oC [vS none 0 0,vS none 0 0,vS none 0 0,iI 0,vS none 0 0] 27) λb c=>χ c (aM a) λd=>rEb 166 [d] c λe d=>br (!e) (bC d (aM b) [vS none 0 0,vS none 0 0,vS none 0 0,iI 0,vS none 0 0] λa=>χ a (aM b) λb=>∀(c:ahs),hp c=hp a->R (vU [b,iI 1]) c) (χ d (aM a) λc=>rE 167 [c] d λc d=>∃e f,c=vG [vP e,iI f]/\new d (oC [vP none,iI 0] 317) λc d=>bC d (aM c) [vP e,iI f] λd=>cLp d (aM c) λe=>cLi d (Addr.add (aM a) 3) λf=>rEb 168 [vP e,iI f] d λf e=>br (!f) (bC e (aM b) [vS none 0 0,vS none 0 0,vS none 0 0,iI 0,vS none 0 0] λa=>χ a (aM b) λb=>∀(c:ahs),hp c=hp a->R (vU [b,iI 12]) c) (χ e (aM a) λd=>∃f g,rA e (aM c) 2 [vP f,iI g]/\rE 169 [d,vG [vP f,iI g]] e λd e=>∃f g,d=vG [vP f,iI g]/\new e (oC [vP none,iI 0] 317) λd e=>bC e (aM d) [vP f,iI g] λe=>∃(f:lP [(6,S1.one Cs.ptr)]),(∀b,drawn e b->∃(c:WP),c b/\∃d e g,(∀b,c b->cL b (aM a) (vS d e g))/\∃h i j,(∀b,c b->cL b (Addr.add (aM a) 2) (vS h i j))/\(rEs 170 [vS d e g] b λd e g b=>c b/\(rEs 115 [vS h i j] b λh i j b=>c b/\(new b (oC [Value.string (ByteArray.mk (Array.mk []))] 9) λa b=>c b/\new b (oC [vS none 0 0,vS none 0 0,vS none 0 0,iI 0,vS none 0 0] 27) λb k=>c k/\bC k (aM b) [vS d e g,vS (some (aM a)) 1 1,vS h i j,iI 0,vS none 0 0] λa=>f (some (aM b)) a)/\new b (oC [vS none 0 0,vS none 0 0,vS none 0 0,iI 0,vS none 0 0] 27) λa b=>c b/\new b (oC [Value.string (ByteArray.mk (Array.mk []))] 9) λb k=>c k/\bC k (aM a) [vS d e g,vS (some (aM b)) 1 1,vS h i j,iI 0,vS none 0 0] λb=>f (some (aM a)) b)/\(new b (oC [Value.string (ByteArray.mk (Array.mk []))] 9) λa b=>c b/\(rEs 115 [vS h i j] b λi j k h=>c h/\new h (oC [vS none 0 0,vS none 0 0,vS none 0 0,iI 0,vS none 0 0] 27) λb h=>c h/\bC h (aM b) [vS d e g,vS (some (aM a)) 1 1,vS i j k,iI 0,vS none 0 0] λa=>f (some (aM b)) a)/\new b (oC [vS none 0 0,vS none 0 0,vS none 0 0,iI 0,vS none 0 0] 27) λb k=>c k/\rEs 115 [vS h i j] k λj k l i=>c i/\bC i (aM b) [vS d e g,vS (some (aM a)) 1 1,vS j k l,iI 0,vS none 0 0] λa=>f (some (aM b)) a)/\new b (oC [vS none 0 0,vS none 0 0,vS none 0 0,iI 0,vS none 0 0] 27) λa b=>c b/\(rEs 115 [vS h i j] b λi j k h=>c h/\new h (oC [Value.string (ByteArray.mk (Array.mk []))] 9) λb h=>c h/\bC h (aM a) [vS d e g,vS (some (aM b)) 1 1,vS i j k,iI 0,vS none 0 0] λb=>f (some (aM a)) b)/\new b (oC [Value.string (ByteArray.mk (Array.mk []))] 9) λb k=>c k/\rEs 115 [vS h i j] k λj k l i=>c i/\bC i (aM a) [vS d e g,vS (some (aM b)) 1 1,vS j k l,iI 0,vS none 0 0] λb=>f (some (aM a)) b)/\(new b (oC [Value.string (ByteArray.mk (Array.mk []))] 9) λa b=>c b/\(rEs 170 [vS d e g] b λe g k d=>c d/\(rEs 115 [vS h i j] d λh i j d=>c d/\new d (oC [vS none 0 0,vS none 0 0,vS none 0 0,iI 0,vS none 0 0] 27) λb d=>c d/\bC d (aM b) [vS e g k,vS (some (aM a)) 1 1,vS h i j,iI 0,vS none 0 0] λa=>f (some (aM b)) a)/\new d (oC [vS none 0 0,vS none 0 0,vS none 0 0,iI 0,vS none 0 0] 27) λb d=>c d/\rEs 115 [vS h i j] d λi j l h=>c h/\bC h (aM b) [vS e g k,vS (some (aM a)) 1 1,vS i j l,iI 0,vS none 0 0] λa=>f (some (aM b)) a)/\new b (oC [vS none 0 0,vS none 0 0,vS none 0 0,iI 0,vS none 0 0] 27) λb k=>c k/\rEs 170 [vS d e g] k λg k l e=>c e/\rEs 115 [vS h i j] e λh i j e=>c e/\bC e (aM b) [vS g k l,vS (some (aM a)) 1 1,vS h i j,iI 0,vS none 0 0] λa=>f (some (aM b)) a)/\new b (oC [vS none 0 0,vS none 0 0,vS none 0 0,iI 0,vS none 0 0] 27) λa b=>c b/\(rEs 170 [vS d e g] b λe g k d=>c d/\(rEs 115 [vS h i j] d λh i j d=>c d/\new d (oC [Value.string (ByteArray.mk (Array.mk []))] 9) λb d=>c d/\bC d (aM a) [vS e g k,vS (some (aM b)) 1 1,vS h i j,iI 0,vS none 0 0] λb=>f (some (aM a)) b)/\new d (oC [Value.string (ByteArray.mk (Array.mk []))] 9) λb d=>c d/\rEs 115 [vS h i j] d λi j l h=>c h/\bC h (aM a) [vS e g k,vS (some (aM b)) 1 1,vS i j l,iI 0,vS none 0 0] λb=>f (some (aM a)) b)/\new b (oC [Value.string (ByteArray.mk (Array.mk []))] 9) λb k=>c k/\rEs 170 [vS d e g] k λg k l e=>c e/\rEs 115 [vS h i j] e λh i j e=>c e/\bC e (aM a) [vS g k l,vS (some (aM b)) 1 1,vS h i j,iI 0,vS none 0 0] λb=>f (some (aM a)) b)/\∀(_:ν) e g,f e g->Q3 R a b c d e g))):ρ 82 [φ a i j b k l c m n A d o p] w R:=rv Tryz.func82 ⟨[(18,[(93,(.one (.int .i64)))]),(23,[(121,(.one (.int .i64)))])],[(8,[(6,(.one .ptr))])],[],[(10,[(45,(.one (.int .i64)))])]⟩ h
theorem D5(h:new w (ψ a i j b k l c m n A d o p) λa b=>χ b (aM a) λc=>rEb 166 [c] b λd c=>br (!d) (χ c (aM a) λb=>rEb 81 [b] c λd c=>br (!d) (R (vU [vS none 0 0,iI 1]) c) (∀b,drawn c b->∃(c:WP),c b/\∃d e f g h i j k l m n o p,(∀b,c b->rA b (aM a) 5 [vS d e f,vS g h i,vS j k l,iI m,vS n o p])/\∃q r s t u v w x y z a0 a1 a2,(∀b,c b->rA b (aM a) 5 [vS q r s,vS t u v,vS w x y,iI z,vS a0 a1 a2])/\rE 167 [vG [vS q r s,vS t u v,vS w x y,iI z,vS a0 a1 a2]] b λa b=>∃q r,a=vG [vP q,iI r]/\c b/\rE 169 [vG [vS d e f,vS g h i,vS j k l,iI m,vS n o p],vG [vP q,iI r]] b λa b=>∃d e,a=vG [vP d,iI e]/\c b/\rEs 174 [vG [vP d,iI e]] b λd e f b=>c b/\R (vU [vS d e f,iI 0]) b)) (∀b,drawn c b->∃(c:WP),c b/\∃d e f g h i j k l m n o p,(∀b,c b->rA b (aM a) 5 [vS d e f,vS g h i,vS j k l,iI m,vS n o p])/\∃q r s t u v w x y z a0 a1 a2,(∀b,c b->rA b (aM a) 5 [vS q r s,vS t u v,vS w x y,iI z,vS a0 a1 a2])/\rE 167 [vG [vS q r s,vS t u v,vS w x y,iI z,vS a0 a1 a2]] b λa b=>∃q r,a=vG [vP q,iI r]/\c b/\rE 169 [vG [vS d e f,vS g h i,vS j k l,iI m,vS n o p],vG [vP q,iI r]] b λa b=>∃d e,a=vG [vP d,iI e]/\c b/\rEs 174 [vG [vP d,iI e]] b λd e f b=>c b/\R (vU [vS d e f,iI 0]) b)):ρ 83 [φ a i j b k l c m n A d o p] w R:=rv Tryz.func83 ⟨[],[],[],[]⟩ h
theorem xK(h:new w (ψ a i j b k l c m n A d o p) λa b=>new b (oC [vP none,iI 0] 317) λb c=>χ c (aM a) λd=>rE 259 [d] c λc d=>∃e f,c=vG [vP e,iI f]/\new d (oC [vP none,iI 0] 317) λc d=>bC d (aM c) [vP e,iI f] λd=>χ d (aM a) λa=>rE 260 [a,Value.func (Fn.func 261) (Array.mk []) (Array.mk [vP (some (aM c))])] d λa d=>a=vU []/\∃a e,rA d (aM c) 2 [vP a,iI e]/\bC d (aM b) [vP a,iI e] λa=>∃c d,rA a (aM b) 2 [vP c,iI d]/\R (vG [vP c,iI d]) a):ρ 167 [φ a i j b k l c m n A d o p] w R:=rv Tryz.func167 ⟨[],[],[],[]⟩ h
theorem D7(h:new w (ψ a i j b k l c m n A d o p) λa b=>new b (oC [vP e,iI B] 317) λb c=>new c (oC [vP none,iI 0] 317) λc d=>χ d (aM a) λe=>rE 259 [e] d λd e=>∃f g,d=vG [vP f,iI g]/\new e (oC [vP none,iI 0] 317) λd e=>bC e (aM d) [vP f,iI g] λe=>cLp e (aM b) λf=>cLi e (Addr.add (aM a) 3) λg=>rEb 168 [vP f,iI g] e λg f=>br g (cLp f (aM d) λe=>cLi f (Addr.add (aM a) 3) λg=>new f (oC [iI g] 3) λf g=>rEi 103 [vP e,vS (some (aM f)) 1 1] g λg f=>χ f (aM a) λe=>rEb 81 [e] f λg f=>br g (cLp f (aM d) λe=>cLi f (Addr.add (aM d) 1) λg=>new f (oC [iI g] 3) λf g=>rEi 103 [vP e,vS (some (aM f)) 1 1] g λg f=>χ f (aM a) λa=>rE 260 [a,Value.func (Fn.func 262) (Array.mk []) (Array.mk [vP (some (aM d)),vP (some (aM b))])] f λa b=>a=vU []/\∃a e,rA b (aM d) 2 [vP a,iI e]/\bC b (aM c) [vP a,iI e] λa=>∃b d,rA a (aM c) 2 [vP b,iI d]/\R (vG [vP b,iI d]) a) (χ f (aM a) λa=>rE 260 [a,Value.func (Fn.func 262) (Array.mk []) (Array.mk [vP (some (aM d)),vP (some (aM b))])] f λa b=>a=vU []/\∃a e,rA b (aM d) 2 [vP a,iI e]/\bC b (aM c) [vP a,iI e] λa=>∃b d,rA a (aM c) 2 [vP b,iI d]/\R (vG [vP b,iI d]) a)) (χ f (aM a) λa=>rE 260 [a,Value.func (Fn.func 262) (Array.mk []) (Array.mk [vP (some (aM d)),vP (some (aM b))])] f λa b=>a=vU []/\∃a e,rA b (aM d) 2 [vP a,iI e]/\bC b (aM c) [vP a,iI e] λa=>∃b d,rA a (aM c) 2 [vP b,iI d]/\R (vG [vP b,iI d]) a)):ρ 169 [φ a i j b k l c m n A d o p,(.agg #[.pointer e,iI B])] w R:=rv Tryz.func169 ⟨[],[],[],[]⟩ h
theorem zf(h:new w (oC [vP a,iI A] 317) λa c=>rEb 126 [vS b i j,Value.func (Fn.func 266) (Array.mk []) (Array.mk [vP (some (aM a))])] c λc b=>R (vB !c) b):ρ 173 [(.agg #[.pointer a,iI A]),vS b i j] w R:=rv Tryz.func173 ⟨[],[],[],[]⟩ h
theorem xM(h:new w (oC [vP a,iI A] 317) λa b=>∀c,drawn b c->∃(b:WP),b c/\∃d,(∀c,b c->cL c (aM a) (vP d))/\∃e,(∀c,b c->cL c (Addr.add (aM a) 1) (iI e))/\(rEi 171 [vP d] c λf d=>b d/\aD (f-e)/\(vd (f-e) (f-e) 1/\new d (Obj.cells (Array.mk (iX (Int.toNat (f-e)) [vB false])) 4) λc d=>new d (oC [vS none 0 0] 47) λd g=>b g/\st1 g (aM d) (vS (some (aM c)) (Int.toNat (f-e)) (Int.toNat (f-e))) λb=>cLp b (aM a) λc=>rE 172 [vP c] b λb c=>∃e f,b=Value.func (Fn.func e) (Array.mk []) (Array.mk f)/\oN (Proofs.YtaoaemnefghnbaaGreatDoor.Fn e) (∃(b:List (List Value)),∃(g:aC),∃(h:aC),∃(i:Nat->aC),∃(j:aC),∃(_:Nat->aC),∃(k:List aC),St c (i 0::g::k)/\(∀(a:Hp),aG k a->h a)/\Zj Tryz.prog e [] f g h b/\(∀(a:List Value),a∈b->∃b,a=[iI b])/\(∀(c:Nat)(e:Int),List.get?Internal b c=some [iI e]->∀(b:List aC)(f:ahs),Nt b k->St f (i c::b)->∃(g:aC),St f (g::b)/\∀(b:List aC)(f:ahs),Nt b k->St f (g::b)->cLi f (Addr.add (aM a) 1) λg=>bQ (g<=e) (cLs f (aM d) λg h j=>cLi f (Addr.add (aM a) 1) λd=>aD (e-d)/\idx g h (e-d) 1 λa=>st1 f a (vB true) λa=>St a (i (c+1)::b)) (St f (i (c+1)::b)))/\(∀(a:ahs),St a (i (List.length b)::g::k)->cLs a (aM d) λb c e=>∀(d:ahs),hp d=hp a->R (vS b c e) d)/\(∀(a:ahs),St a (j::g::k)->∀(b:ahs),hp b=hp a->R (vS none 0 0) b)/\True))/\new d (oC [vS none 0 0] 47) λc d=>b d/\vd (f-e) (f-e) 1/\new d (Obj.cells (Array.mk (iX (Int.toNat (f-e)) [vB false])) 4) λb d=>st1 d (aM c) (vS (some (aM b)) (Int.toNat (f-e)) (Int.toNat (f-e))) λb=>cLp b (aM a) λd=>rE 172 [vP d] b λb d=>∃e f,b=Value.func (Fn.func e) (Array.mk []) (Array.mk f)/\oN (Proofs.YtaoaemnefghnbaaGreatDoor.Fn e) (∃(b:List (List Value)),∃(g:aC),∃(h:aC),∃(i:Nat->aC),∃(j:aC),∃(_:Nat->aC),∃(k:List aC),St d (i 0::g::k)/\(∀(a:Hp),aG k a->h a)/\Zj Tryz.prog e [] f g h b/\(∀(a:List Value),a∈b->∃b,a=[iI b])/\(∀(d:Nat)(e:Int),List.get?Internal b d=some [iI e]->∀(b:List aC)(f:ahs),Nt b k->St f (i d::b)->∃(g:aC),St f (g::b)/\∀(b:List aC)(f:ahs),Nt b k->St f (g::b)->cLi f (Addr.add (aM a) 1) λg=>bQ (g<=e) (cLs f (aM c) λg h j=>cLi f (Addr.add (aM a) 1) λc=>aD (e-c)/\idx g h (e-c) 1 λa=>st1 f a (vB true) λa=>St a (i (d+1)::b)) (St f (i (d+1)::b)))/\(∀(a:ahs),St a (i (List.length b)::g::k)->cLs a (aM c) λb d e=>∀(c:ahs),hp c=hp a->R (vS b d e) c)/\(∀(a:ahs),St a (j::g::k)->∀(b:ahs),hp b=hp a->R (vS none 0 0) b)/\True))/\new c (oC [vS none 0 0] 47) λc f=>b f/\rEi 171 [vP d] f λg f=>b f/\aD (g-e)/\vd (g-e) (g-e) 1/\new f (Obj.cells (Array.mk (iX (Int.toNat (g-e)) [vB false])) 4) λb d=>st1 d (aM c) (vS (some (aM b)) (Int.toNat (g-e)) (Int.toNat (g-e))) λb=>cLp b (aM a) λd=>rE 172 [vP d] b λb d=>∃e f,b=Value.func (Fn.func e) (Array.mk []) (Array.mk f)/\oN (Proofs.YtaoaemnefghnbaaGreatDoor.Fn e) (∃(b:List (List Value)),∃(g:aC),∃(h:aC),∃(i:Nat->aC),∃(j:aC),∃(_:Nat->aC),∃(k:List aC),St d (i 0::g::k)/\(∀(a:Hp),aG k a->h a)/\Zj Tryz.prog e [] f g h b/\(∀(a:List Value),a∈b->∃b,a=[iI b])/\(∀(d:Nat)(e:Int),List.get?Internal b d=some [iI e]->∀(b:List aC)(f:ahs),Nt b k->St f (i d::b)->∃(g:aC),St f (g::b)/\∀(b:List aC)(f:ahs),Nt b k->St f (g::b)->cLi f (Addr.add (aM a) 1) λg=>bQ (g<=e) (cLs f (aM c) λg h j=>cLi f (Addr.add (aM a) 1) λc=>aD (e-c)/\idx g h (e-c) 1 λa=>st1 f a (vB true) λa=>St a (i (d+1)::b)) (St f (i (d+1)::b)))/\(∀(a:ahs),St a (i (List.length b)::g::k)->cLs a (aM c) λb d e=>∀(c:ahs),hp c=hp a->R (vS b d e) c)/\(∀(a:ahs),St a (j::g::k)->∀(b:ahs),hp b=hp a->R (vS none 0 0) b)/\True)):ρ 174 [(.agg #[.pointer a,iI A])] w R:=rv Tryz.func174 ⟨[],[],[],[(3,[(15,(.one (.int .i64)))])]⟩ h
theorem HL(h:new w (ψ a i j b k l c m n A d o p) λa b=>new b (oC [vP none,iI 0] 317) λb c=>∀d,drawn c d->∃(c:WP),c d/\∃e f g,(∀b,c b->cL b (aM a) (vS e f g))/\∃e g h,(∀b,c b->cL b (Addr.add (aM a) 1) (vS e g h))/\aD ((f:Int)+(g:Int))/\∃e h i,(∀b,c b->cL b (aM a) (vS e h i))/\(rEp 102 [iI ((f:Int)+(g:Int)),vS none 0 0] d λf e=>c e/\new e (oC [vP none,iI 0] 317) λd e=>c e/\bC e (aM d) [vP f,iI (h:Int)] λc=>cLs c (aM a) λe f g=>τ [(20,aN)] λa e=>a 0 c/\∀(_:ν) c g,a c g->bQ (c<(f:Int)) (cLp g (aM d) λb=>new g (oC [iI c] 3) λd f=>rEi 103 [vP b,vS (some (aM d)) 1 1] f λf d=>aD (c+1)/\a (c+1) d/\e (c+1) d<e c g) (∃a c,rA g (aM d) 2 [vP a,iI c]/\bC g (aM b) [vP a,iI c] λa=>∃c d,rA a (aM b) 2 [vP c,iI d]/\R (vG [vP c,iI d]) a))/\new d (oC [vP none,iI 0] 317) λd e=>c e/\rEp 102 [iI ((f:Int)+(g:Int)),vS none 0 0] e λg f=>c f/\bC f (aM d) [vP g,iI (h:Int)] λc=>cLs c (aM a) λe f g=>τ [(20,aN)] λa e=>a 0 c/\∀(_:ν) c g,a c g->bQ (c<(f:Int)) (cLp g (aM d) λb=>new g (oC [iI c] 3) λd f=>rEi 103 [vP b,vS (some (aM d)) 1 1] f λf d=>aD (c+1)/\a (c+1) d/\e (c+1) d<e c g) (∃a c,rA g (aM d) 2 [vP a,iI c]/\bC g (aM b) [vP a,iI c] λa=>∃c d,rA a (aM b) 2 [vP c,iI d]/\R (vG [vP c,iI d]) a)):ρ 259 [φ a i j b k l c m n A d o p] w R:=rv Tryz.func259 ⟨[(3,[(20,(.one (.int .i64)))])],[],[],[]⟩ h
theorem FQ{F:FuncId}{G:List Value}(h:new w (ψ a i j b k l c m n A d o p) λa b=>τ [(4,aN)] λc d=>c 1 b/\∀(_:ν) b e,c b e->bQ (0<b) (cLs e (Addr.add (aM a) 4) λf g h=>τ [(4,aN),(12,aN)] λa h=>a 0 0 e/\∀(_:ν) i j k,a i j k->bQ (j<(g:Int)) (idx f g j 3 λb=>∃c d e f g,rA k b 3 [iI c,vS d e f,iI g]/\new k (oC [iI 0,vS none 0 0,iI 0] 134) λb l=>bC l (aM b) [iI c,vS d e f,iI g] λc=>∃d e f g l,rA c (aM b) 3 [iI d,vS e f g,iI l]/\oN (Proofs.YtaoaemnefghnbaaGreatDoor.Fn F) (rEi F (vG [iI d,vS e f g,iI l]::G) c λd c=>aD (i+d)/\aD (j+1)/\a (i+d) (j+1) c/\h (i+d) (j+1) c<h i j k)) (c i k/\d i k<d b e)) (R (vU []) e)):ρ 260 [φ a i j b k l c m n A d o p,(.func (.func F) #[] ⟨G⟩)] w R:=rv Tryz.func260 ⟨[(2,[(4,(.one (.int .i64)))]),(5,[(4,(.one (.int .i64))),(12,(.one (.int .i64)))])],[],[],[]⟩ h
abbrev lO:FuncId:=261
theorem tt{f:Addr}(h:new w (oC [iI A,vS a i j,iI B] 134) λa b=>∃c d,rA b f 2 [vP c,iI d]/\cLs b (Addr.add (aM a) 1) λe g h=>rEb 173 [vG [vP c,iI d],vS e g h] b λd c=>br (!d) (R (iI 0) c) (cLp c f λb=>cLi c (aM a) λd=>new c (oC [iI d] 3) λa c=>rEi 103 [vP b,vS (some (aM a)) 1 1] c λc b=>R (iI c) b)):ρ 261 [(.agg #[iI A,vS a i j,iI B]),(.pointer (some f))] w R:=rv Tryz.func261 ⟨[],[],[],[]⟩ h
abbrev gF:FuncId:=262
theorem zh{f:Addr}{g:Addr}(h:new w (oC [iI A,vS a i j,iI B] 134) λa b=>cLp b f λc=>cLi b (aM a) λd=>rEb 168 [vP c,iI d] b λd c=>br (!d) (R (iI 0) c) (∃b d,rA c g 2 [vP b,iI d]/\cLs c (Addr.add (aM a) 1) λe g h=>rEb 173 [vG [vP b,iI d],vS e g h] c λd c=>br (!d) (R (iI 0) c) (cLp c f λb=>cLs c (Addr.add (aM a) 1) λd e f=>rEi 103 [vP b,vS d e f] c λc b=>R (iI c) b))):ρ 262 [(.agg #[iI A,vS a i j,iI B]),(.pointer (some f)),(.pointer (some g))] w R:=rv Tryz.func262 ⟨[],[],[],[]⟩ h
abbrev gY:FuncId:=266
theorem uD{b:Addr}(h:cLp w b λa=>rEb 168 [vP a,iI A] w λc b=>R (vB !c) b):ρ 266 [iI A,(.pointer (some b))] w R:=rv Tryz.func266 ⟨[],[],[],[]⟩ h
end
end
theorem W8(a:ahr)(m sz:Nat):fE a 0 m sz=a:=by simp[fE,bg,Nat.zero_mul,Addr.add]
section
variable{g:ah}{I ls:List au}{bs:List Bool}{i:Nat}{x y:au}
theorem ax.left(h:ax g){p:aO}(hp:p∈g.prods):(g.T:Int)<=p.left:=by
 obtain⟨_,V,u,U,J,hl,_⟩:=h;obtain⟨n,hn⟩:=agb hp;cases n with
 |zero=>simp_all
 |succ n=>
  have O:p∈g.prods.drop 1:=by
   refine afI (i:=n) ?_
   simp_all
  have:=((u.2.2.1 p O).1).1;omega
end
def ON(h:Hp)(ss:List SQ)(o:ahr):Prop:=∀(i:Nat) q,ss[i]? =some q->∃ad,o=some ad/\aj h (ad.add (eV i 2)) (Uv q)/\aY h q.1.2 q.1.1.1 q.1.2.length/\aY h q.2.2 q.2.1.1 q.2.2.length
theorem ON.mono{h h':Hp}{ss:List SQ}{o:ahr}(s:sub h h')(r:ON h ss o):ON h' ss o:=λi q J=>by
 obtain⟨V,O,u,U,W⟩:=r i q J
 exact⟨V,O,u.mono s,U.mono s,W.mono s⟩
theorem SO{h:Hp}{xs:List aH}{a:ahr}{l:Nat}(hl:xs.length=l)(r:ec a (p8 xs) h):aY h xs a l:=by
 refine⟨hl,λi x J=>?_⟩
 rcases r with e|⟨u,rfl,hc⟩
 ·have O:=congrArg List.length e
  grind[Z9,List.length_nil,List.getElem?_eq_some_iff]
 ·exact⟨u,Uu x,rfl,cG (n:=2) (λ_=>rfl) xs u hc i x J,rfl⟩
theorem ph{h:Hp}{xs:List aH}{a:ahr}{l:Nat}(r:aY h xs a l){i:Nat}(hi:i<l):∃x ad,xs[i]? =some x/\a=some ad/\aj h (ad.add (eV i 2)) (Uu x):=by
 obtain⟨x,ad,vs,J,ha,u,e⟩:=r.get hi;rw[show vs=Uu x from e] at u;exact⟨x,ad,J,ha,u⟩
theorem Gi{h:Hp}{L:List aC}{ss:List SQ}{o:ahr}{n c:Nat}(hs:aG (own 2 o n c (P6 ss)::aV (SM ss)::aV (QZ ss)::L) h):ON h ss o:=λi q u=>by
 obtain⟨J,e,r⟩:=Mp (dE 0 hs) u
 obtain⟨U,s1,a1⟩:=Gh (aq hs) (Mq u)
 obtain⟨O,s2,a2⟩:=Gh (aq (aq hs)) (Z_ u)
 exact⟨J,e,r,(Mr a1).mono s1,(SO rfl (bK a2)).mono s2⟩
section
variable{g:ah}{K:dx}{ss:List SQ}{asked:Int}{i s:Nat}{es:List aH}
theorem acP(hc:ax g)(hf:∀x∈K,vn g x):bx g K 0=[]:=by
 refine agD λh=>?_;have:=xI (s:=0) hc hf (Int.le_refl _) h;omega
end
def EZ(g:ah)(ss:List SQ)(ask int f:Int):Prop:=
 (¬ax g/\ss=[]/\ask=0/\int=0/\f=1)\/(ax g/\acz g/\ss=[]/\ask=0/\int=0/\f=11)\/(ax g/\bR g ss/\ask=1+(Ms (cr ss):Int)/\int=(ss.length:Int)/\f=0)
theorem EZ.one{g:ah}{ss ss':List SQ}{a i f a' i' f':Int}(h:EZ g ss a i f)(h':EZ g ss' a' i' f'):eZ ss=eZ ss'/\cr ss=cr ss'/\a=a'/\i=i'/\f=f'/\ss.length=ss'.length:=by
 rcases h with⟨O,rfl,rfl,rfl,rfl⟩|⟨O,hb,rfl,rfl,rfl,rfl⟩|⟨O,hA,rfl,rfl,rfl⟩
 ·rcases h' with⟨u,rfl,rfl,rfl,rfl⟩|⟨u,_⟩|⟨u,_⟩
  ·simp
  ·simp_all
  simp_all
 ·rcases h' with⟨u,_⟩|⟨u,_,rfl,rfl,rfl,rfl⟩|⟨u,hA,_⟩
  ·simp_all
  ·simp
  ·exact(Oh hA.dn hb).elim
 ·rcases h' with⟨u,_⟩|⟨u,hb,_⟩|⟨u,J,rfl,rfl,rfl⟩
  ·simp_all
  ·exact(Oh hA.dn hb).elim
  ·have e:=WE hA.dn J.dn;have U:cr ss=cr ss':=by rw[hA.es,J.es,e]
   refine⟨by rw[hA.ks,J.ks,e],U,by grind,by rw[e],rfl,e⟩
theorem bR.JW{g:ah}{ss:List SQ}(hc:ax g)(h:bR g ss):∀q∈ss,q.1.2.length<=29100/\q.2.2.length<=130:=λq X=>by
 obtain⟨hT,hN,hP,W,_,_⟩:=hc.cX
 have u:=jC (g:=g) ω ss.length
 obtain⟨j,V⟩:=agb X
 have e:(fK g ss.length).1[j]? =some q.1.2:=by rw[<-h.ks];simp_all[eZ]
 have Z:(fK g ss.length).2[j]? =some q.2.2:=by rw[<-h.es];simp_all[cr]
 have O:=afI e
 have U:=(afK.1 V).1
 have J:=h.dn.2.1
 refine⟨OL hP (u.srt _ O) (u.fit _ O) λx Y=>by have:=u.dots j _ e x Y;omega,?_⟩
 have key:∀i,∀es∈(fK g i).2,es.length<=g.T+g.N:=by
  intro i
  induction i with
  |zero=>simp[fK]
  |succ i ih=>
   grind[es,fK,sB,gX,List.mem_singleton,tp,List.length_filter_le,decide,bx,List.range,List.length_range,c_]
 grind
section
variable{w:ahs}{L:List aC}{g:ah}{x:GA}
theorem xN(hg:gR (hp w) g x)(hb:mi g):ρ 41 [.agg ⟨x.cells⟩] w λv w'=>∃(o:ahr)(c:Nat)(ss:List SQ)(ask int f:Int),v=.tuple #[.agg #[vS o ss.length c,iI ask,iI int],iI f]/\EZ g ss ask int f/\St w' (own 2 o ss.length c (P6 ss)::aV (SM ss)::aV (QZ ss)::all w):=by
 refine(aae hg hb).mono ?_;have z:∀{w':ahs},Gr w w'->St w' (own 2 none 0 0 (P6 [])::aV (SM [])::aV (QZ [])::all w):=λgr=>aI 2 ((St.flat (M:=[])).2 ((St.flat (M:=[])).2 (St.here gr)))
 rintro _ w' (⟨hn,rfl,gr⟩|⟨hc,u,rfl,gr⟩|⟨hc,o,ss,hA,rfl,h⟩)
 ·exact⟨none,0,[],0,0,1,rfl,.inl ⟨hn,rfl,rfl,rfl,rfl⟩,z gr⟩
 ·exact⟨none,0,[],0,0,11,rfl,.inr (.inl ⟨hc,u,rfl,rfl,rfl,rfl⟩),z gr⟩
 ·exact⟨o,_,ss,_,_,0,rfl,.inr (.inr ⟨hc,hA,rfl,rfl,rfl⟩),h⟩
end
section
variable{g:ah}{K:dx}{st:List dx}{n i j:Nat}
theorem SP{k:dx}:(wT st k)[st.idxOf k]? =some k:=by
 unfold wT
 grind
theorem HM:∀(l:List Nat)(st:List dx)(es:List aH)(k s:Nat),l[k]? =some s->∃to:Nat,(pZ g K l (st,es)).2[es.length+k]? =some ⟨(s:Int),(to:Int)⟩/\(pZ g K l (st,es)).1[to]? =some (bx g K (s:Int))
 |[],_,_,_,_,h=>by grind
 |a::l,st,es,0,s,h=>by
  simp at h;subst h
  refine⟨st.idxOf (bx g K (a:Int)),?_,?_⟩
  ·show(pZ g K l (wT st (bx g K (a:Int)),es++[⟨(a:Int),_⟩])).2[es.length+0]? =_
   have pre:∀(l:List Nat)(st:List dx)(es:List aH)(k:Nat) e,es[k]? =some e->(pZ g K l (st,es)).2[k]? =some e:=by
    intro l
    induction l with
    |nil=>exactλst es k e h=>h
    |cons b l ih=>
     intro st es k e h
     exact ih _ _ k e (by grind)
   simp_all
  ·show(pZ g K l (wT st (bx g K (a:Int)),es++[⟨(a:Int),_⟩])).1[_]? =_
   simp[wU,SP]
 |a::l,st,es,k+1,s,h=>by
  obtain⟨to,h1,h2⟩:=HM l (wT st (bx g K (a:Int))) (es++[⟨(a:Int),((st.idxOf (bx g K (a:Int)):Nat):Int)⟩]) k s (by simp_all)
  refine⟨to,?_,h2⟩
  rw[afS,ag8] at h1
  rw[show es.length+(k+1)=es.length+1+k by omega]
  exact h1
theorem Uy{i n:Nat}(h:i<=n)(j:Nat)(e:List aH)(he:(fK g i).2[j]? =some e):(fK g n).2[j]? =some e:=by
 induction h with
 |refl=>omega
 | @step m _ ih=>
  grind[fK,sB,gX,List.getElem?_append_left,List.getElem?_eq_some_iff]
theorem mq{ss:List SQ}(h:bR g ss){i:Nat}{q:SQ}(hq:ss[i]? =some q):(fK g i).1[i]? =some q.1.2/\q.2.2=(pZ g q.1.2 (c_ g q.1.2) ((fK g i).1,[])).2/\∀(j:Nat) K,(fK g (i+1)).1[j]? =some K->∃r,ss[j]? =some r/\r.1.2=K:=by
 have u:=(afK.1 hq).1;have J:=h.dn.2.2 i u;have Y:(fK g ss.length).1[i]? =some q.1.2:=by rw[<-h.ks];simp_all[eZ]
 obtain⟨K,O⟩:∃K,(fK g i).1[i]? =some K:=⟨_,afJ J⟩;have U:=BV (Nat.le_of_lt u) i K O;rw[Y] at U;cases U
 refine⟨O,?_,λj K' X=>?_⟩
 ·have hb:=gX O;have W:=QP (g:=g) i ω;have Z:(fK g (i+1)).2[i]? =some (pZ g q.1.2 (c_ g q.1.2) ((fK g i).1,[])).2:=by simp_all
  have e4:=Uy u i _ Z;rw[<-h.es] at e4
  grind[cr,Option.some.inj]
 ·have V:=BV u j K' X;rw[<-h.ks] at V;unfold eZ at V
  simp_all
theorem bR.pos{ss:List SQ}(h:bR g ss):0<ss.length:=by
 refine agZ λh0=>?_;have:=h.dn.1
 simp_all[fK]
end
section
variable{g:ah}{K K':dx}{s s':Int}{ss:List SQ}
theorem W9(h:bx g K s=bx g K' s')(hne:bx g K s≠[]):s=s':=by
 obtain⟨x,J⟩:=agP _ hne;have u:=J;rw[h] at u;obtain⟨y,_,O,rfl⟩:=dW.1 J
 grind[dW,au.ext']
theorem SR:∀(l:List Nat)(st:List dx)(es:List aH)(j:Nat)(L:dx),st.length<=j->(pZ g K l (st,es)).1[j]? =some L->∃k s:Nat,l[k]? =some s/\L=bx g K (s:Int)/\(pZ g K l (st,es)).2[es.length+k]? =some ⟨(s:Int),(j:Int)⟩
 |[],st,es,j,L,hj,h=>by
  have:=(afK.1 h).1
  have h2:(pZ g K [] (st,es)).1.length=st.length:=rfl
  omega
 |a::l,st,es,j,L,hj,h=>by
  by_cases hlt:(wT st (bx g K (a:Int))).length<=j
  ·obtain⟨k,s,h1,h2,h3⟩:=SR l (wT st (bx g K (a:Int))) (es++[(⟨(a:Int),((st.idxOf (bx g K (a:Int)):Nat):Int)⟩:aH)]) j L hlt h
   refine⟨k+1,s,by simp_all,h2,?_⟩
   rw[afS,ag8] at h3
   rw[show es.length+(k+1)=es.length+1+k by omega]
   exact h3
  ·have hn:bx g K (a:Int)∉st:=λhm=>by
    have:(wT st (bx g K (a:Int))).length=st.length:=by simp_all[wT]
    omega
   have hlen:(wT st (bx g K (a:Int))).length=st.length+1:=by simp_all[wT]
   have hjs:j=st.length:=ω
   obtain⟨to,h1,h2⟩:=HM (g:=g) (K:=K) (a::l) st es 0 a rfl
   have e:st.idxOf (bx g K (a:Int))=st.length:=List.idxOf_eq_length hn
   have hj2:(wT st (bx g K (a:Int)))[j]? =some (bx g K (a:Int)):=by grind[SP]
   have hL:=wU l (wT st (bx g K (a:Int))) (es++[(⟨(a:Int),((st.idxOf (bx g K (a:Int)):Nat):Int)⟩:aH)]) j _ hj2 (g:=g) (K:=K)
   have h:(pZ g K l (wT st (bx g K (a:Int)),es++[(⟨(a:Int),((st.idxOf (bx g K (a:Int)):Nat):Int)⟩:aH)])).1[j]? =some L:=h
   rw[hL] at h
   refine⟨0,a,rfl,(Option.some.inj h).symm,?_⟩
   have pre:∀(l:List Nat)(st:List dx)(es:List aH)(k:Nat) e,es[k]? =some e->(pZ g K l (st,es)).2[k]? =some e:=by
    intro l
    induction l with
    |nil=>exactλst es k e h=>h
    |cons b l ih=>
     intro st es k e h
     exact ih _ _ k e (by grind)
   simp_all[pZ,wT,bx,Nat.add_zero]
theorem fv(hc:ax g)(h:bR g ss){i:Nat}{q:SQ}(hq:ss[i]? =some q){m:Nat}{e:aH}(he:q.2.2[m]? =some e):1<=e.sym/\e.sym<g.T+g.N/\∃(j:Nat)(r:SQ),e.to=j/\1<=j/\ss[j]? =some r/\r.1.2=bx g q.1.2 e.sym/\bx g q.1.2 e.sym≠[]:=by
 obtain⟨hK,hE,Y⟩:=mq h hq;obtain⟨_,_,_,a0,_,_⟩:=hc.cX;have hI:=jC (g:=g) ω i;have X:=hI.fit _ (afI hK);have U:m<(c_ g q.1.2).length:=by grind[List.getElem?_eq_some_iff,tp]
 obtain⟨to,u,h2⟩:=HM (g:=g) (K:=q.1.2) (c_ g q.1.2) (fK g i).1 [] m _ (afJ U);rw[<-hE] at u;have u:q.2.2[m]? =some ⟨(((c_ g q.1.2)[m]:Nat):Int),(to:Int)⟩:=by simp_all
 rw[he] at u;have u:=Option.some.inj u;have W:=yp (g:=g) (K:=q.1.2) _ (ahd U);obtain⟨r,Z,O⟩:=Y to _ (by rw[gX hK];exact h2);have V:=xI hc X (agu _) W;rw[u];refine⟨V.1,V.2,to,r,rfl,agZ λh0=>?_,Z,O,W⟩;subst h0;have J:(fK g ss.length).1[0]? =some [⟨0,0⟩]:=BV (afL _) 0 _ rfl;rw[<-h.ks] at J;unfold eZ at J;rw[afQ,Z] at J;have J:r.1.2=[⟨0,0⟩]:=Option.some.inj J;rw[O] at J;have hm:(⟨0,0⟩:au)∈bx g q.1.2 (((c_ g q.1.2)[m]:Nat):Int):=by simp_all
 obtain⟨y,hy,_,e⟩:=dW.1 hm;injection e with _ e2
 have:=(hy.fit X).2.1;omega
theorem W_(hc:ax g)(h:bR g ss){j:Nat}(hj:1<=j)(hjl:j<ss.length):∃(i:Nat)(q:SQ)(m:Nat)(e:aH),i<j/\ss[i]? =some q/\q.2.2[m]? =some e/\e.to=j:=by
 have key:∀n,n<=ss.length->j<(fK g n).1.length->∃(i:Nat)(K:dx),i<n/\(fK g i).1[i]? =some K/\(fK g i).1.length<=j/\j<(fK g (i+1)).1.length:=by
  intro n
  induction n with
  |zero=>intro _ u;have:(fK g 0).1.length=1:=rfl;omega
  |succ n ih=>
   intro hn u
   by_cases V:j<(fK g n).1.length
   ·grind
   ·exact⟨n,_,Nat.lt_succ_self n,afJ (h.dn.2.2 n ω),ω,u⟩
 obtain⟨i,K,W,u,V,O⟩:=key ss.length (afR _) (by rw[h.dn.1];omega);have J:i<ss.length:=W;obtain⟨q,Y⟩:∃q,ss[i]? =some q:=⟨_,afJ J⟩;obtain⟨U,Z,_⟩:=mq h Y;rw[u] at U;cases U;have X:=h.dn.2.2 i J;rw[gX u] at O;obtain⟨m,s,h5,h6,h7⟩:=SR (g:=g) (c_ g q.1.2) (fK g i).1 [] j _ V (afJ O)
 grind
noncomputable def aeJ(g:ah)(ss:List SQ)(j:Nat):Int:=Classical.epsilon λs:Int=>∃(r:SQ)(K:dx),ss[j]? =some r/\(∀x∈K,vn g x)/\r.1.2=bx g K s/\bx g K s≠[]/\1<=s
theorem aaf{j:Nat}{r:SQ}{K:dx}{s:Int}(hr:ss[j]? =some r)(hf:∀x∈K,vn g x)(hk:r.1.2=bx g K s)(hne:bx g K s≠[])(hs:1<=s):aeJ g ss j=s:=by
 obtain⟨r',K',u,_,J,O,_⟩:=Classical.epsilon_spec (p:=λs:Int=>∃(r:SQ)(K:dx),ss[j]? =some r/\(∀x∈K,vn g x)/\r.1.2=bx g K s/\bx g K s≠[]/\1<=s) ⟨s,r,K,hr,hf,hk,hne,hs⟩;rw[hr] at u;cases u
 show Classical.epsilon _=s
 grind[W9]
theorem aag(hc:ax g)(h:bR g ss){j:Nat}(hj:1<=j){r:SQ}(hr:ss[j]? =some r){x:au}(hx:x∈r.1.2):0<=x.prod/\1<=x.dot/\∃p,g.prods[x.prod.toNat]? =some p/\x.dot<=p.right.length/\p.right[(x.dot-1).toNat]? =some (aeJ g ss j):=by
 obtain⟨i,q,m,e,a5,X,Z,a4⟩:=W_ hc h hj (afK.1 hr).1;obtain⟨Y,h2,j',r',e1,_,J,W,U⟩:=fv hc h X Z;have:j'=j:=ω
 subst this;rw[hr] at J;cases J;obtain⟨hK,_⟩:=mq h X;obtain⟨_,_,_,a0,_,_⟩:=hc.cX;have u:=(jC (g:=g) ω i).fit _ (afI hK);rw[aaf hr u W U Y];rw[W] at hx;obtain⟨y,V,ha,rfl⟩:=dW.1 hx;obtain⟨p,hp,h3,h4⟩:=L0 (V.fit u) ha ω;have O:=V.fit u;refine⟨O.1,by have:=O.2.1;grind,p,hp,by grind,?_⟩
 simp_all
end
class nM (κ:Type) extends MVal κ where
 a:κ->Int
 b:κ->Int
 val2:∀k,toMVal.val k=.agg ⟨[iI (a k),iI (b k)]⟩
 ext:∀k l,a k=a l->b k=b l->k=l
section
variable{P:Program}{κ:Type}[DecidableEq κ][nM κ]{kt ti:TypeId}{f0 f1:Field}
structure Two(P:Program)(kt ti:TypeId)(f0 f1:Field):Prop where
 ht:P.underlying kt=some (.struct (P.fieldsOf kt))
 hf:P.fieldsOf kt=#[f0,f1]
 hi:P.underlying ti=some (.int .i64)
 ht0:f0.type=ti
 ht1:f1.type=ti
 n0:f0.name≠"_"
 n1:f1.name≠"_"
 o0:f0.offset=0
 o1:f1.offset=1
 sih:P.stoodInHeld kt=false
theorem Xa(T:Two P kt ti f0 f1)(w:ahs)(x y u v:Int):(Op.equal kt (.agg #[iI x,iI y]) (.agg #[iI u,iI v])).run P w=.ok (decide (x=u/\y=v)) w:=by
 have O:∀(v u:Value)(w:ahs),(part ti #[v,u] 0).run P w=.ok v w:=λv u w=>by simp[part,lW T.hi,ij,Kd.isAgg]
 have U:∀(v u:Value)(w:ahs),(part ti #[v,u] 1).run P w=.ok u w:=λv u w=>by simp[part,lW T.hi,ij,Kd.isAgg]
 have J:∀n m d w,(Op.equalIn (d+1) ti (iI n) (iI m)).run P w=.ok (n==m) w:=λn m d w=>run_equalIn_int w d _ _ _ _ _ T.hi
 show(Op.equalIn (9998+1+1) kt _ _).run P w=_
 rw[run_equalIn_agg w (9998+1) kt _ _ T.ht T.sih,T.hf];have n0:=T.n0;have n1:=T.n1;have e:decide (x=u/\y=v)=(x==u&&y==v):=by grind
 rw[e];unfold Op.eqFields;simp only[ne_eq,n0,not_false_eq_true,if_true,Sem.run_bind,T.ht0,T.o0,O,Result.andThen_ok,J]
 cases hq:(x==u)
 ·simp
 ·unfold Op.eqFields;simp only[ne_eq,n1,not_false_eq_true,if_true,Sem.run_bind,T.ht1,T.o1,U,Result.andThen_ok,J,Bool.not_true,Bool.false_eq_true,if_false]
  cases hn:(y==v)
  ·simp
  rfl
theorem OO(T:Two P kt ti f0 f1)(w:ahs)(k:κ):∀(es:List MapEntry)(m:List (κ×Value))(i:Nat),es.map (λe=>(e.key,e.val))=m.map (λx=>(MVal.val x.1,x.2))->
  ∃r,(Instr.findAsking kt (MVal.val k) es i).run P w=.ok r w/\(r.map (·.2))=assoc k m/\(∀j v,r=some (j,v)->i<=j/\j<i+m.length/\(m[j-i]?).map (·.1)=some k/\∀u,cO k u m=m.set (j-i) (k,u))/\(r=none->∀u,cO k u m=m++[(k,u)])
 |[],[],i,_=>⟨none,rfl,rfl,λj v h=>(by grind),λ_ u=>rfl⟩
 |[],_::_,i,h=>by grind
 |_::_,[],i,h=>by grind
 |e::es,(a,v)::m,i,h=>by
  simp only[agv,List.cons.injEq,Prod.mk.injEq] at h
  obtain⟨⟨h1,h2⟩,h3⟩:=h
  have he:(Op.equal kt (MVal.val k) e.key).run P w=.ok (decide (k=a)) w:=by
   rw[h1,nM.val2,nM.val2]
   have:=Xa T w (nM.a k) (nM.b k) (nM.a a) (nM.b a)
   have e2:decide (nM.a k=nM.a a/\nM.b k=nM.b a)=decide (k=a):=decide_eq_decide.2 ⟨λ⟨h1,h2⟩=>nM.ext k a h1 h2,λh=>by simp_all⟩
   simp_all
  unfold Instr.findAsking
  simp only[Sem.run_bind,he,Result.andThen_ok]
  by_cases hk:k=a
  ·simp_all[assoc,cO]
  ·obtain⟨r,q1,q2,q3,q4⟩:=OO T w k es m (i+1) h3
   refine⟨r,by simp_all,by simp_all[assoc],λj u hj=>?_,λhn u=>by simp_all[cO]⟩
   obtain⟨p1,p2,p3,p4⟩:=q3 j u hj
   have e1:j-i=(j-(i+1))+1:=ω
   grind[cO]
theorem wM.two(T:Two P kt ti f0 f1):wM P kt κ where
 check:=λw J k=>by
  rw[nM.val2]
  have O:=T.ht
  rw[T.hf] at O
  have V:∀(v u:Value)(w:ahs),(part ti #[v,u] 0).run P w=.ok v w:=λv u w=>by simp[part,lW T.hi,ij,Kd.isAgg]
  have X:∀(v u:Value)(w:ahs),(part ti #[v,u] 1).run P w=.ok u w:=λv u w=>by simp[part,lW T.hi,ij,Kd.isAgg]
  have Y:∀(n:Nat)(z:Int)(w:ahs),(Instr.checkKey J (n+1) ti (iI z)).run P w=.ok () w:=λn z w=>MapKept.run_checkKey (P:=P) (w:=w) T.hi (by rfl) J n
  show(Instr.checkKey J (9998+1+1) kt _).run P w=_
  unfold Instr.checkKey
  simp only[Sem.run_bind,run_underlying O,Result.andThen_ok]
  have n0:=T.n0
  have n1:=T.n1
  simp[n0,n1,T.ht0,T.ht1,T.o0,T.o1,Sem.run_bind,V,X,Y]
 find:=λw k es m U=>by
  obtain⟨r,q1,W,q3,Z⟩:=OO T w k es m 0 U
  refine⟨r,?_,W,λj v hj=>?_,Z⟩
  ·have O:=T.ht
   cases es with
   |nil=>
    simp_all[Instr.findKey,run_underlying,Instr.findNow,Instr.findAsking]
   |cons e es=>
    simp_all[Instr.findNow,Instr.sameNow,Instr.findKey,Sem.run_bind,run_underlying,Result.andThen_ok]
  grind
 bits:=λk=>by simp[nM.val2,Instr.sameBits]
end
structure aF where
 st:Int
 sym:Int
deriving DecidableEq
instance:Inhabited aF:=⟨⟨0,0⟩⟩
instance:tQ aF:={ n:=2,rd:=λ_ x vs=>vs=[iI x.st,iI x.sym],mono:=λ_ h=>h,len:=λh=>by simp_all }
instance:nM aF:={ val:=λk=>.agg ⟨[iI k.st,iI k.sym]⟩,inj:=λa b h=>by cases a;simp_all,a:=aF.st,b:=aF.sym,val2:=λ_=>rfl,ext:=λk l h1 h2=>by cases k;simp_all }
def HN(x:aF):List Value:=[iI x.st,iI x.sym]
def KN(xs:List aF):List Value:=xs.flatMap HN
theorem aah(xs:List aF):(KN xs).length=xs.length*2:=pf (f:=HN) (n:=2) (λ_=>rfl) xs
theorem aai(xs ys:List aF):KN (xs++ys)=KN xs++KN ys:=agh
theorem Gj{h:Hp}{xs:List aF}{a:ahr}{l:Nat}(hl:xs.length=l)(r:ec a (KN xs) h):aY h xs a l:=by
 refine⟨hl,λi x J=>?_⟩
 rcases r with e|⟨u,rfl,hc⟩
 ·have O:=congrArg List.length e
  grind[aah,List.length_nil,List.getElem?_eq_some_iff]
 ·exact⟨u,HN x,rfl,cG (n:=2) (λ_=>rfl) xs u hc i x J,rfl⟩
theorem xO{h:Hp}{xs:List aF}{a:ahr}{l:Nat}(r:aY h xs a l){i:Nat}(hi:i<l):∃x ad,xs[i]? =some x/\a=some ad/\aj h (ad.add (eV i 2)) (HN x):=by
 obtain⟨x,ad,vs,J,ha,u,e⟩:=r.get hi;rw[show vs=HN x from e] at u;exact⟨x,ad,J,ha,u⟩
def dm(ss:List SQ)(i:Nat)(s:Int):Option Int:=match ss[i]? with
 |none=>none
 |some q=>(q.2.2.find? λe=>decide (e.sym=s)).map (·.to)
def gZ(g:ah)(i:Nat)(es:List aH):List aF:=(es.filter λe=>decide ((g.T:Int)<=e.sym)).map λe=>⟨(i:Int),e.sym⟩
def yw(g:ah)(ss:List SQ):Nat->List aF
 |0=>[]
 |i+1=>yw g ss i++(match ss[i]? with|some q=>gZ g i q.2.2|none=>[])
def bW(g:ah)(ss:List SQ):List aF:=yw g ss ss.length
def kj(g:ah)(ss:List SQ)(t:aF):List Int:=
 (if t=⟨0,g.start⟩ then[0] else[])++(match dm ss t.st.toNat t.sym with
  |none=>[]
  |some j=>(match ss[j.toNat]? with|none=>[]|some q=>(q.2.2.filter λe=>decide (e.sym<(g.T:Int))).map (·.sym)))
def dy(ss:List SQ):Int->List Int->Int
 |q,[]=>q
 |q,s::l=>match dm ss q.toNat s with
  |none=>-1
  |some j=>dy ss j l
section
variable{g:ah}{ss:List SQ}
theorem tu{i:Nat}{q:SQ}(hq:ss[i]? =some q):yw g ss (i+1)=yw g ss i++gZ g i q.2.2:=by simp_all[yw,gZ]
theorem KO{i:Nat}{es:List aH}{e:aH}:gZ g i (es++[e])=if(g.T:Int)<=e.sym then gZ g i es++[⟨(i:Int),e.sym⟩] else gZ g i es:=by grind[gZ]
theorem tw{i:Nat}{q:SQ}(hq:ss[i]? =some q)(s:Int):dm ss i s=(q.2.2.find? λe=>decide (e.sym=s)).map (·.to):=by simp_all[dm]
theorem HO(h:bR g ss){i:Nat}{q:SQ}(hq:ss[i]? =some q):q.2.2.map (·.sym)=(c_ g q.1.2).map Int.ofNat:=by
 obtain⟨u,J,_⟩:=mq h hq
 have key:∀(l:List Nat)(st:List dx)(es:List aH),(pZ g q.1.2 l (st,es)).2.map (·.sym)=es.map (·.sym)++l.map Int.ofNat:=by
  intro l
  induction l with
  |nil=>simp[pZ]
  |cons a l ih=>
   simp_all[pZ]
 simp_all
theorem SS:∀{es:List aH}{k:Nat}{e:aH},(es.map (·.sym)).Nodup->es[k]? =some e->(es.find? λx=>decide (x.sym=e.sym))=some e
 |[],k,e,_,h=>by grind
 |x::es,0,e,_,h=>by simp_all
 |x::es,k+1,e,hn,h=>by
  rw[agv,agB] at hn
  have h:es[k]? =some e:=by simp_all
  have hne:x.sym≠e.sym:=λe2=>hn.1 (by grind)
  rw[List.find?_cons,age hne]
  exact SS hn.2 h
theorem D8(h:bR g ss){i:Nat}{q:SQ}(hq:ss[i]? =some q):(q.2.2.map (·.sym)).Nodup:=by
 rw[HO h hq,agI,agz];exact(AR g q.1.2).imp λh e=>by grind
theorem Cn(h:bR g ss){i:Nat}{q:SQ}(hq:ss[i]? =some q){k:Nat}{e:aH}(he:q.2.2[k]? =some e):dm ss i e.sym=some e.to:=by grind[tw,SS,D8]
theorem qB{i:Nat}{s:Int}{j:Int}(h:dm ss i s=some j):∃(q:SQ)(k:Nat)(e:aH),ss[i]? =some q/\q.2.2[k]? =some e/\e.sym=s/\e.to=j:=by
 unfold dm at h;cases hq:ss[i]? with
 |none=>simp_all
 |some q=>
  rw[hq] at h;simp only[aha] at h;obtain⟨e,u,rfl⟩:=h;obtain⟨k,J⟩:=agb (List.mem_of_find?_eq_some u)
  grind
end
section
variable{a b c d:ahr}{i j k l m n o p:Nat}{A:Int}{w:ahs}{R:Value->WP}
theorem bq(h:lV a i j none (some (i:Int)) (some (i:Int)) 1 λ(a:ahr)(b c:Nat)=>R (vS a b c) w):ρ 132 [vS a i j] w R:=rv Tryz.func132 ⟨[],[],[],[]⟩ h
theorem jW(h:lV a i j none (some (i:Int)) (some (i:Int)) 3 λ(a:ahr)(b c:Nat)=>R (vS a b c) w):ρ 198 [vS a i j] w R:=rv Tryz.func198 ⟨[],[],[],[]⟩ h
theorem g_(h:lV a i j none (some (i:Int)) (some (i:Int)) 1 λ(a:ahr)(b c:Nat)=>R (vS a b c) w):ρ 252 [vS a i j] w R:=rv Tryz.func252 ⟨[],[],[],[]⟩ h
abbrev pk:FuncId:=284
theorem D_(h:new w (ψ a i j b k l c m n A d o p) λa b=>χ b (aM a) λc=>rE 338 [c] b λb c=>∃d e,b=vU [vP d,iI e]/\br (e !=0) (R (vU [vS none 0 0,iI e]) c) (rEs 339 [vP d] c λe f g c=>τ [(6,lY),(23,aN)] λb g=>b none 0 0 0 c/\∀(_:ν) c h i j k,b c h i j k->bQ (j<(f:Int)) (idx e f j 2 λe=>∃f l,rA k e 2 [iI f,iI l]/\new k (oC [iI 0,iI 0] 297) λe m=>bC m (aM e) [iI f,iI l] λf=>∃(l:lP [(9,lY)]),(∃b c,rA f (aM e) 2 [iI b,iI c]/\cLi f (Addr.add (aM a) 3) λd=>∃a,Sem.run Tryz.prog (qH BinOp.eql 297 (Operand.tmp 27) (Operand.tmp 30) (vG [iI b,iI c]) (vG [iI 0,iI d])) f=Result.ok a f/\∃b,a=vB b/\br b (new f (oC [iI 0] 3) λa b=>rS (fX 24 (Array.mk [vS none 0 0,vS (some (aM a)) 1 1])) b λa b=>∃c d e,a=vS c d e/\l c d e b) (l none 0 0 f))/\∀(_:ν) f m n o,l f m n o->∀l,drawn o l->∃(o:WP),o l/\nn d λp=>∃q r s,(∀a,o a->cL a (p.add 5) (vS q r s))/\nn d λd=>∃p,(∀a,o a->cL a (d.add 8) (Value.map p))/\∃d s,(∀a,o a->rA a (aM e) 2 [iI d,iI s])/\aX Tryz.prog (Instr.lookup 347 (Value.map p) (vG [iI d,iI s]) false) l λd e=>∃l,d=iI l/\∃(d:WP),d e/\(∀a,d a->o a)/\idx q r l 2 λl=>∃o p q,(∀a,d a->cL a (l.add 1) (vS o p q))/\τ [(9,lY),(50,aN)] λd l=>d f m n 0 e/\∀(_:ν) e f m n q,d e f m n q->bQ (n<(p:Int)) (idx o p n 2 λb=>∃c g,rA q b 2 [iI c,iI g]/\new q (oC [iI 0,iI 0] 203) λb h=>bC h (aM b) [iI c,iI g] λc=>cLi c (aM b) λg=>cLs c (aM a) λh i j=>bQ (g<(i:Int)) (cLi c (aM b) λa=>new c (oC [iI a] 3) λa b=>rS (fX 24 (Array.mk [vS e f m,vS (some (aM a)) 1 1])) b λa b=>∃c g h,a=vS c g h/\aD (n+1)/\d c g h (n+1) b/\l c g h (n+1) b<l e f m n q) (aD (n+1)/\d e f m (n+1) c/\l e f m (n+1) c<l e f m n q)) (rEs 132 [vS e f m] q λe f l d=>new d (oC [vS e f l] 24) λa d=>rS (fX 71 (Array.mk [vS c h i,vS (some (aM a)) 1 1])) d λa d=>∃e f l,a=vS e f l/\aD (j+1)/\b e f l (j+1) d/\g e f l (j+1) d<g c h i j k)) (rEs 252 [vS c h i] k λc d e b=>R (vU [vS c d e,iI 0]) b))):ρ 284 [φ a i j b k l c m n A d o p] w R:=rv Tryz.func284 ⟨[(6,[(6,(.one .slice)),(23,(.one (.int .i64)))]),(12,[(9,(.one .slice)),(50,(.one (.int .i64)))])],[(11,[(9,(.one .slice))])],[],[]⟩ h
theorem HQ(h:new w (ψ a i j b k l c m n A d o p) λa b=>χ b (aM a) λa=>rE 338 [a] b λa b=>∃c d,a=vU [vP c,iI d]/\br (d !=0) (R (vU [vS none 0 0,iI d]) b) (rEs 339 [vP c] b λc d e b=>R (vU [vS c d e,iI 0]) b)):ρ 289 [φ a i j b k l c m n A d o p] w R:=rv Tryz.func289 ⟨[],[],[],[]⟩ h
theorem Mx(h:new w (ψ a i j b k l c m n A d o p) λa b=>χ b (aM a) λc=>rE 41 [c] b λb c=>∃d e f g h i,b=vU [vG [vS d e f,iI g,iI h],iI i]/\new c (oC [vS none 0 0,iI 0,iI 0] 76) λb c=>bC c (aM b) [vS d e f,iI g,iI h] λc=>br (i !=0) (R (vU [vP none,iI i]) c) (∃d e f g h i j k l m n o p,rA c (aM a) 5 [vS d e f,vS g h i,vS j k l,iI m,vS n o p]/\∃a q r s t,rA c (aM b) 3 [vS a q r,iI s,iI t]/\new c (Obj.map (Array.mk []) 0) λc u=>new u (oC [vS d e f,vS g h i,vS j k l,iI m,vS n o p,vS a q r,iI s,iI t,Value.map (some c)] 483) λa c=>cLs c (aM b) λd e f=>τ [(27,aN)] λb f=>b 0 c/\∀(_:ν) c g,b c g->bQ (c<(e:Int)) (idx d e c 2 λd=>∃e h i j k l,rA g d 2 [vS e h i,vS j k l]/\new g (oC [vS none 0 0,vS none 0 0] 199) λd m=>bC m (aM d) [vS e h i,vS j k l] λe=>cLs e (Addr.add (aM d) 1) λh i j=>τ [(35,aN)] λd j=>d 0 e/\∀(_:ν) e k,d e k->bQ (e<(i:Int)) (idx h i e 2 λb=>∃f g,rA k b 2 [iI f,iI g]/\new k (oC [iI 0,iI 0] 203) λb h=>bC h (aM b) [iI f,iI g] λf=>∀g,drawn f g->∃(f:WP),f g/\∃h,(∀b,f b->cL b (Addr.add (aM a) 8) (Value.map h))/\∃a,(∀c,f c->cL c (aM b) (iI a))/\∃i,(∀a,f a->cL a (Addr.add (aM b) 1) (iI i))/\aX Tryz.prog (Instr.mapUpdate 347 (Value.map h) (vG [iI c,iI a]) (iI i)) g λ(_:Unit)(a:ahs)=>aD (e+1)/\d (e+1) a/\j (e+1) a<j e k) (aD (c+1)/\b (c+1) k/\f (c+1) k<f c g)) (R (vU [vP (some (aM a)),iI 0]) g))):ρ 338 [φ a i j b k l c m n A d o p] w R:=rv Tryz.func338 ⟨[(6,[(27,(.one (.int .i64)))]),(9,[(35,(.one (.int .i64)))])],[],[],[]⟩ h
theorem zj(h:nn a λb=>cLs w (b.add 5) λc d e=>τ [(3,lY),(14,aN)] λb e=>b none 0 0 0 w/\∀(_:ν) f g h i j,b f g h i j->bQ (i<(d:Int)) (idx c d i 2 λc=>∃d k l m n o,rA j c 2 [vS d k l,vS m n o]/\new j (oC [vS none 0 0,vS none 0 0] 199) λc p=>bC p (aM c) [vS d k l,vS m n o] λd=>cLs d (Addr.add (aM c) 1) λk l m=>τ [(3,lY),(22,aN)] λc m=>c f g h 0 d/\∀(_:ν) d n o p q,c d n o p q->bQ (p<(l:Int)) (idx k l p 2 λb=>∃e f,rA q b 2 [iI e,iI f]/\new q (oC [iI 0,iI 0] 203) λb g=>bC g (aM b) [iI e,iI f] λe=>∀f,drawn e f->∃(e:WP),e f/\∃g,(∀a,e a->cL a (aM b) (iI g))/\nn a λa=>∃h j k,(∀b,e b->cL b a (vS h j k))/\bQ ((j:Int)<=g) (cLi f (aM b) λa=>new f (oC [iI i,iI a] 297) λa b=>rS (fX 77 (Array.mk [vS d n o,vS (some (aM a)) 1 1])) b λa b=>∃e f g,a=vS e f g/\aD (p+1)/\c e f g (p+1) b/\m e f g (p+1) b<m d n o p q) (aD (p+1)/\c d n o (p+1) f/\m d n o (p+1) f<m d n o p q)) (aD (i+1)/\b d n o (i+1) q/\e d n o (i+1) q<e f g h i j)) (rEs 376 [vS f g h] j λc d e b=>R (vS c d e) b)):ρ 339 [.pointer a] w R:=rv Tryz.func339 ⟨[(3,[(3,(.one .slice)),(14,(.one (.int .i64)))]),(6,[(3,(.one .slice)),(22,(.one (.int .i64)))])],[],[],[]⟩ h
theorem iQ(h:lV a i j none (some (i:Int)) (some (i:Int)) 2 λ(a:ahr)(b c:Nat)=>R (vS a b c) w):ρ 376 [vS a i j] w R:=rv Tryz.func376 ⟨[],[],[],[]⟩ h
theorem oe(h:bQ ((i:Int)<2) (R (vS a i j) w) (τ [(3,aN)] λb c=>b 1 w/\∀(_:ν) d e,b d e->bQ (d<(i:Int)) (∀f,drawn e f->∃(g:WP),g f/\idx a i d 1 λh=>∃k,(∀a,g a->World.cell? a h=some (iI k))/\aD (d-1)/\idx a i (d-1) 1 λh=>∃l,(∀a,g a->World.cell? a h=some (iI l))/\br (k==l) (lV a i j (some d) none none 1 λ(b:ahr)(c _:Nat)=>τ [(3,aN),(5,aN)] λe g=>e d 1 f/\∀(_:ν) d f h,e d f h->bQ (f<(c:Int)) (∀j,drawn h j->∃(k:WP),k j/\idx b c f 1 λl=>∃m,(∀a,k a->World.cell? a l=some (iI m))/\aD (f-1)/\idx b c (f-1) 1 λl=>∃n,(∀a,k a->World.cell? a l=some (iI n))/\br (m !=n) (idx b c f 1 λb=>∃c,World.cell? j b=some (iI c)/\idx a i d 1 λa=>st1 j a (iI c) λa=>aD (d+1)/\aD (f+1)/\e (d+1) (f+1) a/\g (d+1) (f+1) a<g d f h) (aD (f+1)/\e d (f+1) j/\g d (f+1) j<g d f h)) (lV a i j (some d) none none 1 λ(b:ahr)(c e:Nat)=>rS (Builtin.clear_ (Array.mk [24]) 0 (Array.mk [vS b c e])) h λ_ b=>lV a i j none (some d) none 1 λ(a:ahr)(c d:Nat)=>R (vS a c d) b)) (aD (d+1)/\b (d+1) f/\c (d+1) f<c d e)) (R (vS a i j) e))):ρ 378 [vS a i j] w R:=rv Tryz.func378 ⟨[(4,[(3,(.one (.int .i64)))]),(9,[(3,(.one (.int .i64))),(5,(.one (.int .i64)))])],[],[],[]⟩ h
end
def Ea(ss:List SQ)(m:List (aF×Value))(i:Nat)(es:List aH):Prop:=∀k:aF,assoc k m=
 if k.st<0 then none else if k.st.toNat<i then(dm ss k.st.toNat k.sym).map (Value.int .i64) else if k.st.toNat=i then(es.find? λe=>decide (e.sym=k.sym)).map (λe=>iI e.to) else none
section
variable{ss:List SQ}{m:List (aF×Value)}{i:Nat}
theorem Ea.start:Ea ss [] 0 []:=λk=>by simp[assoc]
theorem KP{es:List aH}{e:aH}(hn:e.sym∉es.map (·.sym))(s:Int):((es++[e]).find? λx=>decide (x.sym=s))=if s=e.sym then some e else es.find? λx=>decide (x.sym=s):=by grind
theorem Ea.step{es:List aH}(h:Ea ss m i es){e:aH}(hn:e.sym∉es.map (·.sym)):Ea ss (cO ⟨(i:Int),e.sym⟩ (iI e.to) m) i (es++[e]):=λk=>by
 rw[fl,h k,KP hn]
 by_cases u:k=⟨(i:Int),e.sym⟩
 ·simp_all
 ·rw[afV u]
  split
  ·rfl
  ·split
   ·rfl
   ·split
    ·have:k.sym≠e.sym:=λh=>u (by cases k;grind)
     simp_all
    rfl
theorem Ea.next{q:SQ}(hq:ss[i]? =some q)(h:Ea ss m i q.2.2):Ea ss m (i+1) []:=λk=>by
 rw[h k]
 split
 ·rfl
 ·by_cases J:k.st.toNat<i
  ·grind
  ·rw[afV J]
   by_cases u:k.st.toNat=i
   ·rw[afZ u,afZ ω,u,tw hq,Option.map_map];rfl
   grind
theorem Ea.all(h:Ea ss m ss.length []){k:aF}(hk:0<=k.st):assoc k m=(dm ss k.st.toNat k.sym).map (Value.int .i64):=by
 rw[h k,afV ω]
 simp_all[dm]
end
abbrev wyC(x:GA)(o:ahr)(n c:Nat)(a int:Int)(kb:Nat):List Value:=x.cells++[vS o n c,iI a,iI int,.map (some kb)]
structure WyR(h:Hp)(g:ah)(ss:List SQ)(k:Nat):Prop where
 ex:∃(x:GA)(o:ahr)(c kb:Nat)(a int:Int)(m:List (aF×Value)),aj h (aM k) (wyC x o ss.length c a int kb)/\gR h g x/\ON h ss o/\mapA kb m h/\Ea ss m ss.length []
theorem WyR.mono{h h':Hp}{g:ah}{ss:List SQ}{k:Nat}(s:sub h h')(r:WyR h g ss k):WyR h' g ss k:=by
 obtain⟨x,o,c,J,a,int,m,O,u,U,W,V⟩:=r.ex;exact⟨x,o,c,J,a,int,m,O.mono s,u.mono s,U.mono s,fu s W,V⟩
section
variable{w:ahs}{L:List aC}{g:ah}{x:GA}
theorem KQ:Two Tryz.prog nY dU { name:="State",type:=dU,offset:=0,embedded:=false,tag:="",pkgPath:="",byteOffset:=0 } { name:="Sym",type:=dU,offset:=1,embedded:=false,tag:="",pkgPath:="",byteOffset:=8 } where
 ht:=by rfl
 hf:=by rfl
 hi:=bL
 ht0:=rfl
 ht1:=rfl
 n0:=σ
 n1:=σ
 o0:=rfl
 o1:=rfl
 sih:=JB
theorem gl:wM Tryz.prog nY aF:=wM.two KQ
theorem Xb(hg:gR (hp w) g x)(hb:mi g):ρ 338 [.agg ⟨x.cells⟩] w λv w'=>∃(ss:List SQ)(ask int f:Int)(p:ahr),v=.tuple #[.pointer p,iI f]/\EZ g ss ask int f/\Gr w w'/\(f=0->∃k,p=some (aM k)/\WyR (hp w') g ss k)/\(f≠0->p=none):=by
 refine Mx (gH hg λk1 w1 gw hg B=>?_);refine⟨_,_,_,_,_,_,_,_,_,_,_,_,_,B.row sZZ,(xN hg hb).mono ?_⟩;rintro _ w2⟨o,c,ss,ask,int,f,rfl,hR,h⟩;have V:Gr w1 w2:=aA 3 h.l;have hg:=hg.mono V;have hs:=Gi h.l
 refine⟨_,_,_,_,_,_,rfl,ag (St.all w2) λa5 w3 h=>aL h rfl (by simp[aK]) λY h=>ae (λJ=>?_) λJ=>?_⟩
 ·have J:f≠0:=by simp_all
  exact⟨ss,ask,int,f,none,rfl,hR,gw.trans (V.trans h.aQ),λh=>absurd h J,λ_=>rfl⟩
 have J:f=0:=by simp_all
 subst J
 obtain⟨hc,hA⟩:ax g/\bR g ss:=by
  rcases hR with⟨_,_,_,_,e⟩|⟨_,_,_,_,_,e⟩|⟨hc,hA,_⟩
  ·omega
  ·omega
  simp_all
 have al:=hA.JW hc;have b1:=hA.dn.2.1;have U:Gr w2 Y:=h.aQ;have hg:=hg.mono U;have hs:=hs.mono U;have a0:aj (hp Y) (aM a5) [vS o ss.length c,iI ask,iI int]:=af 0 h.l;clear h;refine⟨_,_,_,_,_,_,_,_,_,_,_,_,_,B.row (V.trans U),_,_,_,_,_,a0.at sZZ rfl,nI (St.all Y) λZ w5 h=>?_⟩;have h:=dT (κ:=aF) h;refine ag (vs:=wyC x o ss.length c ask int Z) h λkm w6 h=>?_
 refine⟨_,_,_,a0.cell0 (aA 2 h.l),λz w'=>∃(i:Nat)(m:List (aF×Value)),z=i/\i<=ss.length/\Ea ss m i []/\St w' (az km (wyC x o ss.length c ask int Z)::mapA Z m::all Y),λz _=>ss.length-z.toNat,
  ⟨0,[],rfl,afL _,.start,h⟩,?_⟩
 clear h;rintro _ _ w7⟨i,m,rfl,hi,O,h⟩;have s7:sub (hp Y) (hp w7):=aA 2 h.l;refine ae (λJ=>?_) λJ=>?_
 rotate_left
 ·have J:i=ss.length:=by grind
  subst J;obtain⟨hm,sm,am⟩:=Bi 1 h.l;exact⟨ss,ask,int,0,some (aM km),rfl,hR,gw.trans (V.trans (U.trans s7)),λ_=>⟨km,rfl,x,o,c,Z,ask,int,m,af 0 h.l,hg.mono s7,hs.mono s7,fu sm am,O⟩,λh=>absurd rfl h⟩
 have J:i<ss.length:=by simp_all
 obtain⟨q,hq⟩:∃q,ss[i]? =some q:=⟨_,afJ J⟩;obtain⟨ad,rfl,rs,_,re⟩:=hs i q hq;have b4:=(al q (afI hq)).2;have b7:=D8 hA hq;refine aJ rfl J ⟨_,_,_,_,_,_,rs.at s7 rfl,ag h λa9 w8 h=>aL h rfl (by simp[aK]) λw9 h=>?_⟩;have a6:aj (hp w9) (aM a9) (Uv q):=af 0 h.l
 refine⟨_,_,_,a6.cell sZZ (j:=1) rfl,λz w'=>∃(k:Nat)(m:List (aF×Value)),z=k/\k<=q.2.2.length/\Ea ss m i (q.2.2.take k)/\St w' (az km (wyC x (some ad) ss.length c ask int Z)::mapA Z m::all Y),λz _=>q.2.2.length-z.toNat,
  ⟨0,m,rfl,afL _,O,h.pick 3 [1,2]⟩,?_⟩
 clear h O;rintro _ _ a8⟨k,m,rfl,hk,O,h⟩;have a7:sub (hp Y) (hp a8):=aA 2 h.l;refine ae (λW=>?_) λW=>?_
 rotate_left
 ·have W:k=q.2.2.length:=by grind
  subst W;rw[af7] at O;exact⟨⟨ω,ω⟩,⟨i+1,m,σ,J,O.next hq,h⟩,bY J⟩
 have W:k<q.2.2.length:=by simp_all
 obtain⟨e,b6,he,aa,red⟩:=ph re W;refine aJ aa W ⟨_,_,red.at a7 rfl,ag h λav b3 h=>aL h rfl (by simp[aK]) λb5 h=>?_⟩;intro X hd;have h:=h.eq (aP hd);have a4:aj (hp X) (aM av) [iI e.sym,iI e.to]:=af 0 h.l;have rm:aj (hp X) (aM km) (wyC x (some ad) ss.length c ask int Z):=af 1 h.l;refine⟨λu=>Gr X u,Gr.refl _,_,λu s=>rm.cell s (j:=8) rfl,_,λu s=>a4.cell0 s,_,λu s=>a4.cell s (j:=1) rfl,(qv (κ:=aF) aT (rfl:ai Ty _=.map _ _) gl (h.pick 3 [2,0,1]) ⟨(i:Int),e.sym⟩ _).mono ?_⟩;rintro _ b2 h;have ht:q.2.2.take (k+1)=q.2.2.take k++[e]:=by simp_all[afM]
 have hn:e.sym∉(q.2.2.take k).map (·.sym):=λhm=>by
  have e1:q.2.2.map (·.sym)=(q.2.2.take k).map (·.sym)++e.sym::(q.2.2.drop (k+1)).map (·.sym):=by
   rw[<-agv,<-af8]
   grind[List.take_append_drop]
  grind
 have O:=O.step hn;rw[<-ht] at O;exact⟨⟨ω,ω⟩,⟨k+1,_,σ,W,O,h.pick 3 [2,0]⟩,bY W⟩
end
section
variable{g:ah}{ss:List SQ}
theorem OP(g:ah)(i:Nat)(es:List aH):(gZ g i es).length<=es.length:=by simp[gZ,agp]
theorem Cp(hk:∀q∈ss,q.2.2.length<=130):∀i,(yw g ss i).length<=i*130
 |0=>by simp[yw]
 |i+1=>by
  have:=Cp hk i
  grind[yw,tu,List.length_append,OP,List.mem_of_getElem?]
theorem EZ.P7{a i f:Int}(h:EZ g ss a i f)(hf:f=0):ax g/\bR g ss:=by
 subst hf
 rcases h with⟨_,_,_,_,e⟩|⟨_,_,_,_,_,e⟩|⟨hc,hA,_⟩
 ·omega
 ·omega
 simp_all
def Cq(ss:List SQ)(i:Nat)(s:Int):Int:=(dm ss i s).getD (-1)
end
section
variable{w:ahs}{L:List aC}{g:ah}{x:GA}{ss:List SQ}
theorem OQ{k:Nat}(hw:WyR (hp w) g ss k)(hn:ss.length<=256)(hk:∀q∈ss,q.2.2.length<=130):ρ 339 [vP (some (aM k))] w λv w'=>∃(o:ahr)(c:Nat),v=.slice o (bW g ss).length c/\St w' (own 2 o (bW g ss).length c (KN (bW g ss))::all w):=by
 obtain⟨x,oa,ca,kb,a,int,m,rk,hg,hs,hm,hW⟩:=hw.ex;have a9:g.T=x.tl:=hg.t.1
 refine zj ⟨_,_,_,rk.cell sZZ (j:=5) rfl,λo n c z w'=>∃i:Nat,z=i/\i<=ss.length/\n=(yw g ss i).length/\St w' (own 2 o n c (KN (yw g ss i))::all w),λ_ _ _ z _=>ss.length-z.toNat,
  ⟨0,rfl,afL _,rfl,aI 2 (St.all w)⟩,?_⟩
 rintro _ o2 _ c2 _ w1⟨i,rfl,hi,rfl,h⟩;have s1:sub (hp w) (hp w1):=aA 1 h.l;refine ae (λO=>?_) λO=>?_
 rotate_left
 ·have O:i=ss.length:=by grind
  subst O;refine iQ (b9 (bI h) ⟨_,_,_,rfl,_,_,rfl,cj h⟩)
 have O:i<ss.length:=by simp_all
 obtain⟨q,hq⟩:∃q,ss[i]? =some q:=⟨_,afJ O⟩;obtain⟨ad,rfl,rs,_,re⟩:=hs i q hq;have a5:=hk q (afI hq);have aa:=Cp (g:=g) hk i;refine aJ rfl O ⟨_,_,_,_,_,_,rs.at s1 rfl,ag h λk9 w2 h=>aL h rfl (by simp[aK]) λw3 h=>?_⟩;have r9:aj (hp w3) (aM k9) (Uv q):=af 0 h.l
 refine⟨_,_,_,r9.cell sZZ (j:=1) rfl,λo n c z w'=>∃(j:Nat),z=j/\j<=q.2.2.length/\n=(yw g ss i++gZ g i (q.2.2.take j)).length/\St w' (own 2 o n c (KN (yw g ss i++gZ g i (q.2.2.take j)))::all w),λ_ _ _ z _=>q.2.2.length-z.toNat,
  ⟨0,rfl,afL _,by simp[gZ],by simpa[gZ] using(show St w3 (own 2 o2 (yw g ss i).length c2 (KN (yw g ss i))::all w) from h.pick 2 [1])⟩,?_⟩
 clear h;rintro _ o6 _ c6 _ w4⟨j,rfl,hj,rfl,h⟩;have s4:sub (hp w) (hp w4):=aA 1 h.l;have a0:=OP g i (q.2.2.take j);rw[agj] at a0;refine ae (λJ=>?_) λJ=>?_
 rotate_left
 ·have J:j=q.2.2.length:=by grind
  subst J;rw[af7] at h ⊢;exact⟨⟨ω,ω⟩,⟨i+1,σ,O,by rw[tu hq],by simp_all[tu]⟩,bY O⟩
 have J:j<q.2.2.length:=by simp_all
 obtain⟨e,a8,he,Z,red⟩:=ph re J;have ht:q.2.2.take (j+1)=q.2.2.take j++[e]:=by simp_all[afM]
 refine aJ Z J ⟨_,_,red.at s4 rfl,ag h λW w5 h=>aL h rfl (by simp[aK]) λw6 h=>?_⟩;intro X hd;have h:=h.eq (aP hd);have V:aj (hp X) (aM W) [iI e.sym,iI e.to]:=af 0 h.l;have s7:sub (hp w) (hp X):=aA 2 h.l
 refine⟨λu=>Gr X u,Gr.refl _,_,λu s=>V.cell0 s,_,_,_,λu s=>rk.cell0 (sub.trans s7 s),ae (λU=>?_) λU=>?_⟩
 ·have U:(g.T:Int)<=e.sym:=by simp_all
  have z1:((yw g ss i++gZ g i (q.2.2.take j)).length+1)*16<=140737488355328/\(yw g ss i++gZ g i (q.2.2.take j)).length<9223372036854775807:=by grind
  refine⟨_,V.cell0 sZZ,ag h λa4 a6 h=>?_⟩;refine(aU (us:=KN (yw g ss i++gZ g i (q.2.2.take j))) aT (rfl:ai Ty _=.slice _) (rfl:ai Ty _=.slice _) rfl rfl rfl (h.pick 3 [0,2]) rfl (by simp[aK]) z1.1 z1.2).mono ?_;rintro _ a7⟨o8,c8,rfl,h⟩;have Y:gZ g i (q.2.2.take (j+1))=gZ g i (q.2.2.take j)++[⟨(i:Int),e.sym⟩]:=by rw[ht,KO,afZ U]
  have e3:KN (yw g ss i++gZ g i (q.2.2.take (j+1)))=KN (yw g ss i++gZ g i (q.2.2.take j))++[iI (i:Int),iI e.sym]:=by rw[Y,<-af0,aai];rfl
  refine⟨_,_,_,rfl,⟨ω,ω⟩,⟨j+1,σ,J,by grind,?_⟩,bY J⟩;rw[e3];exact h.pick 2 [0]
 ·have U:¬(g.T:Int)<=e.sym:=by simp_all
  have Y:gZ g i (q.2.2.take (j+1))=gZ g i (q.2.2.take j):=by rw[ht,KO,afV U]
  exact⟨⟨ω,ω⟩,⟨j+1,σ,J,by grind,by rw[Y];exact h.pick 2 [1]⟩,bY J⟩
theorem Xc(hg:gR (hp w) g x)(hb:mi g):ρ 289 [.agg ⟨x.cells⟩] w λv w'=>∃(ss:List SQ)(ask int f:Int)(o:ahr)(c:Nat),v=.tuple #[.slice o (bW g ss).length c,iI f]/\EZ g ss ask int f/\St w' (own 2 o (bW g ss).length c (KN (bW g ss))::all w):=by
 refine HQ (gH hg λY Z gw hg B=>?_);refine⟨_,_,_,_,_,_,_,_,_,_,_,_,_,B.row sZZ,(Xb hg hb).mono ?_⟩;rintro _ w2⟨ss,ask,int,f,p,rfl,J,g2,h0,hn⟩
 refine⟨_,_,rfl,ae (λu=>?_) λu=>?_⟩
 ·have u:f≠0:=by simp_all
  have U:ss=[]:=by rcases J with⟨_,e,_⟩|⟨_,_,e,_⟩|⟨_,_,_,_,e⟩<;>first|omega|omega
  subst U;exact⟨[],ask,int,f,none,0,rfl,J,aI 2 (St.here (gw.trans g2))⟩
 have u:f=0:=by simp_all
 obtain⟨k,rfl,W⟩:=h0 u;obtain⟨hc,hA⟩:=J.P7 u;have O:=hA.JW hc;refine(OQ W hA.dn.2.1 λq V=>(O q V).2).mono ?_;rintro _ X⟨o,c,rfl,h⟩;subst u;exact⟨_,_,_,rfl,ss,ask,int,0,o,c,rfl,J,St.fb h (bH (gw.trans g2))⟩
end
theorem fe{g:ah}{ss:List SQ}(hc:ax g)(hA:bR g ss){i:Nat}{s j:Int}(h:dm ss i s=some j):0<=j/\j<ss.length:=by
 obtain⟨q,k,e,J,u,rfl,rfl⟩:=qB h;obtain⟨_,_,n,r,hn,U,O,_⟩:=fv hc hA J u
 grind
section
variable{g:ah}{ss:List SQ}
def FR(g:ah)(es:List aH):List Int:=(es.filter λe=>decide (e.sym<(g.T:Int))).map (·.sym)
theorem OR{es:List aH}{e:aH}:FR g (es++[e])=if e.sym<(g.T:Int) then FR g es++[e.sym] else FR g es:=by grind[FR]
theorem aaj(g:ah)(es:List aH):(FR g es).length<=es.length:=by simp[FR,agp]
def oh(g:ah)(t:aF):List Int:=if t=⟨0,g.start⟩ then[0] else[]
theorem Xd(g:ah)(t:aF):(oh g t).length<=1:=by grind[oh]
theorem kX{t:aF}:∀{n:Nat},t∈yw g ss n->∃(i:Nat)(q:SQ)(k:Nat)(e:aH),i<n/\ss[i]? =some q/\q.2.2[k]? =some e/\(g.T:Int)<=e.sym/\t=⟨(i:Int),e.sym⟩
 |0,h=>by grind[yw]
 |n+1,h=>by
  cases hq:ss[n]? with
  |none=>
   simp[yw,hq] at h
   obtain⟨i,q,k,e,h1,h2⟩:=kX h
   grind
  |some q=>
   rw[tu hq,afT] at h
   rcases h with h|h
   ·obtain⟨i,q,k,e,h1,h2⟩:=kX h
    grind
   ·unfold gZ at h
    obtain⟨e,he,rfl⟩:=afW.1 h
    obtain⟨h1,h2⟩:=agi.1 he
    obtain⟨k,hk⟩:=agb h1
    grind
theorem HR{t:aF}{j:Nat}{q:SQ}(h:dm ss t.st.toNat t.sym=some (j:Int))(hq:ss[j]? =some q):kj g ss t=oh g t++FR g q.2.2:=by
 unfold kj;rw[h]
 show _++(match ss[(j:Int).toNat]? with|none=>[]|some q=>_)=_
 rw[afU,hq];rfl
end
section
variable{w:ahs}{L:List aC}{g:ah}{x:GA}{ss:List SQ}
theorem aak(w:ahs)(xo yo:Operand)(x y:aF):Sem.run Tryz.prog (qH .eql nY xo yo (.agg ⟨HN x⟩) (.agg ⟨HN y⟩)) w=.ok (vB (decide (x=y))) w:=by
 unfold qH;rw[Sem.run_bind,run_eqGuard_agg w _ _ _ _ _ _ JA];simp only[Result.andThen_ok];rw[run_eql_struct]
 have e:decide (x=y)=decide (x.st=y.st/\x.sym=y.sym):=by
  cases x;cases y;simp
 rw[e]
 show((Op.equal nY (.agg #[iI x.st,iI x.sym]) (.agg #[iI y.st,iI y.sym])).run Tryz.prog w).andThen _=_
 rw[Xa KQ];rfl
theorem Q5(hg:gR (hp w) g x)(hb:mi g):ρ pk [.agg ⟨x.cells⟩] w λv w'=>∃(ss:List SQ)(ask int f:Int)(o:ahr)(c:Nat)(ds:List (Lq Int)),v=.tuple #[vS o ds.length c,iI f]/\EZ g ss ask int f/\ds.map (·.2)=(bW g ss).map (kj g ss)/\St w' (own 1 o ds.length c (ds.map bS)::aV (ds.map (bG 1 iv))::all w):=by
 refine D_ (gH hg λk1 w1 gw hg B=>?_);refine⟨_,_,_,_,_,_,_,_,_,_,_,_,_,B.row sZZ,(Xb hg hb).mono ?_⟩;rintro _ w2⟨ss,ask,int,f,p,rfl,hR,g2,h0,hn⟩
 refine⟨_,_,rfl,ae (λU=>?_) λU=>?_⟩
 ·have U:f≠0:=by simp_all
  have hz:ss=[]:=by rcases hR with⟨_,e,_⟩|⟨_,_,e,_⟩|⟨_,_,_,_,e⟩<;>first|omega|omega
  subst hz;exact⟨[],ask,int,f,none,0,[],rfl,hR,rfl,aI 1 ((St.flat (M:=[])).2 (St.here (gw.trans g2)))⟩
 have U:f=0:=by simp_all
 subst U;obtain⟨k,rfl,hw⟩:=h0 rfl;obtain⟨hc,hA⟩:=hR.P7 rfl;have a6:=hA.JW hc;have ad:=hA.dn.2.1;have b3:=Cp (g:=g) (λq hq=>(a6 q hq).2) ss.length;refine(OQ hw ad λq hq=>(a6 q hq).2).mono ?_;rintro _ J⟨oL,cL,rfl,h⟩;have g3:Gr w2 J:=aA 1 h.l;have rL:aY (hp J) (bW g ss) oL (bW g ss).length:=Gj rfl (dE 0 h.l);clear h;obtain⟨x',oa,ca,kb,a',bi,m,rk,cz,hs,hm,hW⟩:=(hw.mono g3).ex;have a5:Gr w1 J:=g2.trans g3;have cu:g.T=x.tl:=hg.t.1;have cC:x.s=g.start:=hg.s
 refine⟨_,_,_,rfl,λo n c z w'=>∃(i:Nat)(ds:List (Lq Int)),z=i/\i<=(bW g ss).length/\n=ds.length/\ds.map (·.2)=((bW g ss).take i).map (kj g ss)/\St w' (own 1 o n c (ds.map bS)::aV (ds.map (bG 1 iv))::all J),λ_ _ _ z _=>(bW g ss).length-z.toNat,
  ⟨0,[],rfl,afL _,rfl,rfl,aI 1 ((St.flat (M:=[])).2 (St.all J))⟩,?_⟩
 rintro _ o7 _ c7 _ w4⟨i,ds,rfl,hi,rfl,a4,h⟩;have s4:sub (hp J) (hp w4):=aA 2 h.l;have d3:ds.length=i:=by have:=congrArg List.length a4;grind
 have d4:(bW g ss).length<=ss.length*130:=b3;refine ae (λU=>?_) λU=>?_
 rotate_left
 ·have U:i=(bW g ss).length:=by grind
  rw[U,af7] at a4;refine g_ (b9 (bI h) ⟨_,_,_,rfl,ss,ask,int,0,_,_,ds,rfl,hR,a4,?_⟩);exact St.N0 (cj h) (bH (gw.trans a5))
 have U:i<(bW g ss).length:=by simp_all
 obtain⟨t,c5,ht,bb,rt⟩:=xO rL U;obtain⟨i0,q0,k0,e0,ck,d0,cA,cd,cc⟩:=kX (afI ht);have Z:dm ss t.st.toNat t.sym=some e0.to:=by grind[Cn]
 obtain⟨be,a7⟩:=fe hc hA Z;obtain⟨j0,b4⟩:∃j0:Nat,e0.to=j0:=⟨e0.to.toNat,ω⟩;rw[b4] at Z a7;have am:j0<ss.length:=ω
 obtain⟨r,hr⟩:∃r,ss[j0]? =some r:=⟨_,afJ am⟩;have al:kj g ss t=oh g t++FR g r.2.2:=HR Z hr;have cT:=(a6 r (afI hr)).2;have bA:=Xd g t;have aa:0<=t.st:=by simp_all
 have cI:(bW g ss).take (i+1)=(bW g ss).take i++[t]:=by simp_all[afM]
 obtain⟨bz,rfl,rs,_,re⟩:=hs j0 r hr;refine aJ bb U ⟨_,_,rt.at s4 rfl,ag h λX w5 h=>aL h rfl (by simp[aK]) λw6 h=>?_⟩;have h:St w6 (az X (HN t)::own 1 o7 ds.length c7 (ds.map bS)::aV (ds.map (bG 1 iv))::all J):=h;have V:aj (hp w6) (aM X) (HN t):=af 0 h.l;have s6:sub (hp J) (hp w6):=aA 3 h.l
 refine⟨λo n c w'=>n=(oh g t).length/\St w' (own 1 o n c (iv (oh g t))::az X (HN t)::own 1 o7 ds.length c7 (ds.map bS)::aV (ds.map (bG 1 iv))::all J),⟨_,_,V.at sZZ rfl,_,B.c3 (sub.trans a5 s6),_,aak w6 _ _ t ⟨0,x.s⟩,_,rfl,ae (λO=>?_) λO=>?_⟩,?_⟩
 ·have O:t=⟨0,g.start⟩:=by simp_all
  have e:oh g t=[0]:=by simp_all[oh]
  refine ag h λcF w7 h=>?_;refine(aU (us:=[]) aT (rfl:ai Ty _=.slice _) (rfl:ai Ty _=.slice _) rfl rfl rfl ((aI 1 h).pick 5 [1,0,2,3,4]) rfl (by simp[aK]) σ σ).mono ?_;rintro _ w8⟨o8,c8,rfl,h⟩;rw[e];exact⟨_,_,_,rfl,rfl,h.pick 5 [0,2,3,4]⟩
 ·have O:¬t=⟨0,g.start⟩:=by simp_all
  have e:oh g t=[]:=by simp_all[oh,afV]
  rw[e];exact⟨rfl,aI 1 h⟩
 clear h V s6;rintro _ o9 _ c9 w9⟨rfl,h⟩;intro W hd;have h:=h.eq (aP hd);have Y:sub (hp J) (hp W):=aA 4 h.l;have V:aj (hp W) (aM X) (HN t):=af 1 h.l;refine⟨λu=>Gr W u,Gr.refl _,_,_,_,λu s=>rk.cell (sub.trans Y s) (j:=5) rfl,_,λu s=>rk.cell (sub.trans Y s) (j:=8) rfl,_,_,λu s=>V.at s rfl,(eJ (κ:=aF) hm Y aT (rfl:ai Ty _=.map _ _) gl rfl rfl t).mono ?_⟩;rintro _ ci⟨rfl,b7⟩;rw[b7];rw[hW.all aa,Z]
 refine⟨_,rfl,λu=>Gr W u,Gr.refl _,λ_ h=>h,aJ rfl am ⟨_,_,_,λu s=>rs.cell (sub.trans Y s) (j:=1) rfl,λo n c z w'=>∃j:Nat,z=j/\j<=r.2.2.length/\n=(oh g t++FR g (r.2.2.take j)).length/\
  St w' (own 1 o n c (iv (oh g t++FR g (r.2.2.take j)))::own 1 o7 ds.length c7 (ds.map bS)::aV (ds.map (bG 1 iv))::all J),λ_ _ _ z _=>r.2.2.length-z.toNat,
  ⟨0,rfl,afL _,by simp[FR],by simpa[FR] using(show St W (own 1 o9 (oh g t).length c9 (iv (oh g t))::own 1 o7 ds.length c7 (ds.map bS)::aV (ds.map (bG 1 iv))::all J) from h.pick 4 [0,2,3])⟩,?_⟩⟩
 clear h V;rintro _ a0 _ bl _ b5⟨j,rfl,hj,rfl,h⟩;have b8:sub (hp J) (hp b5):=aA 3 h.l;have bc:=aaj g (r.2.2.take j);rw[agj] at bc
 refine ae (λO=>?_) λO=>?_
 ·have O:j<r.2.2.length:=by simp_all
  obtain⟨e,cm,he,b1,red⟩:=ph re O;have bB:r.2.2.take (j+1)=r.2.2.take j++[e]:=by simp_all[afM]
  refine aJ b1 O ⟨_,_,red.at b8 rfl,ag h λk26 c6 h=>aL h rfl (by simp[aK]) λa9 h=>?_⟩;have a8:aj (hp a9) (aM k26) [iI e.sym,iI e.to]:=af 0 h.l;have b6:sub (hp J) (hp a9):=aA 4 h.l
  refine⟨_,a8.cell0 sZZ,_,_,_,B.c0 (sub.trans a5 b6),ae (λh3=>?_) λh3=>?_⟩
  ·have h3:e.sym<(g.T:Int):=by simp_all
   have z1:((oh g t++FR g (r.2.2.take j)).length+1)*8<=140737488355328/\(oh g t++FR g (r.2.2.take j)).length<9223372036854775807:=by grind
   refine⟨_,a8.cell0 sZZ,ag h λcp cg h=>?_⟩;refine(aU (us:=iv (oh g t++FR g (r.2.2.take j))) aT (rfl:ai Ty _=.slice _) (rfl:ai Ty _=.slice _) rfl rfl rfl (h.pick 5 [0,2,3,4]) rfl (by simp[aK]) z1.1 z1.2).mono ?_;rintro _ d5⟨bT,bP,rfl,h⟩;have e2:oh g t++FR g (r.2.2.take (j+1))=oh g t++FR g (r.2.2.take j)++[e.sym]:=by simp_all[OR]
   have e3:iv (oh g t++FR g (r.2.2.take (j+1)))=iv (oh g t++FR g (r.2.2.take j))++[iI e.sym]:=by simp_all[iv]
   refine⟨_,_,_,rfl,⟨ω,ω⟩,⟨j+1,σ,O,by grind,?_⟩,bY O⟩;rw[e3];exact h.pick 4 [0,2,3]
  ·have h3:¬e.sym<(g.T:Int):=by simp_all
   have e2:FR g (r.2.2.take (j+1))=FR g (r.2.2.take j):=by simp_all[OR,afV]
   exact⟨⟨ω,ω⟩,⟨j+1,σ,O,by grind,by rw[e2];exact h.pick 4 [1,2,3]⟩,bY O⟩
 have O:j=r.2.2.length:=by grind
 rw[O,af7,<-al] at h ⊢;refine bq (b9 (bI h) ⟨_,_,_,rfl,?_⟩);have h:=cj h;refine ag h λch cx h=>?_;have z1:(ds.length+1)*24<=140737488355328/\ds.length<9223372036854775807:=ω
 refine(aU (us:=ds.map bS) aT (rfl:ai Ty _=.slice _) (rfl:ai Ty _=.slice _) rfl rfl rfl (h.pick 4 [0,2,1,3]) rfl (by simp[aK]) z1.1 z1.2).mono ?_;rintro _ ba⟨b2,av,rfl,h⟩;have h:=St.snoc (h.pick 4 [2,3,0]);refine⟨_,_,_,rfl,⟨ω,ω⟩,⟨i+1,ds++[((fE a0 0 (kj g ss t).length 1,(kj g ss t).length),kj g ss t)],σ,U,σ,by simp_all,?_⟩,bY U⟩;have h3:St ba (own 1 b2 (ds.length+1) av (ds.map bS++[.slice (fE a0 0 (kj g ss t).length 1) (kj g ss t).length (kj g ss t).length])::aV (ds.map (bG 1 iv)++[own 1 (fE a0 0 (kj g ss t).length 1) (kj g ss t).length (kj g ss t).length (iv (kj g ss t))])::all J):=h.pick 2 [1,0]
 simp_all[bS,bG]
end
section
variable{g:ah}{ss ss':List SQ}
theorem Xe(h:cr ss=cr ss')(i:Nat):(ss[i]?).map (λq=>q.2.2)=(ss'[i]?).map λq=>q.2.2:=by
 have:=congrArg (λl=>l[i]?) h
 grind[cr]
theorem HS(h:cr ss=cr ss')(i:Nat)(s:Int):dm ss i s=dm ss' i s:=by grind[Xe,dm]
theorem Xf(h:cr ss=cr ss'):∀i,yw g ss i=yw g ss' i
 |0=>rfl
 |i+1=>by
  have:=Xe h i
  show yw g ss i++_=yw g ss' i++_
  rw[Xf h i]
  grind
theorem My(h:cr ss=cr ss'):ss.length=ss'.length:=by have:=congrArg List.length h;grind[cr]
theorem xP(h:cr ss=cr ss'):bW g ss=bW g ss':=by grind[bW,My,Xf]
theorem Xg(h:cr ss=cr ss')(t:aF):kj g ss t=kj g ss' t:=by grind[kj,HS,dm,Xe]
theorem Mz(h:cr ss=cr ss'):∀(l:List Int)(q:Int),dy ss q l=dy ss' q l
 |[],q=>rfl
 |s::l,q=>by
  unfold dy
  rw[HS h]
  cases dm ss' q.toNat s with
  |none=>rfl
  |some j=>exact Mz h l j
end
section
variable{g:ah}{ss:List SQ}
theorem SU:∀(n i:Nat),i<=n->∃t,yw g ss n=yw g ss i++t
 |0,i,h=>⟨[],by simp_all⟩
 |n+1,i,h=>by
  by_cases e:i=n+1
  ·simp_all
  ·obtain⟨t,ht⟩:=SU n i ω
   exact⟨t++(match ss[n]? with|some q=>gZ g n q.2.2|none=>[]),by rw[<-af0,<-ht];rfl⟩
theorem Xh(i:Nat)(a b:List aH):gZ g i (a++b)=gZ g i a++gZ g i b:=by simp[gZ]
theorem Q6{i:Nat}{q:SQ}(hq:ss[i]? =some q){j:Nat}{e:aH}(he:q.2.2[j]? =some e)(h:(g.T:Int)<=e.sym):(bW g ss)[(yw g ss i++gZ g i (q.2.2.take j)).length]? =some ⟨(i:Int),e.sym⟩:=by
 have hi:=(afK.1 hq).1;obtain⟨t,ht⟩:=SU (g:=g) (ss:=ss) ss.length (i+1) ω;have J:q.2.2=q.2.2.take j++e::q.2.2.drop (j+1):=by grind[List.getElem?_eq_some_iff,List.drop_eq_getElem_cons,List.take_append_drop]
 have u:gZ g i q.2.2=gZ g i (q.2.2.take j)++⟨(i:Int),e.sym⟩::gZ g i (q.2.2.drop (j+1)):=by grind[Xh,gZ,List.filter_cons_of_pos]
 unfold bW;rw[ht,tu hq,u,<-af0,af0,agf (afR _),agX];rfl
end
section
variable{g:ah}{ss:List SQ}
theorem Xi(W:Nat->Bool)(n:Nat):(List.range (n+1)).filter W=(List.range n).filter W++if W n=true then[n] else[]:=by grind[List.range_succ]
def wnt(g:ah)(ss:List SQ)(t:aF)(j n:Nat):Bool:=if n=0 then decide (t=⟨0,g.start⟩) else(dm ss j n).isSome
theorem tz(h:bR g ss){j:Nat}{r:SQ}(hr:ss[j]? =some r){n:Nat}(hn:n<g.T+g.N):(dm ss j (n:Int)).isSome=decide (bx g r.1.2 (n:Int)≠[]):=by
 have u:=HO h hr;rw[tw hr,Option.isSome_map,agM,aga,List.find?_isSome]
 constructor
 ·rintro⟨e,O,J⟩;have J:e.sym=n:=afO J;have:e.sym∈r.2.2.map (·.sym):=afW.2 ⟨e,O,rfl⟩
  grind[Int.ofNat.inj,yp]
 ·intro U
  have:(n:Int)∈r.2.2.map (·.sym):=by
   rw[u];exact afW.2 ⟨n,agi.2 ⟨agd.2 hn,agt U⟩,rfl⟩
  grind
theorem Xj:∀(T N:Nat)(p:Nat->Bool),((List.range (T+N)).filter p).filter (λn=>decide (n<T))=(List.range T).filter p
 |T,0,p=>by simp_all[Nat.add_zero,List.filter_filter,ag_]
 |T,N+1,p=>by
  rw[<-Nat.add_assoc,Xi,ago,Xj T N p]
  simp
theorem Xk(h:bR g ss){j:Nat}{r:SQ}(hr:ss[j]? =some r):FR g r.2.2=((List.range g.T).filter λn=>decide (bx g r.1.2 (n:Nat)≠[])).map Int.ofNat:=by
 have u:=HO h hr
 have O:FR g r.2.2=(r.2.2.map (·.sym)).filter λs=>decide (s<(g.T:Int)):=by
  unfold FR;rw[List.filter_map];rfl
 have J:=Xj g.T g.N λn=>decide (bx g r.1.2 (n:Nat)≠[]);rw[O,u,List.filter_map,<-J];congr 1;refine ag_ λn hn=>?_;simp
theorem aal(hc:ax g)(h:bR g ss){t:aF}{j:Nat}{r:SQ}(hr:ss[j]? =some r):oh g t++FR g r.2.2=((List.range g.T).filter (wnt g ss t j)).map Int.ofNat:=by
 obtain⟨Y,hN,hP,J,X,_⟩:=hc.cX;have O:=(mq h hr).1;have hf:=(jC (g:=g) ω j).fit _ (afI O);have h0:=acP hc hf;rw[Xk h hr];obtain⟨T,u⟩:∃T,g.T=T+1:=⟨g.T-1,ω⟩;rw[u,List.range_succ_eq_map];have U:((0::(List.range T).map Nat.succ).filter λn=>decide (bx g r.1.2 (n:Nat)≠[]))=((List.range T).map Nat.succ).filter λn=>decide (bx g r.1.2 (n:Nat)≠[]):=by simp_all
 have W:((List.range T).map Nat.succ).filter (wnt g ss t j)=((List.range T).map Nat.succ).filter λn=>decide (bx g r.1.2 (n:Nat)≠[]):=by
  refine ag_ λn hn=>?_;obtain⟨m,V,rfl⟩:=afW.1 hn;rw[agd] at V;unfold wnt;rw[afV ω,tz h hr ω]
 rw[U];unfold oh
 by_cases ht:t=⟨0,g.start⟩
 ·simp_all[List.filter_cons_of_pos,wnt]
 simp_all[List.filter_cons_of_neg,wnt]
end
section
variable{g:ah}{ss:List SQ}
theorem oI(q s:Int)(l:List Int):dy ss q (s::l)=match dm ss q.toNat s with|none=>-1|some j=>dy ss j l:=rfl
theorem Cr(hn:∀i s j,dm ss i s=some j->0<=j/\j<ss.length):∀(l:List Int)(q:Int),0<=q->q<ss.length->dy ss q l=-1\/(0<=dy ss q l/\dy ss q l<ss.length)
 |[],q,h1,h2=>.inr ⟨h1,h2⟩
 |s::l,q,h1,h2=>by
  unfold dy
  cases h:dm ss q.toNat s with
  |none=>simp
  |some j=>exact Cr hn l j (hn _ _ _ h).1 (hn _ _ _ h).2
theorem Ct(hn:∀i s j,dm ss i s=some j->0<=j/\j<ss.length)(b:List Int):∀(l:List Int)(q:Int),0<=q->q<ss.length->dy ss q (l++b)=if dy ss q l=-1 then-1 else dy ss (dy ss q l) b
 |[],q,h1,h2=>by
  show dy ss q b=if q=-1 then-1 else dy ss q b
  omega
 |s::l,q,h1,h2=>by
  show dy ss q (s::(l++b))=_
  rw[oI q s (l++b),oI q s l]
  cases h:dm ss q.toNat s with
  |none=>simp
  |some j=>exact Ct hn b l j (hn _ _ _ h).1 (hn _ _ _ h).2
end
section
variable{g:ah}{ss:List SQ}
theorem yx(hc:ax g)(hA:bR g ss){i:Nat}{q:SQ}(hq:ss[i]? =some q){y:au}{s:Int}(hy:wi g q.1.2 y)(hs:mQ g y=s)(h0:0<=s):∃(j:Nat)(r:SQ),dm ss i s=some (j:Int)/\ss[j]? =some r/\(⟨y.prod,y.dot+1⟩:au)∈r.1.2:=by
 obtain⟨hT,hN,hP,V,_,_⟩:=hc.cX;have W:=(mq hA hq).1;have hf:=(jC (g:=g) ω i).fit _ (afI W);have Y:(⟨y.prod,y.dot+1⟩:au)∈bx g q.1.2 s:=dW.2 ⟨y,hy,hs,rfl⟩;have J:bx g q.1.2 s≠[]:=List.ne_nil_of_mem Y;have U:=xI hc hf h0 J;obtain⟨n,rfl⟩:∃n:Nat,s=n:=⟨s.toNat,ω⟩;have u:=tz hA hq (n:=n) ω;rw[agt J] at u;obtain⟨t,ht⟩:=ahh.1 u;obtain⟨q',k,e,O,he,Z,X⟩:=qB ht
 grind[fv]
theorem AW(hc:ax g)(hA:bR g ss){n:Nat}{p:aO}(hp:g.prods[n]? =some p):∀(d m:Nat),m+d=p.right.length->∀(i:Nat)(q:SQ),ss[i]? =some q->wi g q.1.2 ⟨(n:Int),(m:Int)⟩->
  ∃(j:Nat)(r:SQ),dy ss (i:Int) (p.right.drop m)=(j:Int)/\ss[j]? =some r/\wi g r.1.2 ⟨(n:Int),(p.right.length:Int)⟩
 |0,m,hm,i,q,hq,hy=>⟨i,q,by rw[List.drop_of_length_le ω];rfl,hq,by simp_all⟩
 |d+1,m,hm,i,q,hq,hy=>by
  have hlt:m<p.right.length:=ω
  have hpm:p∈g.prods:=afI hp
  have hs:mQ g ⟨(n:Int),(m:Int)⟩=p.right[m]:=by simp_all[wR]
  have hsy:=hc.sym hpm (ahd hlt)
  obtain⟨j,r,h1,h2,h3⟩:=yx hc hA hq hy hs ω
  have h4:wi g r.1.2 ⟨(n:Int),((m+1:Nat):Int)⟩:=.base (by simp_all)
  obtain⟨j',r',e1,e2,e3⟩:=AW hc hA hp d (m+1) ω j r h2 h4
  grind[List.drop_eq_getElem_cons,oI,Int.toNat_natCast]
theorem aam(hc:ax g)(hA:bR g ss){i:Nat}{q:SQ}(hq:ss[i]? =some q){n:Nat}{p:aO}(hp:g.prods[n]? =some p)(hy:wi g q.1.2 ⟨(n:Int),0⟩):(dm ss i p.left).isSome=decide (n≠0):=by
 have W:=hc;obtain⟨_,a4,V,p0,U,Z,X,_⟩:=W;obtain⟨hT,hN,hP,a6,_,a5⟩:=hc.cX
 have O:∀(m:Nat) J,g.prods[m]? =some J->m≠0->Hi g 1 J:=λm J hm h0=>by
  refine V.2.2.1 J (afI (i:=m-1) ?_)
  grind
 by_cases h0:n=0
 ·subst h0;rw[U] at hp;cases hp;rw[Z,tz hA hq ω];have hK:=(mq hA hq).1;have hf:=(jC (g:=g) ω i).fit _ (afI hK)
  have:bx g q.1.2 (g.T:Int)=[]:=by
   refine agD λa0=>?_;obtain⟨x,hx⟩:=agP _ a0;obtain⟨y,h1,h2,_⟩:=dW.1 hx;obtain⟨J,u,_,h3⟩:=L0 (h1.fit hf) h2 (agu _)
   by_cases h4:y.prod.toNat=0
   ·rw[h4,U] at u;cases u;rw[X] at h3;have:=afI h3;rw[af_] at this;have:=V.2.2.2.2.1;omega
   ·have:=(O _ _ u h4).2 _ (afI h3)
    grind[oW]
  simp_all
 ·have a7:=O n p hp h0
  have Y:∃j:Int,dm ss i p.left=some j:=by
   generalize hz:(⟨(n:Int),0⟩:au)=z at hy;cases hy with
   |base h=>
    subst hz;cases i with
    |zero=>
     have hK:=(mq hA hq).1
     have e:q.1.2=[⟨0,0⟩]:=by
      have:(fK g 0).1[0]? =some [⟨0,0⟩]:=rfl
      simp_all
     simp_all
    |succ i=>
     have:=(aag hc hA ω hq h).2.1
     simp_all
   |step hy' h1 u hl'=>
    rename_i y i' J;have e:i'=n:=by grind
    grind[yx]
  grind
end
section
variable{g:ah}{ss:List SQ}
theorem Uz{h:Hp}{xs:List au}{a:ahr}{l:Nat}(r:aY h xs a l){i:Nat}(hi:i<l):∃x ad,xs[i]? =some x/\a=some ad/\aj h (ad.add (eV i 2)) (eW x):=by
 obtain⟨x,ad,vs,J,ha,u,e⟩:=r.get hi;rw[show vs=eW x from e] at u;exact⟨x,ad,J,ha,u⟩
end
section
variable{a b c d:ahr}{i j k l m n o p:Nat}{A:Int}{w:ahs}{R:Value->WP}
theorem AY(h:new w (ψ a i j b k l c m n A d o p) λa b=>χ b (aM a) λc=>rEb 267 [c] b λd c=>br (!d) (R (vU [vS none 0 0,iI 1]) c) (∀b,drawn c b->∃(c:WP),c b/\∃d e f g h i j k l m n o p,(∀b,c b->rA b (aM a) 5 [vS d e f,vS g h i,vS j k l,iI m,vS n o p])/\∃q r s,(∀b,c b->cL b (aM a) (vS q r s))/\rEp 268 [vG [vS d e f,vS g h i,vS j k l,iI m,vS n o p]] b λd b=>∃(a:WP),a b/\(∀b,a b->c b)/\nn d λc=>∃d e f,(∀b,a b->cL b (c.add 5) (vS d e f))/\lV d e f (some (r:Int)) none none 1 λ(a:ahr)(c d:Nat)=>R (vU [vS a c d,iI 0]) b)):ρ 179 [φ a i j b k l c m n A d o p] w R:=rv Tryz.func179 ⟨[],[],[],[]⟩ h
theorem Ec(h:new w (ψ a i j b k l c m n A d o p) λa b=>χ b (aM a) λc=>rEb 166 [c] b λd c=>br d (R (vB true) c) (χ c (aM a) λa=>rEb 81 [a] c λc b=>R (vB c) b)):ρ 267 [φ a i j b k l c m n A d o p] w R:=rv Tryz.func267 ⟨[],[],[],[]⟩ h
theorem MB(h:new w (ψ a i j b k l c m n A d o p) λa b=>cLs b (aM a) λc d e=>cLs b (Addr.add (aM a) 1) λc e f=>aD ((d:Int)+(e:Int))/\∀c,drawn b c->∃(b:WP),b c/\∃f g h i j k l m n o p q r,(∀c,b c->rA c (aM a) 5 [vS f g h,vS i j k,vS l m n,iI o,vS p q r])/\vd ((d:Int)+(e:Int)) ((d:Int)+(e:Int)) 1/\new c (Obj.cells (Array.mk (iX (Int.toNat ((d:Int)+(e:Int))) [vB false])) 4) λc s=>b s/\new s (oC [vS f g h,vS i j k,vS l m n,iI o,vS p q r,vS (some (aM c)) (Int.toNat ((d:Int)+(e:Int))) (Int.toNat ((d:Int)+(e:Int))),vS none 0 0] 422) λc f=>b f/\τ [(24,aN)] λb g=>b 0 f/\∀(_:ν) f h,b f h->bQ (f<(d:Int)+(e:Int)) (∀d,drawn h d->∃(e:WP),e d/\∃i j k,(∀a,e a->cL a (Addr.add (aM c) 6) (vS i j k))/\∃l m n,(∀b,e b->cL b (aM a) (vS l m n))/\new d (oC [iI f] 3) λa d=>e d/\rEp 102 [iI (m:Int),vS (some (aM a)) 1 1] d λl d=>e d/\new d (oC [vP l] 178) λa d=>e d/\rS (fX 179 (Array.mk [vS i j k,vS (some (aM a)) 1 1])) d λa d=>∃i j k,a=vS i j k/\e d/\st1 d (Addr.add (aM c) 6) (vS i j k) λa=>aD (f+1)/\b (f+1) a/\g (f+1) a<g f h) (τ [(6,aN)] λb d=>b 1 h/\∀(_:ν) e f,b e f->bQ (0<e) (cLs f (Addr.add (aM a) 4) λg h i=>τ [(6,aN),(48,aN)] λa i=>a 0 0 f/\∀(_:ν) j k l,a j k l->bQ (k<(h:Int)) (idx g h k 3 λb=>∃d e f g h,rA l b 3 [iI d,vS e f g,iI h]/\new l (oC [iI 0,vS none 0 0,iI 0] 134) λb m=>bC m (aM b) [iI d,vS e f g,iI h] λd=>∀e,drawn d e->∃(d:WP),d e/\∃f g h,(∀a,d a->cL a (Addr.add (aM c) 6) (vS f g h))/\∃h,(∀a,d a->cL a (aM b) (iI h))/\idx f g h 1 λf=>∃g,(∀a,d a->cL a f (vP g))/\∃f h m,(∀a,d a->cL a (Addr.add (aM b) 1) (vS f h m))/\rE 324 [vP (some (aM c)),vP g,vS f h m] e λe f=>∃g h,e=vU [iI g,vB h]/\d f/\aD (j+g)/\∀d,drawn f d->∃(e:WP),e d/\br h (∃f h m,(∀a,e a->cL a (Addr.add (aM c) 5) (vS f h m))/\∃m,(∀a,e a->cL a (aM b) (iI m))/\idx f h m 1 λf=>∃h,(∀a,e a->cL a f (vB h))/\br (!h) (∀e,drawn d e->∃(d:WP),d e/\∃f h m,(∀a,d a->cL a (Addr.add (aM c) 5) (vS f h m))/\∃c,(∀a,d a->cL a (aM b) (iI c))/\idx f h c 1 λb=>st1 e b (vB true) λb=>aD (j+g+1)/\aD (k+1)/\a (j+g+1) (k+1) b/\i (j+g+1) (k+1) b<i j k l) (aD (k+1)/\a (j+g) (k+1) d/\i (j+g) (k+1) d<i j k l)) (aD (k+1)/\a (j+g) (k+1) d/\i (j+g) (k+1) d<i j k l)) (b j l/\d j l<d e f)) (R (vP (some (aM c))) f))):ρ 268 [φ a i j b k l c m n A d o p] w R:=rv Tryz.func268 ⟨[(4,[(24,(.one (.int .i64)))]),(9,[(6,(.one (.int .i64)))]),(12,[(6,(.one (.int .i64))),(48,(.one (.int .i64)))])],[],[],[]⟩ h
theorem A0(h:τ [(8,aN),(13,aN)] λd e=>d 0 0 w/\∀(_:ν) f g h,d f g h->bQ (g<(i:Int)) (idx c i g 1 λc=>cLi h c λi=>nn a λc=>cLs h (c.add 6) λj k l=>idx j k i 1 λc=>cLp h c λj=>new h (oC [vP j] 178) λc j=>rEi 349 [vP b,vS (some (aM c)) 1 1] j λj c=>aD (f+j)/\nn a λa=>cLs c (a.add 5) λb k l=>idx b k i 1 λa=>cLb c a λb=>br (!b) (R (vU [iI (f+j),vB false]) c) (aD (g+1)/\d (f+j) (g+1) c/\e (f+j) (g+1) c<e f g h)) (R (vU [iI f,vB true]) h)):ρ 324 [.pointer a,.pointer b,vS c i j] w R:=rv Tryz.func324 ⟨[(3,[(8,(.one (.int .i64))),(13,(.one (.int .i64)))])],[],[],[]⟩ h
end
def pn(nl:List Bool)(vs:List (List Bool)):List Bool->List Int->List Bool
 |bs,[]=>bs
 |bs,s::r=>if bt nl s.toNat then pn nl vs (db bs (iW (vs.getD s.toNat []))) r else db bs (iW (vs.getD s.toNat []))
def FT(nl:List Bool)(row:List Int):Bool:=row.all λs=>bt nl s.toNat
theorem OS(nl:List Bool)(vs:List (List Bool))(bs:List Bool):pn nl vs bs []=bs:=rfl
theorem KR(nl:List Bool)(vs:List (List Bool))(bs:List Bool)(s:Int)(r:List Int):pn nl vs bs (s::r)=if bt nl s.toNat then pn nl vs (db bs (iW (vs.getD s.toNat []))) r else db bs (iW (vs.getD s.toNat [])):=rfl
theorem HU(nl:List Bool)(vs:List (List Bool)):∀(row:List Int)(bs:List Bool),(pn nl vs bs row).length=bs.length
 |[],bs=>rfl
 |s::r,bs=>by
  unfold pn
  split
  ·rw[HU nl vs r,bu]
  ·rw[bu]
theorem Cu(nl:List Bool)(vs:List (List Bool)):∀(row:List Int)(bs:List Bool)(k:Nat),bt bs k=true->bt (pn nl vs bs row) k=true
 |[],bs,k,h=>h
 |s::r,bs,k,h=>by
  unfold pn
  have:bt (db bs (iW (vs.getD s.toNat []))) k=true:=by simp_all[gW]
  split
  ·exact Cu nl vs r _ k this
  omega
theorem KS(nl:List Bool)(vs:List (List Bool)):∀(row:List Int)(bs:List Bool),bF bs<=bF (pn nl vs bs row)
 |[],bs=>afR _
 |s::r,bs=>by
  unfold pn
  split
  ·exact agn (si _ _) (KS nl vs r _)
  simp[si]
section
variable{w:ahs}{L:List aC}{a an ao:ahr}{l c nl cn ol co ks:Nat}{p:ahr}{bs nulls:List Bool}{row:List Int}{os:List (ahr)}{vss:List (List Bool)}{gs:List Value}
theorem aeK(h:St w (cN p bs::L))(hs:∀h,aG L h->aj h ⟨ks,0,none⟩ (gs++[vS an nl cn,vS ao ol co]))(hgs:gs.length=5)(hn:∀h,aG L h->aY h nulls an nl)(ho:∀h,aG L h->aY h os ao ol)(hv:vss.length=os.length)(hno:nulls.length=os.length)
  (hq:∀h,aG L h->∀(i:Nat) q v,os[i]? =some q->vss[i]? =some v->eH h q v\/(q=p/\v=bs)) (ht:∀h,aG L h->dK h)
  (hr:∀h,aG L h->aY h row a l) (hin:∀s∈row,0<=s/\s.toNat<os.length) (hb:l<=4611686018427387904):
  ρ 324 [.pointer (some ⟨ks,0,none⟩),.pointer p,vS a l c] w λv w'=>v=.tuple #[iI ((bF (pn nulls vss bs row):Int)-bF bs),vB (FT nulls row)]/\St w' (cN p (pn nulls vss bs row)::L):=by
 obtain⟨h0,hl,_,Y⟩:=h.freeze;have hs:=hs h0 hl;have hn:=hn h0 hl;have ho:=ho h0 hl;have hq:=hq h0 hl;have ht:dK h0:=ht h0 hl;have hr:=hr h0 hl;have bb:=h.eH.le;have done:∀w' b,St w' (cN p b::[has h0])->St w' (cN p b::L):=λw' b h=>h.fb hl;clear h hl;have c5:∀w',sub h0 (hp w')->w'.cell? ((⟨ks,0,none⟩:Addr).add 5)=some (vS an nl cn):=λw' s=>hs.cell s (j:=5) (by simp_all);have c6:∀w',sub h0 (hp w')->w'.cell? ((⟨ks,0,none⟩:Addr).add 6)=some (vS ao ol co):=λw' s=>hs.cell s (j:=6) (by simp_all);refine A0 ?_;refine⟨λn1 n2 w'=>∃(j:Nat)(U:List Bool),n2=j/\j<=l/\n1=(bF U:Int)-bF bs/\bF bs<=bF U/\U.length=bs.length/\(∀k,bt bs k=true->bt U k=true)/\pn nulls vss bs row=pn nulls vss U (row.drop j)/\FT nulls row=FT nulls (row.drop j)/\St w' [cN p U,has h0],λ_ n2 _=>l-n2.toNat,⟨0,bs,rfl,ω,ω,afR _,rfl,λ_ h=>h,σ,σ,Y⟩,?_⟩;clear Y;rintro _ _ n2 w1⟨j,U,rfl,hj,rfl,bc,ba,b5,J,V,h⟩;have s1:sub h0 (hp w1):=(h.pick 2 [1]).has;have k1:=im U
 refine ae (λu=>?_) λu=>?_
 ·have u:j<l:=by simp_all
  obtain⟨y,ad,a7,a6,b4⟩:=hr.dS u;obtain⟨y0,yl⟩:=hin y (afI a7);obtain⟨q,b7,a0,b1,b3⟩:=ho.dS (i:=y.toNat) (by have:=ho.1;omega);obtain⟨v,a5⟩:∃v,vss[y.toNat]? =some v:=⟨vss[y.toNat]'ω,afJ _⟩;obtain⟨z,b8,b6,a8,al⟩:=hn.dS (i:=y.toNat) (by have:=hn.1;omega);have am:vss.getD y.toNat []=v:=by simp_all
  have a4:bt nulls y.toNat=z:=by grind[bt,List.getD]
  have ed:row.drop j=y::row.drop (j+1):=by grind[List.drop_eq_getElem_cons,List.getElem?_eq_some_iff]
  refine ay a6 u ⟨y,b4 _ s1,_,_,_,c6 _ s1,?_⟩;have ey:y=((y.toNat:Nat):Int):=ω
  rw[ey];refine ay b1 (by have:=ho.1;omega) ⟨q,b3 _ s1,ag h λb2 w2 h2=>?_⟩;have aa:=hq _ _ _ a0 a5
  obtain⟨W,a9,av⟩:∃W,(∀h,aG [az b2 [.pointer q],has h0] h->eH h q W\/(q=p/\W=U))/\db U (iW W)=db U (iW v):=by
   rcases aa with hr|⟨rfl,rfl⟩
   ·exact⟨v,λh O=>.inl (hr.mono (kP (A:=has h0) (agO _ (List.mem_singleton_self _)) O|>.elim λY x=>x.2.trans x.1)),rfl⟩
   ·exact⟨U,λh O=>.inr ⟨rfl,rfl⟩,by grind[KC]⟩
  refine(Sx (vss:=[W]) (os:=[q]) (l:=1) (h2.pick 3 [1,0,2]) (λh O=>?_) rfl (λh O i q' w' hi hw=>?_) (λh O=>?_) ω).mono ?_
  ·obtain⟨Y,_,_,s1,_,⟨e,he⟩,_⟩:=O;exact(gV (xs:=[q]) rfl (.inr ⟨_,rfl,kM ⟨e,he⟩⟩)).mono s1
  ·match i,hi,hw with
   |0,hi,hw=>cases hi;cases hw;exact a9 h O
   |i+1,hi,_=>grind
  ·exact ec.mono (kP (A:=has h0) (agO _ (List.mem_singleton_self _)) O|>.elim λY x=>x.2.trans x.1) ht
  rintro _ w3⟨rfl,X⟩;have eU:dr U [W]=db U (iW v):=av;rw[eU] at X ⊢;have X:=X.pick 3 [0,2];have s3:sub h0 (hp w3):=(X.pick 2 [1]).has;have k2:=si U (iW v);have k3:=im (db U (iW v));rw[bu] at k3;rw[ed] at J V;rw[KR,am,a4] at J;rw[show FT nulls (y::row.drop (j+1))=(z&&FT nulls (row.drop (j+1))) from by grind[FT]] at V;refine⟨_,rfl,⟨ω,ω⟩,_,_,_,c5 _ s3,?_⟩
  refine ay a8 (by have:=hn.1;omega) ⟨z,al _ s3,ae (λZ=>?_) λZ=>?_⟩
  ·have Z:z=false:=by grind
   subst Z;simp only[Bool.false_eq_true,if_false] at J
   refine⟨?_,?_⟩
   ·grind
   ·rw[J];exact done _ _ X
  ·have Z:z=true:=by grind
   subst Z;simp only[if_true] at J;rw[ahm] at V;refine⟨⟨ω,ω⟩,⟨j+1,db U (iW v),σ,ω,ω,ω,by grind[bu],λk hk=>by grind[gW],J,V,X⟩,bY u⟩
 ·have u:j=l:=by grind
  subst u;rw[List.drop_of_length_le (by have:=hr.1;omega)] at J V;rw[OS] at J
  refine⟨?_,?_⟩
  ·rw[J,V];rfl
  simp_all
end
inductive Q8 (g:ah):Int->Prop
 |mk (p:aO):p∈g.prods->(∀s∈p.right,Q8 g s)->Q8 g p.left
inductive Vp (g:ah):Int->Nat->Prop
 |tm (t:Nat):t<g.T->Vp g (t:Int) t
 |pr (p:aO) (i:Nat) (s:Int) (t:Nat):p∈g.prods->p.right[i]? =some s->(∀x∈p.right.take i,Q8 g x)->Vp g s t->Vp g p.left t
def Xl(g:ah)(row:List Int):Prop:=∀s∈row,Q8 g s
def Cv(g:ah)(row:List Int)(t:Nat):Prop:=∃(i:Nat)(s:Int),row[i]? =some s/\(∀x∈row.take i,Q8 g x)/\Vp g s t
theorem OT{nl:List Bool}{row:List Int}:FT nl row=true↔∀s∈row,bt nl s.toNat=true:=by simp[FT]
theorem Cw(nl:List Bool)(vs:List (List Bool)):∀(row:List Int)(bs:List Bool)(k:Nat),bt (pn nl vs bs row) k=true↔bt bs k=true\/(k<bs.length/\∃(i:Nat)(s:Int),row[i]? =some s/\(∀x∈row.take i,bt nl x.toNat=true)/\bt (vs.getD s.toNat []) k=true)
 |[],bs,k=>by simp[OS]
 |s::r,bs,k=>by
  rw[KR]
  constructor
  ·intro h
   by_cases hz:bt nl s.toNat=true
   ·rw[afZ hz,Cw nl vs r] at h
    rw[gW,bu,agA,afX,aga] at h
    rcases h with(h|⟨h1,h2⟩)|⟨h1,i,y,h2,h3,h4⟩
    ·simp_all
    ·exact .inr ⟨h1,0,s,rfl,σ,h2⟩
    ·refine .inr ⟨h1,i+1,y,h2,?_,h4⟩
     simp_all
   ·rw[afV hz,gW,agA,afX,aga] at h
    rcases h with h|⟨h1,h2⟩
    ·simp_all
    ·exact .inr ⟨h1,0,s,rfl,σ,h2⟩
  ·intro h
   have hu:(bt bs k=true\/(k<bs.length/\bt (vs.getD s.toNat []) k=true))->bt (db bs (iW (vs.getD s.toNat []))) k=true:=λh=>by simp_all[gW]
   by_cases hz:bt nl s.toNat=true
   ·rw[afZ hz,Cw nl vs r,bu]
    rcases h with h|⟨h1,i,y,h2,h3,h4⟩
    ·simp_all
    ·match i,h2,h3 with
     |0,h2,_=>simp_all
     |i+1,h2,h3=>grind
   ·rw[afV hz]
    rcases h with h|⟨h1,i,y,h2,h3,h4⟩
    ·simp_all
    ·match i,h2,h3 with
     |0,h2,_=>simp_all
     |i+1,h2,h3=>simp_all
def SV(g:ah):Prop:=∀p∈g.prods,((g.T:Int)<=p.left/\p.left<g.T+g.N)/\∀s∈p.right,0<=s/\s<(g.T:Int)+g.N
structure OU(g:ah)(nl:List Bool)(vs:List (List Bool)):Prop where
 ln:nl.length=g.T+g.N
 lv:vs.length=g.T+g.N
 le:∀v∈vs,v.length=g.T
 sn:∀i,bt nl i=true->Q8 g (i:Int)
 sv:∀i t,bt (vs.getD i []) t=true->Vp g (i:Int) t
 tm:∀t,t<g.T->bt (vs.getD t []) t=true
def ClP(nl:List Bool)(vs:List (List Bool))(p:aO):Prop:=(FT nl p.right=true->bt nl p.left.toNat=true)/\pn nl vs (vs.getD p.left.toNat []) p.right=vs.getD p.left.toNat []
theorem jX{s:Int}(h:0<=s):((s.toNat:Nat):Int)=s:=ω
theorem OU.row{g:ah}{nl:List Bool}{vs:List (List Bool)}(m:OU g nl vs){row:List Int}(hr:∀s∈row,0<=s/\s<(g.T:Int)+g.N):(FT nl row=true->Xl g row)/\∀bs t,bt (pn nl vs bs row) t=true->bt bs t=true\/Cv g row t:=by
 refine⟨λh s V=>?_,λbs t h=>?_⟩
 ·have:=m.sn _ (OT.1 h s V)
  grind
 ·rcases(Cw nl vs row bs t).1 h with h|⟨_,i,s,J,u,O⟩
  ·simp_all
  ·refine .inr ⟨i,s,J,λx U=>?_,?_⟩
   ·have:=m.sn _ (u x U)
    grind
   ·have:=m.sv _ _ O
    grind
theorem Vp.lt{g:ah}{s:Int}{t:Nat}(h:Vp g s t):t<g.T:=by
 induction h with
 |tm t h=>omega
 |pr p i s t _ _ _ _ ih=>omega
structure aeL(g:ah)(nl:List Bool)(vs:List (List Bool)):Prop where
 ln:nl.length=g.T+g.N
 lv:vs.length=g.T+g.N
 le:∀v∈vs,v.length=g.T
 nn:∀i,bt nl i=true↔Q8 g (i:Int)
 nv:∀i t,bt (vs.getD i []) t=true↔Vp g (i:Int) t
theorem OU.OV{g:ah}{nl:List Bool}{vs:List (List Bool)}(m:OU g nl vs){i:Nat}(hi:i<g.T+g.N):(vs.getD i []).length=g.T:=by
 have h:vs[i]? =some (vs[i]'(by rw[m.lv];omega)):=afJ _;rw[List.getD,h];exact m.le _ (afI h)
theorem OU.all{g:ah}{nl:List Bool}{vs:List (List Bool)}(hg:SV g)(m:OU g nl vs)(hc:∀p∈g.prods,ClP nl vs p):aeL g nl vs:=by
 have cn:∀s,Q8 g s->bt nl s.toNat=true:=λs h=>by
  induction h with
  |mk p hp _ ih=>exact(hc p hp).1 (OT.2 ih)
 have cv:∀s t,Vp g s t->bt (vs.getD s.toNat []) t=true:=λs t h=>by
  induction h with
  |tm t h=>exact m.tm t h
  |pr p i s t hp hi hx hs ih=>
   have hl:=(hg p hp).1;rw[<-(hc p hp).2,Cw];exact .inr ⟨by rw[m.OV ω];exact hs.lt,i,s,hi,λx u=>cn x (hx x u),ih⟩
 exact⟨m.ln,m.lv,m.le,λi=>⟨m.sn i,λh=>cn _ h⟩,λi t=>⟨m.sv i t,λh=>cv _ _ h⟩⟩
def OW(v:List Bool):Nat:=v.length-bF v
def A5(nl:List Bool)(vs:List (List Bool)):Nat:=OW nl+(vs.map OW).sum
theorem SX:∀{l:List Nat}{k x y:Nat},l[k]? =some x->(l.set k y).sum+x=l.sum+y
 |[],k,x,y,h=>by grind
 |z::l,0,x,y,h=>by grind
 |z::l,k+1,x,y,h=>by
  have:=SX (l:=l) (k:=k) (x:=x) (y:=y) (by simp_all)
  grind
theorem Xm{nl:List Bool}{vs:List (List Bool)}{k:Nat}{v v':List Bool}(h:vs[k]? =some v)(hl:v'.length=v.length)(hc:bF v<=bF v'):A5 nl (vs.set k v')+(bF v'-bF v)=A5 nl vs:=by
 have u:=SX (l:=vs.map OW) (k:=k) (x:=OW v) (y:=OW v') (by simp_all)
 grind[im,A5,List.map_set,OW]
theorem exists_least{P:Nat->Prop}(h:∃m,P m):∃m,P m/\∀k,P k->m<=k:=by
 obtain⟨m,u⟩:=h
 induction m using Nat.strongRecOn with
 |_ m ih=>
  grind
theorem HV{α:Type}(P:α->Nat->Prop):∃μ:α->Nat,(∀x m,P x m->μ x<=m)/\∀x,(∃m,P x m)->P x (μ x):=by
 have h:∀x,∃m,(∀k,P x k->m<=k)/\((∃k,P x k)->P x m):=λx=>by
  by_cases u:∃k,P x k
  ·obtain⟨m,O,J⟩:=exists_least u
   grind
  simp_all
 exact⟨λx=>(h x).choose,λx=>(h x).choose_spec.1,λx=>(h x).choose_spec.2⟩
theorem yy{m m':Nat->Bool}(h:∀k,m k=true->m' k=true):∀n,de n m<=de n m'/\(de n m=de n m'->∀k,k<n->m k=m' k)
 |0=>⟨afR _,λ_ k hk=>ω⟩
 |n+1=>by
  obtain⟨h1,h2⟩:=yy h n
  rw[wL,wL]
  grind
theorem HW{bs cs:List Bool}(hl:cs.length=bs.length)(hs:∀k,bt bs k=true->bt cs k=true)(hc:bF cs=bF bs):cs=bs:=by
 refine kO hl λk=>?_
 by_cases u:k<bs.length
 ·unfold bF at hc;rw[hl] at hc;exact((yy hs bs.length).2 hc.symm k u).symm
 simp_all[tV]
theorem HX{nl:List Bool}{k:Nat}(hk:k<nl.length)(j:Nat):bt (nl.set k true) j=(bt nl j||j==k):=by grind[bt]
theorem aan{nl:List Bool}{k:Nat}(hk:k<nl.length)(hf:bt nl k=false):OW (nl.set k true)+1=OW nl:=by
 have u:bF (nl.set k true)=bF nl+1:=by
  unfold bF;rw[agF,<-Sn hk hf]
  grind[Ku,HX]
 grind[im,List.length_set,OW]
theorem KT{vs:List (List Bool)}{k:Nat}(hk:k<vs.length)(v:List Bool)(j:Nat):(vs.set k v).getD j []=if j=k then v else vs.getD j []:=by grind
theorem OU.lay{g:ah}(hg:SV g){nl:List Bool}{vs:List (List Bool)}(m:OU g nl vs){p:aO}(hp:p∈g.prods):OU g nl (vs.set p.left.toNat (pn nl vs (vs.getD p.left.toNat []) p.right)):=by
 obtain⟨hl,O⟩:=hg p hp;have U:p.left.toNat<g.T+g.N:=ω
 have u:p.left.toNat<vs.length:=by rw[m.lv];omega
 refine⟨m.ln,by rw[agF];exact m.lv,λv J=>?_,m.sn,λi t h=>?_,λt ht=>?_⟩
 ·rcases List.mem_or_eq_of_mem_set J with J|rfl
  ·exact m.le v J
  ·rw[HU];exact m.OV U
 ·rw[KT u] at h
  split at h
  ·rename_i e;subst e;rw[jX ω]
   rcases(m.row O).2 _ _ h with h|⟨i,s,W,V,X⟩
   ·have:=m.sv _ _ h;grind
   ·exact .pr p i s t hp W V X
  ·exact m.sv _ _ h
 ·rw[KT u]
  split
  ·omega
  ·exact m.tm t ht
theorem OU.van{g:ah}(hg:SV g){nl:List Bool}{vs:List (List Bool)}(m:OU g nl vs){p:aO}(hp:p∈g.prods)(hn:Xl g p.right):OU g (nl.set p.left.toNat true) vs:=by
 obtain⟨hl,J⟩:=hg p hp;have u:p.left.toNat<nl.length:=by rw[m.ln];omega
 refine⟨by rw[agF];exact m.ln,m.lv,m.le,λi h=>?_,m.sv,m.tm⟩;rw[HX u,agA,beq_iff_eq] at h
 rcases h with h|rfl
 ·exact m.sn i h
 ·rw[jX ω];exact .mk p hp hn
theorem aao{g:ah}{nl:List Bool}{vs:List (List Bool)}(m:OU g nl vs):A5 nl vs<=(g.T+g.N)+(g.T+g.N)*g.T:=by
 unfold A5;have O:OW nl<=g.T+g.N:=by unfold OW;rw[m.ln];omega
 have u:∀l:List (List Bool),(∀v∈l,v.length=g.T)->(l.map OW).sum<=l.length*g.T:=λl=>by
  induction l with
  |nil=>simp
  |cons v l ih=>
   grind[List.mem_cons_of_mem,OW,List.mem_cons_self,List.length_cons,Nat.succ_mul]
 have J:=u vs m.le;rw[m.lv] at J;omega
theorem Jc{g:ah}(h:bZ g):SV g/\g.T<=65/\g.N<=65/\0<g.N/\0<g.T/\g.prods.length<=97:=by
 have hT:g.T=g.terms.length:=rfl;have hN:g.N=g.cM.length:=rfl
 rcases h with⟨s,p,_⟩|⟨h0,s,p,q,Z,X,W,Y⟩
 ·have U:=N_.1 s;have V:0<g.terms.length:=(afK.1 s.1).1;refine⟨λr O=>?_,ω,ω,ω,ω,by have:=p.2.1;omega⟩;have:=p.2.2.1 r O;exact⟨⟨by have:=this.1.1;omega,this.1.2.1⟩,λy u=>by have:=this.2 y u;grind[oW]⟩
 ·have U:=N_.1 s;have V:0<g.terms.length:=(afK.1 s.1).1;refine⟨λr O=>?_,ω,ω,ω,ω,by have:=p.2.1;omega⟩
  have J:r=q\/r∈g.prods.drop 1:=by
   cases hg:g.prods with
   |nil=>simp_all
   |cons a l=>
    simp_all
  rcases J with rfl|J
  ·refine⟨ω,λy u=>?_⟩;rw[W,af_] at u;subst u;have:=p.2.2.2.2;omega
  ·have:=p.2.2.1 r J;exact⟨⟨by have:=this.1.1;omega,this.1.2.1⟩,λy u=>by have:=this.2 y u;grind[oW]⟩
theorem yz{α:Sort _}(a:α):∃q,q=a:=⟨a,rfl⟩
def FC(x:GA)(k14 n:Nat)(o:ahr)(j c:Nat):List Value:=[vS x.ta x.tl x.tc,vS x.na x.nl x.nc,vS x.la x.ll x.lc,iI x.s,vS x.pa x.pl x.pc,vS (some ⟨k14,0,none⟩) n n,vS o j c]
def po(T j:Nat):List (List Bool):=(List.range j).map λ(i:Nat)=>yk (T:Int) [(i:Int)]
theorem Q9(T j:Nat):po T (j+1)=po T j++[yk (T:Int) [(j:Int)]]:=by simp[po,agx]
theorem KU(T j:Nat):(po T j).length=j:=by simp[po]
theorem Q_{T i:Nat}(hT:T<=65)(t:Nat):(yk (T:Int) [(i:Int)]).length=T/\(bt (yk (T:Int) [(i:Int)]) t=true↔t=i/\t<T):=by
 have hN:Kx (T:Int)=T:=by grind[Kx]
 unfold yk;refine⟨by rw[bu,agT,hN],?_⟩;rw[eF,agT,hN,fY,qt,Bool.false_or]
 grind
theorem Xn{g:ah}(hT:g.T<=65):OU g (List.replicate (g.T+g.N) false) (po g.T (g.T+g.N)):=by
 have u:∀i,bt ((po g.T (g.T+g.N)).getD i [])=if i<g.T+g.N then bt (yk (g.T:Int) [(i:Int)]) else bt []:=λi=>by
  unfold po
  grind
 refine⟨σ,KU _ _,λv J=>?_,λi h=>?_,λi t h=>?_,λt ht=>?_⟩
 ·obtain⟨i,_,rfl⟩:=afW.1 J;exact(Q_ hT 0).1
 ·simp_all[qt]
 ·rw[u] at h
  split at h
  ·obtain⟨rfl,h'⟩:=((Q_ hT t).2).1 h;exact .tm t h'
  simp_all[bt]
 ·rw[u,afZ ω];exact(Q_ hT t).2.2 ⟨rfl,ht⟩
section
variable{w:ahs}{L:List aC}{g:ah}{x:GA}
theorem afu(hg:gR (hp w) g x)(hb:mi g)(he:bZ g)(ht:dK (hp w)):ρ 268 [.agg ⟨x.cells⟩] w λv w'=>∃(b k14:Nat)(o:ahr)(c:Nat)(nl:List Bool)(ps:List Nat)(vs:List (List Bool)),v=.pointer (some ⟨b,0,none⟩)/\aeL g nl vs/\ps.length=vs.length/\
  St w' (az b (FC x k14 (g.T+g.N) o ps.length c)::az k14 (bv nl)::own 1 o ps.length c (pv (ps.map bk))::aV (cU ps vs)::all w):=by
 refine MB ?_;refine gH hg λk1 w1 gw hg B=>?_;obtain⟨iG,bT,bN,pN,pT,bP⟩:=Jc he;have tl:g.T=x.tl:=hg.t.1;have nl:g.N=x.nl:=hg.n.1;have pl:=hg.p.1;have ht:=ec.mono gw ht;refine⟨_,_,_,B.c0 sZZ,_,_,_,B.c1 sZZ,⟨ω,ω⟩,λw2 hd=>?_⟩;have e2:hp w2=hp w1:=gU hd;have gs:sub (hp w) (hp w1):=gw;generalize hH:hp w1=H at*;have eN:(x.tl:Int)+(x.nl:Int)=((g.T+g.N:Nat):Int):=ω
 rw[eN];have cu:(x.tl:Int)=(g.T:Int):=ω
 rw[afU,dR];have h2:St w2 [has H]:=by have:=St.all w2;grind
 refine⟨λw=>sub H (hp w),e2▸sZZ,_,_,_,_,_,_,_,_,_,_,_,_,_,λw s=>B.row s,⟨ω,rfl,ω⟩,ag h2 λk14 w4 h4=>⟨aA 1 h4.l,ag h4 λJ w5 h5=>⟨aA 2 h5.l,?_⟩⟩⟩;clear h2 h4;have bA:List.replicate (g.T+g.N) (vB false)=bv (List.replicate (g.T+g.N) false):=by simp[bv]
 rw[bA] at h5
 refine⟨λn w'=>∃(j:Nat)(o:ahr)(c:Nat)(ps:List Nat),n=j/\j<=g.T+g.N/\ps.length=j/\St w' [az J (FC x k14 (g.T+g.N) o j c),az k14 (bv (List.replicate (g.T+g.N) false)),own 1 o j c (pv (ps.map bk)),aV (cU ps (po g.T j)),has H],λn _=>g.T+g.N-n.toNat,⟨0,none,0,[],rfl,ω,rfl,?_⟩,?_⟩
 ·have h6:=aI 1 h5;have h7:St w5 (aV (cU [] (po g.T 0))::_):=St.flat.2 (show St w5 ([]++_) from h6);exact h7.pick 5 [2,3,1,0,4]
 clear h5;rintro _ n2 w6⟨j,o,c,ps,rfl,hj,a4,h⟩
 refine ae (λu=>?_) λu=>?_
 ·have u:j<g.T+g.N:=by grind
  intro w7 hd;have h:=h.drawn hd;have I:∀{w:ahs}{cs},aj (hp w) ⟨J,0,none⟩ cs->sub H (hp w)->aj (hp w) ⟨J,0,none⟩ cs/\sub H (hp w):=λa b=>⟨a,b⟩;refine⟨λw=>aj (hp w) ⟨J,0,none⟩ (FC x k14 (g.T+g.N) o j c)/\sub H (hp w),I (af 0 h.l) (aA 4 h.l),_,_,_,λw h=>h.1.cell sZZ (j:=6) rfl,_,_,_,λw h=>B.c0 h.2,ag h λcx d7 h=>⟨I (af 1 h.l) (aA 5 h.l),?_⟩⟩;refine(Ud (xs:=[(j:Int)]) (l:=1) (x.tl:Int) (bp rfl (.inr ⟨_,rfl,af 0 h.l⟩)) ω).mono ?_;rintro _ d8⟨U,rfl,h1⟩;have h:=h1.fb h;refine⟨_,rfl,I (af 2 h.l) (aA 6 h.l),ag h λd3 dc h=>⟨I (af 3 h.l) (aA 7 h.l),?_⟩⟩;refine(aU aT (rfl:ai Ty _=.slice _) (rfl:ai Ty _=.slice _) rfl rfl rfl (h.pick 8 [0,5,1,2,3,4,6,7]) rfl (by simp[aK]) (by grind) ω).mono ?_;rintro _ cd⟨o',c',rfl,h⟩;refine⟨_,_,_,rfl,I (af 4 h.l) (aA 7 h.l),?_⟩
  show st1 cd ((⟨J,0,none⟩:Addr).add 6) _ _
  rw[ak];refine aR (h.pick 8 [4,0,2,5,6,7]) (by simp[FC]) λc8 h=>⟨⟨ω,ω⟩,⟨j+1,o',c',ps++[U],σ,ω,by simp_all,?_⟩,bY u⟩;have h:St c8 [az J (FC x k14 (g.T+g.N) o' (j+1) c'),own 1 o' (j+1) c' (pv (ps.map bk)++[.pointer (some ⟨U,0,none⟩)]),cN (some ⟨U,0,none⟩) (yk (x.tl:Int) [(j:Int)]),az k14 (bv (List.replicate (g.T+g.N) false)),aV (cU ps (po g.T j)),has H]:=h;have e1:pv (ps.map bk)++[.pointer (some ⟨U,0,none⟩)]=pv ((ps++[U]).map bk):=by simp[pv,bk]
  have ca:(cU ps (po g.T j)++[cN (some ⟨U,0,none⟩) (yk (x.tl:Int) [(j:Int)])])=cU (ps++[U]) (po g.T (j+1)):=by
   rw[Q9,cu];unfold cU;rw[List.zipWith_append (by simp_all[KU])];rfl
  rw[e1] at h;have h:=St.snoc (A:=cN (some ⟨U,0,none⟩) (yk (x.tl:Int) [(j:Int)])) (M:=cU ps (po g.T j)) (h.pick 6 [2,4,0,1,3,5]);rw[ca] at h;exact h.pick 5 [1,3,2,0,4]
 have u:j=g.T+g.N:=by grind
 subst u
 obtain⟨Q,hQ⟩:=yz (λ(n:Int)(w:ahs)(m:Nat)=>∃(nl:List Bool)(vs:List (List Bool)),OU g nl vs/\0<=n/\(m:Int)=A5 nl vs+(if 0<n then 1 else 0)/\(n=0->∀p∈g.prods,ClP nl vs p)/\
  St w [az J (FC x k14 (g.T+g.N) o (g.T+g.N) c),az k14 (bv nl),own 1 o (g.T+g.N) c (pv (ps.map bk)),aV (cU ps vs),has H])
 obtain⟨μ,cg,cp⟩:=HV (λ(y:Int×ahs) m=>Q y.1 y.2 m)
 refine⟨λn w'=>∃m,Q n w' m,λn w=>μ (n,w),⟨A5 (List.replicate (g.T+g.N) false) (po g.T (g.T+g.N))+1,?_⟩,?_⟩
 ·rw[hQ]
  grind[Xn,absurd]
 clear h;intro _ n3 b1 hP;have hP:=cp (n3,b1) hP;dsimp only at hP;generalize hμ:μ (n3,b1)=μ0 at*;rw[hQ] at hP;obtain⟨a7,a0,a6,dl,c5,aa,h⟩:=hP;refine ae (λO=>?_) λO=>?_
 rotate_left
 ·have O:=afN O;have aa:=aa ω;refine⟨J,k14,o,c,a7,ps,a0,rfl,a6.all iG aa,by rw[a4,a6.lv],?_⟩;rw[a4];exact St.on (N:=[_,_,_,_]) h (bH gs)
 have O:=afO O;rw[afZ O] at c5;refine⟨_,_,_,B.c4 (aA 4 h.l),λX n5 w'=>∃(j:Nat)(nl:List Bool)(vs:List (List Bool)),n5=j/\j<=x.pl/\0<=X/\X+A5 nl vs=A5 a7 a0/\OU g nl vs/\(X=0->∀p∈g.prods.take j,ClP nl vs p)/\St w' [az J (FC x k14 (g.T+g.N) o (g.T+g.N) c),az k14 (bv nl),own 1 o (g.T+g.N) c (pv (ps.map bk)),aV (cU ps vs),has H],λ_ n5 _=>x.pl-n5.toNat,⟨0,a7,a0,rfl,ω,ω,ω,a6,σ,h⟩,?_⟩;clear h;rintro _ X n5 b8⟨j,nl,vs,rfl,hj,cT,d0,mk,b3,h⟩;refine ae (λu=>?_) λu=>?_
 rotate_left
 ·have u:j=x.pl:=by grind
  subst u;rw[af3 ω] at b3
  have key:Q X b8 (A5 nl vs+(if 0<X then 1 else 0)):=by
   rw[hQ];grind
  refine⟨⟨_,key⟩,?_⟩;have:=cg (X,b8) _ key
  grind
 have u:j<x.pl:=by grind
 obtain⟨p,ad,e6,cm,c6,bB,a,l,c3,rfl,e4,bb⟩:=hg.p.get u;have Z:=afI cm;obtain⟨cz,b4⟩:=iG p Z;have et:g.prods.take (j+1)=g.prods.take j++[p]:=by grind[List.take_add_one]
 refine aJ c6 u ⟨_,_,_,_,_,bB.at (aA 4 h.l) rfl,ag h λa5 d6 h=>aL h rfl (by intro v hv;simp at hv;rcases hv with rfl|rfl|rfl<;>rfl) λcF h=>?_⟩;intro bl hd;have h:=h.drawn hd;obtain⟨k,hk⟩:∃k:Nat,p.left=k:=⟨p.left.toNat,ω⟩;rw[hk] at h;have ba:p.left.toNat=k:=ω
 have W:k<g.T+g.N:=ω
 obtain⟨U,bz⟩:∃U,ps[k]? =some U:=⟨ps[k]'ω,afJ _⟩;obtain⟨v,hv⟩:∃v,vs[k]? =some v:=⟨vs[k]'(by rw[mk.lv];omega),afJ _⟩;have ck:vs.getD k []=v:=by grind
 have bc:(ps.map bk)[k]? =some (bk U):=by grind
 have rp:aY (hp bl) (ps.map bk) o (g.T+g.N):=Ue 3 h.l rfl rfl (by grind);obtain⟨q,d4,av,b7,e7⟩:=rp.dS W;rw[bc] at av;cases av;refine⟨λw=>aj (hp w) ⟨J,0,none⟩ (FC x k14 (g.T+g.N) o (g.T+g.N) c)/\aj (hp w) ⟨a5,0,none⟩ [iI (k:Int),vS a l c3,iI p.level]/\aY (hp w) (ps.map bk) o (g.T+g.N),⟨af 1 h.l,af 0 h.l,rp⟩,_,_,_,λw h=>h.1.cell sZZ (j:=6) rfl,_,λw h=>h.2.1.cell0 sZZ,?_⟩
 refine ay b7 W ⟨bk U,λw h=>?_,_,_,_,λw h=>h.2.1.cell sZZ (j:=1) rfl,?_⟩
 ·obtain⟨q',cA,e1,e2,e3⟩:=h.2.2.dS W;rw[bc] at e1;cases e1;rw[b7] at e2;cases e2;exact e3 _ sZZ
 have gS:(cU ps vs)[k]? =some (cN (bk U) v):=by grind[cU]
 have Qd:∀V,(cU ps vs).set k (cN (bk U) V)=cU ps (vs.set k V):=λV=>Sz (λp v=>cN (bk p) v) bz;have h:=St.out (h.pick 6 [4,0,1,2,3,5]) gS
 refine(aeK (nulls:=nl) (os:=ps.map bk) (vss:=vs) (row:=p.right) (gs:=x.cells) h (λh Y=>af 2 Y) rfl (λh Y=>Hb mk.ln (.inr ⟨_,rfl,af 3 Y⟩)) (λh Y=>Ue 4 Y rfl rfl (by grind)) (by simp[a4,mk.lv]) (by simp[a4,mk.ln]) (λh Y i q V hi ch=>?_) (λh Y=>ec.mono (aA 5 Y) ht) (λh Y=>bb.mono (aA 5 Y)) (λs hs=>⟨(b4 s hs).1,?_⟩) ?_).mono ?_
 ·rw[afQ] at hi;cases hpi:ps[i]? with
  |none=>grind
  |some pi=>
   rw[hpi] at hi;cases hi
   by_cases ek:i=k
   ·grind
   ·exact .inl (afm 0 Y hpi ch ek)
 ·grind
 ·have:=bb.1;have:=hb.2.2.2.2.2.2 p Z;omega
 rintro _ e5⟨rfl,h⟩;have al:=mk.lay iG Z;rw[ba,ck] at al;have a9:(pn nl vs v p.right).length=v.length:=HU _ _ _ _;have cc:=KS nl vs p.right v;have e8:=Xm (nl:=nl) hv a9 cc;have c9:=Cu nl vs p.right v;have dk:=aao a6
 have cC:(g.T+g.N)+(g.T+g.N)*g.T<=100000:=by
  have:=Nat.mul_le_mul (show g.T+g.N<=130 by omega) bT;omega
 have am:(FT nl p.right=true->bt nl k=true)->X+((bF (pn nl vs v p.right):Int)-bF v)=0->∀r∈g.prods.take (j+1),ClP nl (vs.set k (pn nl vs v p.right)) r:=λb2 h0 r hr=>by
  have e0:pn nl vs v p.right=v:=HW a9 c9 ω
  have e1:vs.set k v=vs:=by
   apply agq
   grind
  grind[ClP]
 have h:=St.back h gS;rw[Qd] at h;generalize pn nl vs v p.right=V at*;refine⟨_,_,rfl,⟨af 2 h.l,af 1 h.l,Ue 4 h.l rfl rfl (by grind)⟩,⟨ω,ω⟩,λb6 hd=>?_⟩;have h:=h.drawn hd
 have a8:∀{w'},St w' [aV (cU ps (vs.set k V)),az a5 [iI (k:Int),vS a l c3,iI p.level],az J (FC x k14 (g.T+g.N) o (g.T+g.N) c),az k14 (bv nl),own 1 o (g.T+g.N) c (pv (ps.map bk)),has H]->(FT nl p.right=true->bt nl k=true)->aD ((j:Int)+1)/\(∃(j':Nat)(nl:List Bool)(vs:List (List Bool)),(j:Int)+1=j'/\j'<=x.pl/\0<=X+((bF V:Int)-bF v)/\X+((bF V:Int)-bF v)+A5 nl vs=A5 a7 a0/\OU g nl vs/\(X+((bF V:Int)-bF v)=0->∀p∈g.prods.take j',ClP nl vs p)/\St w' [az J (FC x k14 (g.T+g.N) o (g.T+g.N) c),az k14 (bv nl),own 1 o (g.T+g.N) c (pv (ps.map bk)),aV (cU ps vs),has H])/\x.pl-((j:Int)+1).toNat<x.pl-(j:Int).toNat:=λ{w'} h b2=>by
  refine⟨⟨ω,ω⟩,⟨j+1,nl,vs.set k V,σ,ω,ω,ω,al,am b2,h.pick 6 [2,3,4,0,5]⟩,bY u⟩
 refine⟨λw=>sub (hp b6) (hp w),sZZ,ae (λh1=>?_) λh1=>a8 h λh2=>by grind⟩;refine⟨_,_,_,λw s=>(af (b:=J) (vs:=FC x k14 (g.T+g.N) o (g.T+g.N) c) 2 h.l).cell s (j:=5) rfl,_,λw s=>(af (b:=a5) (vs:=[iI (k:Int),vS a l c3,iI p.level]) 1 h.l).cell0 s,?_⟩;have rn:aY (hp b6) nl (some ⟨k14,0,none⟩) (g.T+g.N):=Hb mk.ln (.inr ⟨_,rfl,af 3 h.l⟩);obtain⟨z,dF,cI,c7,ci⟩:=rn.dS W;have bi:bt nl k=z:=by grind[bt]
 cases c7;refine ay rfl W ⟨z,λw s=>ci _ s,ae (λh2=>?_) λh2=>a8 h λ_=>by grind⟩;have h2:z=false:=by grind
 subst h2;intro be hd;have h:=h.drawn hd;refine⟨λw=>sub (hp be) (hp w),sZZ,_,_,_,λw s=>(af (b:=J) (vs:=FC x k14 (g.T+g.N) o (g.T+g.N) c) 2 h.l).cell s (j:=5) rfl,_,λw s=>(af (b:=a5) (vs:=[iI (k:Int),vS a l c3,iI p.level]) 1 h.l).cell0 s,?_⟩;refine ay rfl W ?_;rw[ak];refine aR (h.pick 6 [3,0,2,4,5]) (by grind[bv]) λd9 h=>?_;have eb:(bv nl).set k (vB true)=bv (nl.set k true):=by simp[bv]
 rw[eb] at h;have ho:=aan (nl:=nl) (k:=k) (by grind) bi;have b5:=al.van iG Z ((mk.row b4).1 h1);rw[ba] at b5;have d5:A5 (nl.set k true) (vs.set k V)+1=A5 nl (vs.set k V):=by grind[A5]
 exact⟨⟨ω,ω⟩,⟨ω,ω⟩,⟨j+1,nl.set k true,vs.set k V,σ,ω,ω,ω,b5,λh0=>ω,h.pick 5 [2,0,3,1,4]⟩,bY u⟩
end
def u6(g:ah)(nn:List Bool):Prop:=nn.length=g.N/\∀i:Nat,bt nn i=true↔Q8 g ((g.T+i:Nat):Int)
theorem fx(l:List Bool)(k i:Nat):bt (l.drop k) i=bt l (k+i):=by simp[bt]
theorem u6.inj{g:ah}{bs cs:List Bool}(h:u6 g bs)(k:u6 g cs):bs=cs:=
 kO (h.1.trans k.1.symm) λi=>by rw[agM,h.2,k.2]
section
variable{w:ahs}{L:List aC}{g:ah}{x:GA}
theorem Xo(hg:gR (hp w) g x)(hb:mi g):ρ 267 [.agg ⟨x.cells⟩] w λv w'=>(∃r:Bool,v=vB r/\(r=true↔bZ g))/\Gr w w':=by
 refine Ec ?_;refine gH hg λX Z gw hg B=>?_;refine⟨_,_,_,_,_,_,_,_,_,_,_,_,_,B.row sZZ,(LV (x:=x) hg hb).mono ?_⟩;rintro _ W⟨⟨Y,rfl,O⟩,g2⟩;unfold bZ;rw[<-O];refine⟨_,rfl,ae (λU=>⟨⟨true,rfl,by grind⟩,gw.trans g2⟩) λU=>⟨_,_,_,_,_,_,_,_,_,_,_,_,_,B.row g2,(sx (x:=x) (hg.mono g2) hb).mono ?_⟩⟩;rintro _ V⟨⟨J,rfl,u⟩,g3⟩;rw[<-u];exact⟨_,rfl,⟨J,rfl,by grind⟩,gw.trans (g2.trans g3)⟩
theorem HY(hg:gR (hp w) g x)(hb:mi g)(ht:dK (hp w)):ρ 179 [.agg ⟨x.cells⟩] w λv w'=>
  (¬bZ g/\v=.tuple #[vS none 0 0,iI 1]/\Gr w w')\/
  (bZ g/\∃(k:Nat)(nl nn:List Bool),nl.length=g.T/\u6 g nn/\v=.tuple #[vS (some ⟨k,g.T,none⟩) g.N g.N,iI 0]/\St w' (az k (bv (nl++nn))::all w)):=by
 refine AY ?_;refine gH hg λk1 Z gw hg B=>?_;refine⟨_,_,_,_,_,_,_,_,_,_,_,_,_,B.row sZZ,(Xo (x:=x) hg hb).mono ?_⟩;rintro _ w2⟨⟨r,rfl,e⟩,g2⟩
 refine⟨_,rfl,ae (λW=>.inl ⟨λO=>?_,rfl,gw.trans g2⟩) λW=>λJ hd=>?_⟩
 ·simp_all
 have O:=e.1 (by simp_all);have g3:Gr Z J:=g2.trans (Gr.drawn hd);obtain⟨iG,bT,bN,pN,pT,bP⟩:=Jc O;have tl:g.T=x.tl:=hg.t.1;refine⟨λw=>Gr J w,Gr.refl _,_,_,_,_,_,_,_,_,_,_,_,_,_,λw s=>B.row (g3.trans s),_,_,_,λw s=>B.c0 (g3.trans s),(afu (x:=x) (hg.mono g3) hb O (ec.mono (gw.trans g3) ht)).mono ?_⟩;rintro _ V⟨b,u,o,c,nl,Y,vs,rfl,U,X,h⟩;have hs:sub (hp J) (hp V):=aA 4 h.l;have rb:aj (hp V) ⟨b,0,none⟩ (FC x u (g.T+g.N) o Y.length c):=af 0 h.l
 refine⟨_,rfl,λw=>sub (hp V) (hp w),sZZ,λw s=>sub.trans hs s,_,_,_,λw s=>rb.cell s (j:=5) rfl,dw (lo:=x.tl) ω (afR _) (.inr ⟨O,u,nl.take g.T,nl.drop g.T,by rw[agj,U.ln];omega,⟨by rw[ag3,U.ln];omega,λi=>?_⟩,?_,?_⟩)⟩
 ·rw[fx];exact U.nn _
 ·rw[<-tl,show g.T+g.N-g.T=g.N from ω]
  have e:fE (some ⟨u,0,none⟩) g.T (g.T+g.N) 1=some ⟨u,g.T,none⟩:=by
   unfold fE;rw[afV ω,ahg,show eV g.T 1=g.T from by rfl,ak]
  rw[e]
 ·rw[af9];exact St.on (N:=[_]) (h0:=hp J) (h.pick 5 [1,4]) (bH (gw.trans g3))
end
def dz(n:Nat)(f:Nat->Bool):List Int:=((List.range n).filter f).map Int.ofNat
def pq(l:List Int):Prop:=l.Pairwise (·<·)
theorem MC:∀{l m:List Int},pq l->pq m->(∀z,z∈l↔z∈m)->l=m
 |[],[],_,_,_=>rfl
 |[],b::m,_,_,h=>absurd ((h b).2 σ) σ
 |a::l,[],_,_,h=>absurd ((h a).1 σ) σ
 |a::l,b::m,hl,hm,h=>by
  obtain⟨l1,l2⟩:=agL.1 hl
  obtain⟨m1,m2⟩:=agL.1 hm
  have e:a=b:=by
   rcases af6.1 ((h a).1 σ) with e|ha
   ·omega
   ·rcases af6.1 ((h b).2 σ) with e|hb
    ·omega
    grind
  subst e
  rw[MC l2 m2 λz=>?_]
  grind
theorem gb{n:Nat}{f:Nat->Bool}{z:Int}:z∈dz n f↔∃k:Nat,z=k/\k<n/\f k=true:=by
 unfold dz
 grind
theorem tA(n:Nat)(f:Nat->Bool):pq (dz n f):=by
 unfold dz pq;rw[agz];refine List.Pairwise.filter _ ?_;exact List.pairwise_lt_range.imp λh=>by simp_all
theorem py(n:Nat)(f:Nat->Bool):(dz n f).length<=n:=by grind[dz,List.length_map,List.length_filter_le,List.range,List.length_range]
def dd:List Int->List Int
 |[]=>[]
 |[a]=>[a]
 |a::b::l=>if a=b then dd (b::l) else a::dd (b::l)
theorem MD:∀(l:List Int)(z:Int),z∈dd l↔z∈l
 |[],z=>by rfl
 |[a],z=>by rfl
 |a::b::l,z=>by
  unfold dd
  split
  ·rename_i h;subst h
   rw[MD (a::l)];simp
  ·rw[af6,MD (b::l),af6,af6,af6]
theorem ME:∀{l:List Int},l.Pairwise (·<=·)->pq (dd l)
 |[],_=>by simp[dd,pq]
 |[a],_=>by simp[dd,pq]
 |a::b::l,h=>by
  obtain⟨h1,h2⟩:=agL.1 h
  unfold dd
  split
  ·exact ME h2
  ·rename_i hne
   refine agL.2 ⟨λz hz=>?_,ME h2⟩
   rw[MD] at hz
   have hb:=h1 b σ
   rcases af6.1 hz with rfl|hz
   ·omega
   grind[List.pairwise_cons]
theorem Ra:∀l:List Int,(dd l).length<=l.length
 |[]=>by simp[dd]
 |[a]=>by simp[dd]
 |a::b::l=>by
  unfold dd
  split
  ·have:=Ra (b::l);grind
  ·have:=Ra (b::l);simp_all
def A6(g:ah)(ss:List SQ)(t:aF):Int:=if t∈bW g ss then((bW g ss).idxOf t:Int)+1 else 0
def toK(ss:List SQ)(k:aF):Int:=if k.st<0 then 0 else match dm ss k.st.toNat k.sym with
 |some j=>j+1
 |none=>0
def zk(g:ah)(nn:List Bool)(s:Int):Bool:=decide ((g.T:Int)<=s)&&bt nn (s.toNat-g.T)
def FU(g:ah)(nn:List Bool)(row:List Int):Bool:=row.all (zk g nn)
def kY(g:ah)(nn:List Bool)(ss:List SQ)(i k:Nat):Bool:=match(bW g ss)[i]?,(bW g ss)[k]? with
 |some t,some u=>decide (dm ss t.st.toNat t.sym=some u.st)&&zk g nn u.sym
 |_,_=>false
def Cx(g:ah)(nn:List Bool)(ss:List SQ)(n i:Nat):Bool:=match(bW g ss)[i]? with
 |some t=>(List.range g.prods.length).any λm=>decide (m≠0)&&match g.prods[m]? with
  |some p=>decide (p.left=t.sym)&&(List.range p.right.length).any λk=>decide ((bW g ss)[n]? =some ⟨dy ss t.st (p.right.take k),p.right.getD k 0⟩)&&FU g nn (p.right.drop (k+1))
  |none=>false
 |none=>false
def gd(g:ah)(ss:List SQ)(q m i:Nat):Bool:=match(bW g ss)[i]?,g.prods[m]? with
 |some t,some p=>decide (m≠0)&&decide (p.left=t.sym)&&decide (dy ss t.st p.right=q)
 |_,_=>false
def xQ(g:ah)(nn:List Bool)(ss:List SQ):List (List Int):=(List.range (bW g ss).length).map λi=>dz (bW g ss).length (kY g nn ss i)
def A7(g:ah)(nn:List Bool)(ss:List SQ):List (List Int):=(List.range (bW g ss).length).map λn=>dz (bW g ss).length (Cx g nn ss n)
structure mY where
 st:Int
 prod:Int
 tr:List Int
deriving DecidableEq
instance:Inhabited mY:=⟨⟨0,0,[]⟩⟩
def zl(g:ah)(ss:List SQ)(q m:Nat):List mY:=if dz (bW g ss).length (gd g ss q m)=[] then[] else[⟨q,m,dz (bW g ss).length (gd g ss q m)⟩]
def gG(g:ah)(ss:List SQ)(q j:Nat):List mY:=(List.range j).flatMap (zl g ss q)
def vO(g:ah)(ss:List SQ):List mY:=(List.range ss.length).flatMap λq=>gG g ss q g.prods.length
theorem A8(g:ah)(ss:List SQ)(q j:Nat):gG g ss q (j+1)=gG g ss q j++zl g ss q j:=by simp[gG,agx]
def Jd(g:ah)(j:Nat)(s:Int):List Nat:=(Zl g j s).filter λi=>decide (0<i)
theorem HZ{g:ah}{j:Nat}{p:aO}(h:g.prods[j]? =some p)(s:Int):Jd g (j+1) s=Jd g j s++if s=p.left/\0<j then[j] else[]:=by grind[Jd,HD]
theorem Gk(g:ah)(j:Nat)(s:Int):(Jd g j s).length<=j:=agn (agp _ _) (Mm g j s)
theorem qC{g:ah}{s:Int}{i:Nat}:i∈Jd g g.prods.length s↔0<i/\∃p,g.prods[i]? =some p/\p.left=s:=by
 unfold Jd;rw[agi,show Zl g g.prods.length s=Jb g s from rfl,yv,aga,and_comm]
section
variable{g:ah}{ss:List SQ}
theorem Rb(hA:bR g ss):∀n:Nat,(yw g ss n).Nodup
 |0=>by simp[yw]
 |n+1=>by
  cases hq:ss[n]? with
  |none=>simp only[yw,hq,agc];exact Rb hA n
  |some q=>
   rw[tu hq,agw]
   refine⟨Rb hA n,?_,λx hx y hy e=>?_⟩
   ·unfold gZ
    have h1:=D8 hA hq
    grind
   ·subst e
    obtain⟨i,_,_,e,hi,_,_,_,rfl⟩:=kX hx
    unfold gZ at hy
    grind
theorem Xp(hA:bR g ss):(bW g ss).Nodup:=Rb hA _
theorem Xq{α:Type}[DecidableEq α]{l:List α}(h:l.Nodup){i:Nat}{x:α}(hx:l[i]? =some x):l.idxOf x=i:=by grind
theorem Gl(hA:bR g ss){i:Nat}{t:aF}(h:(bW g ss)[i]? =some t):A6 g ss t=(i:Int)+1:=by
 unfold A6;rw[afZ (afI h),Xq (Xp hA) h]
theorem Cy(hA:bR g ss){t:aF}(h:0<A6 g ss t):∃i:Nat,A6 g ss t=(i:Int)+1/\(bW g ss)[i]? =some t:=by
 unfold A6 at h ⊢
 grind
end
section
variable{a b c d:ahr}{i j k l m n o p:Nat}{A B:Int}{w:ahs}{R:Value->WP}
theorem zo(h:new w (ψ a i j b k l c m n A d o p) λa b=>χ b (aM a) λc=>rE 195 [c] b λb c=>∃d e,b=vU [vP d,iI e]/\br (e !=0) (R (vU [vS none 0 0,iI e]) c) (new c (Obj.map (Array.mk []) 0) λb c=>nn d λe=>cLs c (e.add 8) λf g h=>τ [(31,aN)] λe h=>e 0 c/\∀(_:ν) c i,e c i->bQ (c<(g:Int)) (idx f g c 2 λf=>∃g j,rA i f 2 [iI g,iI j]/\new i (oC [iI 0,iI 0] 297) λf k=>bC k (aM f) [iI g,iI j] λg=>∀j,drawn g j->∃(g:WP),g j/\nn d λk=>∃l,(∀a,g a->cL a (k.add 12) (Value.map l))/\∃k,(∀a,g a->cL a (Addr.add (aM f) 1) (iI k))/\aX Tryz.prog (Instr.lookup 328 (Value.map l) (iI k) false) j λj k=>∃l m n,j=vS l m n/\g k/\τ [(44,aN)] λg j=>g 0 k/\∀(_:ν) k n,g k n->bQ (k<(m:Int)) (idx l m k 1 λe=>cLi n e λh=>∀e,drawn n e->∃(i:WP),i e/\∃l,(∀a,i a->cL a (aM f) (iI l))/\∃f m o,(∀b,i b->cL b (Addr.add (aM a) 4) (vS f m o))/\idx f m h 3 λa=>∃f m o,(∀b,i b->cL b (a.add 1) (vS f m o))/\rEi 196 [vP d,iI l,vS f m o,Value.func (Fn.func 197) (Array.mk []) (Array.mk [])] e λe d=>i d/\new d (oC [iI 0,iI 0] 297) λa d=>bC d (aM a) [iI e,iI h] λd=>∃e f,rA d (aM a) 2 [iI e,iI f]/\new d (oC [iI c] 3) λa c=>aX Tryz.prog (Instr.mapEntry 346 (Value.map (some b)) (vG [iI e,iI f])) c λc d=>∃e f h i,c=vU [vS e f h,iI i]/\rS (fX 24 (Array.mk [vS e f h,vS (some (aM a)) 1 1])) d λa c=>∃d e f,a=vS d e f/\aX Tryz.prog (Instr.entryStore 346 (Value.map (some b)) (iI i) (vS d e f)) c λ(_:Unit)(a:ahs)=>aD (k+1)/\g (k+1) a/\j (k+1) a<j k n) (aD (c+1)/\e (c+1) n/\h (c+1) n<h c i)) (nn d λc=>cLs i (c.add 5) λd e f=>τ [(13,lY),(77,aN)] λc d=>c none 0 0 0 i/\∀(_:ν) f g h i j,c f g h i j->bQ (i<(e:Int)) (cLs j (Addr.add (aM a) 4) λe k l=>τ [(13,lY),(83,aN)] λa e=>a f g h 0 j/\∀(_:ν) l m n o p,a l m n o p->bQ (o<(k:Int)) (aX Tryz.prog (Instr.lookup 346 (Value.map (some b)) (vG [iI i,iI o]) false) p λb c=>∃d f g,b=vS d f g/\bQ (0<(f:Int)) (rEs 132 [vS d f g] c λd f g c=>new c (oC [iI i,iI o,vS d f g] 212) λb c=>rS (fX 208 (Array.mk [vS l m n,vS (some (aM b)) 1 1])) c λb c=>∃d f g,b=vS d f g/\aD (o+1)/\a d f g (o+1) c/\e d f g (o+1) c<e l m n o p) (aD (o+1)/\a l m n (o+1) c/\e l m n (o+1) c<e l m n o p)) (aD (i+1)/\c l m n (i+1) p/\d l m n (i+1) p<d f g h i j)) (rEs 198 [vS f g h] j λc d e b=>R (vU [vS c d e,iI 0]) b)))):ρ 101 [φ a i j b k l c m n A d o p] w R:=rv Tryz.func101 ⟨[(6,[(31,(.one (.int .i64)))]),(9,[(44,(.one (.int .i64)))]),(18,[(13,(.one .slice)),(77,(.one (.int .i64)))]),(21,[(13,(.one .slice)),(83,(.one (.int .i64)))])],[],[],[]⟩ h
theorem JY(h:new w (ψ a i j b k l c m n A d o p) λa b=>χ b (aM a) λc=>rE 41 [c] b λb c=>∃d e f g h i,b=vU [vG [vS d e f,iI g,iI h],iI i]/\new c (oC [vS none 0 0,iI 0,iI 0] 76) λb c=>bC c (aM b) [vS d e f,iI g,iI h] λc=>br (i !=0) (R (vU [vP none,iI i]) c) (∃d e f g h i j k l m n o p,rA c (aM a) 5 [vS d e f,vS g h i,vS j k l,iI m,vS n o p]/\∃q r s t u,rA c (aM b) 3 [vS q r s,iI t,iI u]/\new c (Obj.map (Array.mk []) 0) λc v=>new v (Obj.map (Array.mk []) 0) λv w=>new w (Obj.map (Array.mk []) 0) λw x=>new x (oC [vS d e f,vS g h i,vS j k l,iI m,vS n o p,vS q r s,iI t,iI u,vS none 0 0,Value.map (some c),Value.map (some v),vS none 0 0,Value.map (some w)] 349) λc d=>χ d (aM a) λe=>rE 289 [e] d λd e=>∃f g h i,d=vU [vS f g h,iI i]/\st1 e (Addr.add (aM c) 8) (vS f g h) λd=>χ d (aM a) λe=>rE 179 [e] d λd e=>∃f g h i,d=vU [vS f g h,iI i]/\st1 e (Addr.add (aM c) 11) (vS f g h) λd=>cLs d (Addr.add (aM c) 8) λe f g=>τ [(51,aN)] λg h=>g 0 d/\∀(_:ν) d i,g d i->bQ (d<(f:Int)) (idx e f d 2 λa=>∃b e,rA i a 2 [iI b,iI e]/\new i (oC [iI 0,iI 0] 297) λa f=>bC f (aM a) [iI b,iI e] λb=>∀e,drawn b e->∃(b:WP),b e/\∃f,(∀a,b a->cL a (Addr.add (aM c) 9) (Value.map f))/\∃c j,(∀d,b d->rA d (aM a) 2 [iI c,iI j])/\aD (d+1)/\aX Tryz.prog (Instr.mapUpdate 347 (Value.map f) (vG [iI c,iI j]) (iI (d+1))) e λ(_:Unit)(a:ahs)=>aD (d+1)/\g (d+1) a/\h (d+1) a<h d i) (cLs i (aM b) λd e f=>τ [(67,aN)] λb f=>b 0 i/\∀(_:ν) g h,b g h->bQ (g<(e:Int)) (idx d e g 2 λa=>∃d e i j k l,rA h a 2 [vS d e i,vS j k l]/\new h (oC [vS none 0 0,vS none 0 0] 199) λa m=>bC m (aM a) [vS d e i,vS j k l] λd=>cLs d (Addr.add (aM a) 1) λe i j=>τ [(75,aN)] λa j=>a 0 d/\∀(_:ν) d k,a d k->bQ (d<(i:Int)) (idx e i d 2 λb=>∃e f,rA k b 2 [iI e,iI f]/\new k (oC [iI 0,iI 0] 203) λb h=>bC h (aM b) [iI e,iI f] λe=>∀f,drawn e f->∃(e:WP),e f/\∃h,(∀a,e a->cL a (Addr.add (aM c) 10) (Value.map h))/\∃c,(∀a,e a->cL a (aM b) (iI c))/\∃i,(∀a,e a->cL a (Addr.add (aM b) 1) (iI i))/\aD (i+1)/\aX Tryz.prog (Instr.mapUpdate 347 (Value.map h) (vG [iI g,iI c]) (iI (i+1))) f λ(_:Unit)(b:ahs)=>aD (d+1)/\a (d+1) b/\j (d+1) b<j d k) (aD (g+1)/\b (g+1) k/\f (g+1) k<f g h)) (cLs h (Addr.add (aM a) 4) λb d e=>τ [(95,aN)] λa e=>a 0 h/\∀(_:ν) f g,a f g->bQ (f<(d:Int)) (idx b d f 3 λb=>∃d h i j k,rA g b 3 [iI d,vS h i j,iI k]/\new g (oC [iI 0,vS none 0 0,iI 0] 134) λb l=>bC l (aM b) [iI d,vS h i j,iI k] λd=>bQ (0<f) (∀h,drawn d h->∃(d:WP),d h/\∃i,(∀a,d a->cL a (Addr.add (aM c) 12) (Value.map i))/\∃j,(∀a,d a->cL a (aM b) (iI j))/\∃k,(∀a,d a->cL a (Addr.add (aM c) 12) (Value.map k))/\∃c,(∀a,d a->cL a (aM b) (iI c))/\(aX Tryz.prog (Instr.lookup 328 (Value.map k) (iI c) false) h λb c=>∃h k l,b=vS h k l/\d c/\new c (oC [iI f] 3) λb c=>d c/\rS (fX 24 (Array.mk [vS h k l,vS (some (aM b)) 1 1])) c λb c=>∃h k l,b=vS h k l/\d c/\aX Tryz.prog (Instr.mapUpdate 328 (Value.map i) (iI j) (vS h k l)) c λ(_:Unit)(b:ahs)=>aD (f+1)/\a (f+1) b/\e (f+1) b<e f g)/\new h (oC [iI f] 3) λb h=>d h/\aX Tryz.prog (Instr.lookup 328 (Value.map k) (iI c) false) h λc h=>∃k l m,c=vS k l m/\d h/\rS (fX 24 (Array.mk [vS k l m,vS (some (aM b)) 1 1])) h λb c=>∃h k l,b=vS h k l/\d c/\aX Tryz.prog (Instr.mapUpdate 328 (Value.map i) (iI j) (vS h k l)) c λ(_:Unit)(b:ahs)=>aD (f+1)/\a (f+1) b/\e (f+1) b<e f g) (aD (f+1)/\a (f+1) d/\e (f+1) d<e f g)) (R (vU [vP (some (aM c)),iI 0]) g))))):ρ 195 [φ a i j b k l c m n A d o p] w R:=rv Tryz.func195 ⟨[(8,[(51,(.one (.int .i64)))]),(13,[(67,(.one (.int .i64)))]),(16,[(75,(.one (.int .i64)))]),(22,[(95,(.one (.int .i64)))])],[],[],[]⟩ h
theorem uG{f:FuncId}{g:List Value}(h:τ [(1,aN),(13,aN)] λc d=>c A 0 w/\∀(_:ν) e h j,c e h j->bQ (h<(i:Int)) (idx b i h 1 λb=>cLi j b λi=>oN (Proofs.YtaoaemnefghnbaaGreatDoor.Fn f) (rE f (iI e::iI h::g) j λb f=>b=vU []/\nn a λa=>∃b,cL f (a.add 10) (Value.map b)/\aX Tryz.prog (Instr.lookup 347 (Value.map b) (vG [iI e,iI i]) false) f λa b=>∃f,a=iI f/\aD (f-1)/\aD (h+1)/\c (f-1) (h+1) b/\d (f-1) (h+1) b<d e h j)) (R (iI e) j)):ρ 196 [.pointer a,iI A,vS b i j,(.func (.func f) #[] ⟨g⟩)] w R:=rv Tryz.func196 ⟨[(2,[(1,(.one (.int .i64))),(13,(.one (.int .i64)))])],[],[],[]⟩ h
theorem uI(h:R (vU []) w):ρ 197 [iI A,iI B] w R:=rv Tryz.func197 ⟨[],[],[],[]⟩ h
abbrev pz:FuncId:=285
theorem Ef(h:new w (ψ a i j b k l c m n A d o p) λa b=>χ b (aM a) λc=>rE 195 [c] b λb c=>∃d e,b=vU [vP d,iI e]/\new c (oC [vP none] 343) λb c=>st1 c (aM b) (vP d) λc=>br (e !=0) (R (vU [vS none 0 0,iI e]) c) (cLp c (aM b) λd=>rEs 340 [vP d,Value.func (Fn.func 341) (Array.mk []) (Array.mk [vP (some (aM b)),vP (some (aM a))])] c λc d e b=>R (vU [vS c d e,iI 0]) b)):ρ 285 [φ a i j b k l c m n A d o p] w R:=rv Tryz.func285 ⟨[],[],[],[]⟩ h
abbrev kZ:FuncId:=287
theorem zq(h:new w (ψ a i j b k l c m n A d o p) λa b=>χ b (aM a) λc=>rE 195 [c] b λb c=>∃d e,b=vU [vP d,iI e]/\new c (oC [vP none] 343) λb c=>st1 c (aM b) (vP d) λc=>br (e !=0) (R (vU [vS none 0 0,iI e]) c) (cLp c (aM b) λd=>rEs 340 [vP d,Value.func (Fn.func 342) (Array.mk []) (Array.mk [vP (some (aM b)),vP (some (aM a))])] c λc d e b=>R (vU [vS c d e,iI 0]) b)):ρ 287 [φ a i j b k l c m n A d o p] w R:=rv Tryz.func287 ⟨[],[],[],[]⟩ h
theorem vR{b:FuncId}{c:List Value}(h:nn a λa=>cLs w (a.add 8) λd e f=>vd (e:Int) (e:Int) 24/\new w (Obj.cells (Array.mk (iX (Int.toNat (e:Int)) [vS none 0 0])) 24) λa d=>new d (oC [vS none 0 0] 71) λd f=>st1 f (aM d) (vS (some (aM a)) (Int.toNat (e:Int)) (Int.toNat (e:Int))) λa=>oN (Proofs.YtaoaemnefghnbaaGreatDoor.Fn b) (rE b (Value.func (Fn.func 377) (Array.mk []) (Array.mk [vP (some (aM d))])::c) a λa b=>a=vU []/\cLs b (aM d) λa c e=>τ [(18,aN)] λa e=>a 0 b/\∀(_:ν) b f,a b f->bQ (b<(c:Int)) (cLs f (aM d) λc g h=>idx c g b 1 λc=>cLs f c λg h i=>rE 96 [vS g h i] f λc g=>c=vU []/\∀c,drawn g c->∃(g:WP),g c/\∃h i j,(∀a,g a->cL a (aM d) (vS h i j))/\∃j k l,(∀a,g a->cL a (aM d) (vS j k l))/\idx j k b 1 λd=>∃j k l,(∀a,g a->cL a d (vS j k l))/\rEs 378 [vS j k l] c λj k l d=>g d/\rEs 132 [vS j k l] d λj k l d=>g d/\idx h i b 1 λc=>st1 d c (vS j k l) λc=>aD (b+1)/\a (b+1) c/\e (b+1) c<e b f) (cLs f (aM d) λa b c=>R (vS a b c) f))):ρ 340 [.pointer a,(.func (.func b) #[] ⟨c⟩)] w R:=rv Tryz.func340 ⟨[(4,[(18,(.one (.int .i64)))])],[],[],[]⟩ h
theorem zv{a:FuncId}{b:List Value}{c:Addr}{d:Addr}(h:cLp w c λe=>nn e λe=>cLs w (e.add 8) λf g h=>τ [(14,aN)] λe h=>e 0 w/\∀(_:ν) i j,e i j->bQ (i<(g:Int)) (idx f g i 2 λf=>∃g k,rA j f 2 [iI g,iI k]/\new j (oC [iI 0,iI 0] 297) λf l=>bC l (aM f) [iI g,iI k] λg=>∀k,drawn g k->∃(g:WP),g k/\∃l,(∀a,g a->cL a c (vP l))/\nn l λl=>∃m,(∀a,g a->cL a (l.add 10) (Value.map m))/\∃l n,(∀a,g a->rA a (aM f) 2 [iI l,iI n])/\aX Tryz.prog (Instr.lookup 347 (Value.map m) (vG [iI l,iI n]) false) k λf k=>∃l,f=iI l/\g k/\aD (l-1)/\cLp k c λf=>nn f λf=>cLs k (f.add 5) λg m n=>idx g m (l-1) 2 λf=>cLs k (f.add 1) λg m n=>τ [(36,aN)] λf n=>f 0 k/\∀(_:ν) k o,f k o->bQ (k<(m:Int)) (idx g m k 2 λe=>∃g h,rA o e 2 [iI g,iI h]/\new o (oC [iI 0,iI 0] 203) λe j=>bC j (aM e) [iI g,iI h] λg=>∀h,drawn g h->∃(g:WP),g h/\∃j,(∀a,g a->cL a (aM e) (iI j))/\∃m p q,(∀a,g a->cL a d (vS m p q))/\bQ ((p:Int)<=j) (∃j,(∀a,g a->cL a c (vP j))/\nn j λj=>∃m p q,(∀a,g a->cL a (j.add 11) (vS m p q))/\∃j,(∀a,g a->cL a (aM e) (iI j))/\∃q r s,(∀a,g a->cL a d (vS q r s))/\aD (j-(r:Int))/\idx m p (j-(r:Int)) 1 λd=>∃j,(∀a,g a->cL a d (vB j))/\br j (∀d,drawn h d->∃(g:WP),g d/\∃h,(∀a,g a->cL a c (vP h))/\nn h λc=>∃h,(∀a,g a->cL a (c.add 9) (Value.map h))/\∃c,(∀a,g a->cL a (aM e) (iI c))/\aX Tryz.prog (Instr.lookup 347 (Value.map h) (vG [iI (l-1),iI c]) false) d λc d=>∃e,c=iI e/\g d/\aD (e-1)/\oN (Proofs.YtaoaemnefghnbaaGreatDoor.Fn a) (rE a (iI i::iI (e-1)::b) d λa b=>a=vU []/\aD (k+1)/\f (k+1) b/\n (k+1) b<n k o)) (aD (k+1)/\f (k+1) h/\n (k+1) h<n k o)) (aD (k+1)/\f (k+1) h/\n (k+1) h<n k o)) (aD (i+1)/\e (i+1) o/\h (i+1) o<h i j)) (R (vU []) j)):ρ 341 [(.func (.func a) #[] ⟨b⟩),(.pointer (some c)),(.pointer (some d))] w R:=rv Tryz.func341 ⟨[(1,[(14,(.one (.int .i64)))]),(5,[(36,(.one (.int .i64)))])],[],[],[]⟩ h
theorem uK{a:FuncId}{b:List Value}{c:Addr}{d:Addr}(h:new w (oC [Value.func (Fn.func a) (Array.mk []) (Array.mk b)] 351) λa b=>cLp b c λe=>nn e λe=>cLs b (e.add 8) λf g h=>τ [(14,aN)] λe h=>e 0 b/\∀(_:ν) b i,e b i->bQ (b<(g:Int)) (idx f g b 2 λf=>∃g j,rA i f 2 [iI g,iI j]/\new i (oC [iI 0] 3) λf k=>new k (oC [iI 0,iI 0] 297) λk l=>st1 l (aM f) (iI b) λl=>bC l (aM k) [iI g,iI j] λg=>∀j,drawn g j->∃(g:WP),g j/\∃l,(∀a,g a->cL a c (vP l))/\nn l λl=>∃m,(∀a,g a->cL a (l.add 12) (Value.map m))/\∃l,(∀a,g a->cL a (Addr.add (aM k) 1) (iI l))/\aX Tryz.prog (Instr.lookup 328 (Value.map m) (iI l) false) j λj l=>∃m n o,j=vS m n o/\g l/\τ [(27,aN)] λg j=>g 0 l/\∀(_:ν) l o,g l o->bQ (l<(n:Int)) (idx m n l 1 λb=>cLi o b λe=>cLs o (d.add 4) λb h i=>idx b h e 3 λb=>cLs o (b.add 1) λd e h=>new o (oC [vS none 0 0] 24) λb i=>st1 i (aM b) (vS d e h) λd=>cLp d c λe=>cLi d (aM k) λh=>cLs d (aM b) λi k m=>rEi 196 [vP e,iI h,vS i k m,Value.func (Fn.func 343) (Array.mk []) (Array.mk [vP (some c),vP (some (aM b)),vP (some (aM a)),vP (some (aM f))])] d λc b=>aD (l+1)/\g (l+1) b/\j (l+1) b<j l o) (aD (b+1)/\e (b+1) o/\h (b+1) o<h b i)) (R (vU []) i)):ρ 342 [(.func (.func a) #[] ⟨b⟩),(.pointer (some c)),(.pointer (some d))] w R:=rv Tryz.func342 ⟨[(2,[(14,(.one (.int .i64)))]),(5,[(27,(.one (.int .i64)))])],[],[],[]⟩ h
theorem qb{c:Addr}{d:Addr}{e:Addr}{f:Addr}(h:∀a,drawn w a->∃(b:WP),b a/\∃g,(∀a,b a->cL a c (vP g))/\nn g λg=>∃h,(∀a,b a->cL a (g.add 9) (Value.map h))/\∃g i j,(∀a,b a->cL a d (vS g i j))/\idx g i B 1 λg=>∃i,(∀a,b a->cL a g (iI i))/\aX Tryz.prog (Instr.lookup 347 (Value.map h) (vG [iI A,iI i]) false) a λa g=>∃h,a=iI h/\b g/\∀a,drawn g a->∃(b:WP),b a/\bQ (0<h) (∃g,(∀a,b a->cL a c (vP g))/\∃c i j,(∀a,b a->cL a d (vS c i j))/\aD (B+1)/\lV c i j (some (B+1)) none none 1 λ(c:ahr)(d i:Nat)=>rEb 344 [vP g,vS c d i] a λd c=>b c/\br d (∃a b,cL c e (Value.func (Fn.func a) (Array.mk []) (Array.mk b))/\aD (h-1)/\cLi c f λd=>oN (Proofs.YtaoaemnefghnbaaGreatDoor.Fn a) (rE a (iI (h-1)::iI d::b) c λa b=>a=vU []/\R (vU []) b)) (R (vU []) c)) (R (vU []) a)):ρ 343 [iI A,iI B,(.pointer (some c)),(.pointer (some d)),(.pointer (some e)),(.pointer (some f))] w R:=rv Tryz.func343 ⟨[],[],[],[]⟩ h
theorem qe(h:new w (oC [vP a] 343) λa c=>rEb 126 [vS b i j,Value.func (Fn.func 379) (Array.mk []) (Array.mk [vP (some (aM a))])] c λc b=>R (vB !c) b):ρ 344 [.pointer a,vS b i j] w R:=rv Tryz.func344 ⟨[],[],[],[]⟩ h
abbrev bM:FuncId:=377
theorem q8{c:Addr}(h:∀a,drawn w a->∃(b:WP),b a/\∃d e f,(∀a,b a->cL a c (vS d e f))/\∃f g h,(∀a,b a->cL a c (vS f g h))/\idx f g A 1 λc=>∃f g h,(∀a,b a->cL a c (vS f g h))/\new a (oC [iI B] 3) λa c=>b c/\rS (fX 24 (Array.mk [vS f g h,vS (some (aM a)) 1 1])) c λa c=>∃f g h,a=vS f g h/\b c/\idx d e A 1 λa=>st1 c a (vS f g h) λa=>R (vU []) a):ρ 377 [iI A,iI B,(.pointer (some c))] w R:=rv Tryz.func377 ⟨[],[],[],[]⟩ h
abbrev hZ:FuncId:=379
theorem nD{b:Addr}(h:∀a,drawn w a->∃(c:WP),c a/\∃d,(∀a,c a->cL a b (vP d))/\nn d λd=>∃e f g,(∀a,c a->cL a d (vS e f g))/\bQ (A<(f:Int)) (R (vB true) a) (∃d,(∀a,c a->cL a b (vP d))/\nn d λd=>∃e f g,(∀a,c a->cL a (d.add 11) (vS e f g))/\∃d,(∀a,c a->cL a b (vP d))/\nn d λb=>∃d g h,(∀a,c a->cL a b (vS d g h))/\aD (A-(g:Int))/\idx e f (A-(g:Int)) 1 λb=>∃d,(∀a,c a->cL a b (vB d))/\R (vB !d) a)):ρ 379 [iI A,(.pointer (some b))] w R:=rv Tryz.func379 ⟨[],[],[],[]⟩ h
end
theorem SY:∀(l:List Int)(a b:Int),dd (l++[a,b])=if a=b then dd (l++[a]) else dd (l++[a])++[b]
 |[],a,b=>by simp_all[dd]
 |[x],a,b=>by grind[dd]
 |x::y::l,a,b=>by
  have ih:=SY (y::l) a b
  have e1:dd (x::y::l++[a,b])=if x=y then dd (y::l++[a,b]) else x::dd (y::l++[a,b]):=rfl
  have e2:dd (x::y::l++[a])=if x=y then dd (y::l++[a]) else x::dd (y::l++[a]):=rfl
  grind
theorem Gm{xs:List Int}{m:Nat}{a b:Int}(ha:xs[m]? =some a)(hb:xs[m+1]? =some b):dd (xs.take (m+2))=if a=b then dd (xs.take (m+1)) else dd (xs.take (m+1))++[b]:=by simp_all[afM,SY]
theorem Xr{xs:List Int}{n:Nat}(h:n<=1):dd (xs.take n)=xs.take n:=by
 match n,h with
 |0,_=>rfl
 |1,_=>cases xs<;>simp[dd]
section
open Go.V Go.Sort Go.Shelf
variable{w:ahs}{L:List aC}{a:ahr}{l c:Nat}{xs:List Int}
theorem Re(h:St w (own 1 a l c (iv xs)::L))(hb:l<4611686018427387904):
  ρ 378 [vS a l c] w λv w'=>∃a' c',v=.slice a' (dd xs).length c'/\St w' (own 1 a' (dd xs).length c' (iv (dd xs))::L):=by
 have a9:=fO h;rw[cZ] at a9;have U:=bI h;have hl:xs.length=l:=ω
 refine oe (ae (λh1=>?_) λh1=>?_)
 ·have h1:l<2:=by grind
  have e:dd xs=xs:=by have:=Xr (xs:=xs) (n:=l) ω;grind
  grind
 have h1:2<=l:=by grind
 refine⟨λz w'=>∃n:Nat,z=((n+1:Nat):Int)/\n+1<=l/\dd (xs.take (n+1))=xs.take (n+1)/\St w' (own 1 a l c (iv xs)::L),λz _=>l-z.toNat,⟨0,rfl,ω,Xr (afR _),h⟩,?_⟩;clear h;rintro _ z w1⟨n,rfl,hn,hS,h⟩;refine ae (λW=>?_) λW=>?_
 rotate_left
 ·grind
 have W:n+1<l:=by grind
 intro w2 hd;have h:=h.eq (aP hd);have X:aY (hp w2) xs a l:=bp hl (dE 0 h.l);obtain⟨x,ad,hx,rfl,cx⟩:=X.dS W;obtain⟨z,b1,hz,e2,cz⟩:=X.dS (by omega:n<l);cases e2;have e1:((n+1:Nat):Int)-1=(n:Int):=ω
 rw[e1];refine⟨λu=>Gr w2 u,Gr.refl _,ay rfl W ⟨x,λu s=>cx u s,⟨ω,ω⟩,ay rfl ω ⟨z,λu s=>cz u s,ae (λJ=>?_) λJ=>?_⟩⟩⟩
 rotate_left
 ·have J:x≠z:=by simp_all
  refine⟨⟨ω,ω⟩,⟨n+1,σ,W,?_,h⟩,bY W⟩;rw[Gm hz hx,afV (Ne.symm J),hS,afM (i:=n+1),hx];rfl
 have J:x=z:=by simp_all
 subst J;refine dw ω U ?_
 refine⟨λz y w'=>∃(k t:Nat)(us:List Int),z=(k:Int)/\y=((t+1:Nat):Int)/\n+1<=k/\k<=n+1+t/\n+1+t+1<=l/\us.length=l/\us.drop k=xs.drop k/\us.take k=dd (xs.take (n+1+t+1))/\St w' (own 1 (some ad) l c (iv us)::L),λ_ y _=>l-y.toNat,
  ⟨n+1,0,xs,rfl,rfl,afR _,afR _,ω,hl,rfl,?_,h⟩,?_⟩
 ·rw[show n+1+0+1=n+2 by omega,Gm hz hx,afZ rfl,hS]
 clear h X cx cz;rintro _ _ _ w3⟨k,t,us,rfl,rfl,a5,al,ht,a4,V,O,h⟩;have aa:(iv us).length=l:=by grind[cZ]
 refine ae (λJ=>?_) λJ=>?_
 rotate_left
 ·have J:l=n+1+t+1:=by grind
  rw[<-J,af3 (show xs.length<=l by omega)] at O;have am:(dd xs).length=k:=by grind
  have hc:=KE (ty:=0) (c2:=c-k) aT (rfl:ai Ty Ws=.slice _) (rfl:Ty dU=some _) rfl rfl (λv hv=>by rcases af6.1 hv with rfl|hv;rfl;grind) σ h (show k<=l by omega);refine dw ω U (hc.mono ?_);rintro _ w4⟨vs,hv,h⟩;refine ir ω ?_;have h:=qz h (k:=k) ω;have e:vs.take (k*1)=iv (dd xs):=hv.trans (by rw[<-O];simp[iv,List.map_take])
  grind
 have J:t+1<l-(n+1):=by grind
 intro w4 hd;have h:=h.eq (aP hd);have X:=(bp a4 (dE 0 h.l):aY (hp w4) us (some ad) l).drop (k:=n+1) (m:=c) ω U
 have same:∀j,k<=j->us[j]? =xs[j]?:=λj hj=>by
  have:=congrArg (λl=>l[j-k]?) V;simp only[agG] at this
  simp_all
 obtain⟨Y,b2,a7,e3,cx⟩:=X.dS J;obtain⟨z2,av,a8,e4,cz⟩:=X.dS (by omega:t<l-(n+1));rw[e3] at e4;cases e4;rw[agG,same _ ω] at a7 a8;have e1:((t+1:Nat):Int)-1=(t:Int):=ω
 have Z:xs[n+1+t+1]? =some Y:=ω
 have a0:xs[n+1+t]? =some z2:=ω
 rw[e1];refine⟨λu=>Gr w4 u,Gr.refl _,ay e3 J ⟨Y,λu s=>cx u s,⟨ω,ω⟩,ay e3 ω ⟨z2,λu s=>cz u s,ae (λh4=>?_) λh4=>?_⟩⟩⟩
 rotate_left
 ·have h4:Y=z2:=by simp_all
  subst h4;refine⟨⟨ω,ω⟩,⟨k,t+1,us,rfl,σ,a5,ω,ω,a4,V,?_,h⟩,bY ω⟩;rw[O,show n+1+(t+1)+1=n+1+t+2 by omega,Gm a0 Z,afZ rfl]
 have h4:Y≠z2:=by simp_all
 refine ay e3 J ⟨Y,cx _ (Gr.refl _),ay rfl ω ?_⟩;refine gE h rfl ω λw5 h=>?_;rw[Gd] at h
 refine⟨⟨ω,ω⟩,⟨ω,ω⟩,⟨k+1,t+1,us.set k Y,σ,σ,ω,ω,ω,by simp_all,?_,?_,h⟩,bY ω⟩
 ·rw[List.drop_set_of_lt ω,<-List.drop_drop (i:=1),V,List.drop_drop]
 ·have a6:k<us.length:=ω
  rw[show n+1+(t+1)+1=n+1+t+2 by omega,Gm a0 Z,afV (Ne.symm h4),<-O,afM,List.getElem?_set_self a6,List.take_set_of_le (afR _)];rfl
end
section
open MapKept
section
variable{κ:Type}[DecidableEq κ][MVal κ]{P:Program}{w:ahs}{L:List aC}{Ty:TypeId->Option dp}
theorem yC(k:κ)(u v:Value):∀m:List (κ×Value),cO k v (cO k u m)=cO k v m
 |[]=>by simp[cO]
 |(a,x)::m=>by
  unfold cO
  by_cases h:k=a
  ·simp_all[cO]
  ·have e:cO k u ((a,x)::m)=(a,x)::cO k u m:=by show(if k=a then _ else _)=_;simp_all
   rw[e,afV h]
   show(if k=a then _ else(a,x)::cO k v (cO k u m))=_
   rw[afV h,yC k u v m]
theorem abT{k:κ}{u:Value}:∀{m:List (κ×Value)}{j:Nat},assoc k m=some u->(m[j]?).map (·.1)=some k->(∀v,cO k v m=m.set j (k,v))->m[j]? =some (k,u)
 |[],j,h,_,_=>by grind
 |(a,x)::m,0,h,hk,hp=>by simp_all[assoc]
 |(a,x)::m,j+1,h,hk,hp=>by
  by_cases e:k=a
  ·simp_all[cO]
  ·have e1:assoc k ((a,x)::m)=assoc k m:=by show(if k=a then _ else _)=_;simp_all
   rw[e1] at h
   rw[ahp] at hk ⊢
   refine abT h hk λv=>?_
   simp_all[cO]
def acQ(b:Nat)(m:List (κ×Value))(k:κ)(n:Int):aC:=λh=>∃es clock i,h b=some (.map es clock)/\zQ es clock m/\i<m.length/\(∀u,cO k u m=m.set i (k,u))/\(m[i]?).map (·.1)=some k/\(es[i]?).map (λe=>(e.born:Int))=some n
theorem MF{b:Nat}{m:List (κ×Value)}{k:κ}{n:Int}:St w (acQ b m k n::L)↔∃es clock i,zQ es clock m/\i<m.length/\(∀u,cO k u m=m.set i (k,u))/\(m[i]?).map (·.1)=some k/\(es[i]?).map (λe=>(e.born:Int))=some n/\St w (blk b (.map es clock)::L):=
 ⟨λ⟨W,U,d,s1,s2,⟨es,cl,i,ha,O,X,V,Y,J⟩,hl⟩=>⟨es,cl,i,O,X,V,Y,J,W,U,d,s1,s2,ha,hl⟩,λ⟨es,cl,i,O,X,V,Y,J,W,U,d,s1,s2,ha,hl⟩=>⟨W,U,d,s1,s2,⟨es,cl,i,ha,O,X,V,Y,J⟩,hl⟩⟩
theorem Rf{b:Nat}{es:Array MapEntry}{cl:Nat}(hg:w.heap[b]? =some (.map es cl))(o:Array MapEntry×Nat):Ev w { w with heap:=w.heap.setIfInBounds b (.map o.1 o.2) }:=by
 refine⟨rfl,rfl,rfl,σ,?_,?_⟩<;>
 ·grind
theorem map_take(hT:dY P Ty){t kt et:TypeId}{i:dp}{z:Value}(hk:ai Ty t=.map kt et)(hkt:wM P kt κ)(hi:Ty et=some i)(hz:i.zero=some z){b:Nat}{m:List (κ×Value)}(h:St w (mapA b m::L))(k:κ):
  aX P (Instr.mapEntry t (.map (some b)) (MVal.val k)) w λv w'=>∃n:Int,v=.tuple #[(assoc k m).getD z,iI n]/\St w' (acQ b (cO k ((assoc k m).getD z) m) k n::L):=by
 obtain⟨d,hd,a8⟩:=dv hT hk σ;rw[BJ a8] at hd;obtain⟨es,cl,⟨Y,a5,a6⟩,h⟩:=mA.1 h;obtain⟨r,hf,q2,q3,q4⟩:=hkt.find w k es.toList m Y;obtain⟨a9,d2,ha⟩:=rU hT hi;have a0:(zeroValue et).run P w=.ok z w:=mF ha.inf (by rw[<-ha.zero,hz]);have J:=h.get;have hc:=λe=>hkt.check w e k;have aa:es.size=m.length:=by have:=congrArg List.length Y;grind
 cases r with
 |none=>
  have Z:assoc k m=none:=by simp_all
  rw[Z]
  refine⟨_,_,?_,Rf J (es.push { key:=MVal.val k,val:=z,born:=cl },cl+1),cl,rfl,MF.2 ⟨_,_,m.length,?_,?_,?_,?_,?_,h.setObj _⟩⟩
  ·unfold Instr.mapEntry;simp only[Sem.run_bind,bm hd,Result.andThen_ok,run_getObj_map w b es cl J,hc,hf,a0];rw[run_setObj_map _ J];rfl
  ·refine⟨by simp_all,?_,?_⟩
   ·grind
   grind
  ·simp_all
  ·intro u
   show cO k u (cO k z m)=(cO k z m).set _ _
   rw[yC,q4 rfl u,q4 rfl z];simp
  ·simp_all
  grind
 |some x=>
  obtain⟨j,u⟩:=x;obtain⟨p2,p3,p4⟩:=q3 j u rfl;have hj:j<es.size:=ω
  have Z:assoc k m=some u:=by simp_all
  have ad:m[j]? =some (k,u):=abT Z p3 p4;have X:cO k u m=m:=by simp_all[BS]
  have W:(es[j]?).map (λe=>(e.key,e.val))=some (MVal.val k,u):=by
   have h1:=congrArg (λl=>l[j]?) Y
   grind
  obtain⟨e,V,a7⟩:=aha.1 W;have O:e.key=MVal.val k:=congrArg Prod.fst a7;have a4:((es[j]?).map (·.key)).getD (MVal.val k)=MVal.val k:=by simp_all
  have U:(es.modify j λe=>{ e with key:=MVal.val k })=es:=by
   apply Array.ext_getElem?;intro i;rw[ag6]
   split
   ·rename_i hji;subst hji;rw[V,<-O];rfl
   rfl
  rw[Z]
  refine⟨_,_,?_,Rf J (es,cl),(e.born:Int),rfl,MF.2 ⟨_,_,j,?_,?_,?_,?_,?_,h.setObj _⟩⟩
  ·unfold Instr.mapEntry;simp only[Sem.run_bind,bm hd,Result.andThen_ok,run_getObj_map w b es cl J,hc,hf,a4,Instr.keyThatStays,hkt.bits,if_true,Sem.run_pure,U];rw[run_setObj_map _ J];simp[V,goInt]
  ·show zQ _ _ (cO k u m)
   rw[X];exact⟨Y,a5,a6⟩
  ·simp_all
  ·simp_all
  ·simp_all
  simp_all
theorem OY{t:TypeId}{b:Nat}{m:List (κ×Value)}{k:κ}{n:Int}(h:St w (acQ b m k n::L))(x:Value):
  aX P (Instr.entryStore t (.map (some b)) (iI n) x) w λ_ w'=>St w' (mapA b (cO k x m)::L):=by
 obtain⟨es,cl,i,⟨V,a0,a4⟩,hi,u,hm,hb,h⟩:=MF.1 h;have U:=h.get;have W:es.size=m.length:=by have:=congrArg List.length V;grind
 obtain⟨e,X,Y⟩:=aha.1 hb
 have O:es.findIdx? (λe=>(e.born:Int)==n)=some i:=by
  rw[Array.findIdx?_eq_some_iff_getElem]
  refine⟨ω,?_,λj hj=>?_⟩
  ·simp_all
  ·intro J;have J:(es[j].born:Int)=n:=by simp_all
   have Z:(es.toList.map (·.born))[j]? =some es[j].born:=by grind
   have h2:(es.toList.map (·.born))[i]? =some e.born:=by simp_all
   grind[List.getElem?_inj]
 refine⟨(),_,?_,Rf U (es.modify i λe=>{ e with val:=x },cl),mA.2 ⟨_,_,?_,h.setObj _⟩⟩
 ·unfold Instr.entryStore;simp only[Sem.run_bind,run_getObj_map w b es cl U,Result.andThen_ok]
  show((asInt (iI n)).run P w).andThen _=_
  have ha:(asInt (iI n)).run P w=.ok n w:=rfl
  grind[Result.andThen_ok,run_setObj_map]
 ·refine⟨?_,?_,?_⟩
  rotate_left
  ·have:(es.modify i λe=>{ e with val:=x }).toList.map (·.born)=es.toList.map (·.born):=by
    apply agq
    grind
   simp_all
  ·grind[List.getElem?_of_mem,List.mem_of_getElem?]
  rw[u x];apply agq;intro j;have Z:=congrArg (λl=>l[j]?) V
  grind
end
theorem aj.part{h:Hp}{b:Nat}{vs:List Value}(r:aj h ⟨b,0,none⟩ vs)(i n:Nat):aj h ((⟨b,0,none⟩:Addr).add (eV i n)) ((vs.drop (i*n)).take n):=λj v u=>by
 rw[agH] at u
 split at u
 ·rw[agG] at u
  rw[add_add,bg]
  exact r _ v u
 simp_all
theorem aeM{h:Hp}{k T:Nat}{nl nn:List Bool}(r:aj h ⟨k,0,none⟩ (bv (nl++nn)))(hl:nl.length=T)(hn:0<nn.length):aY h nn (some ⟨k,T,none⟩) nn.length:=by
 have h0:aY h (nl++nn) (some ⟨k,0,none⟩) (nl.length+nn.length):=Hb σ (.inr ⟨_,rfl,r⟩);have u:=h0.drop (k:=T) (m:=nl.length+nn.length) ω (afR _)
 have e:fE (some ⟨k,0,none⟩) T (nl.length+nn.length) 1=some ⟨k,T,none⟩:=by
  unfold fE;rw[afV ω,ahg,show eV T 1=T from by rfl,ak]
 have J:(nl++nn).drop T=nn:=by simp_all
 rw[J,show nl.length+nn.length-T=nn.length from ω] at u;exact e▸u
end
section
variable{w:ahs}{L:List aC}{g:ah}{x:GA}
theorem OZ(hg:gR (hp w) g x)(hb:mi g)(ht:dK (hp w)):ρ 179 [.agg ⟨x.cells⟩] w λv w'=>∃(o:ahr)(n c:Nat)(e:Int),v=.tuple #[vS o n c,iI e]/\Gr w w'/\((¬bZ g/\e=1/\n=0)\/(bZ g/\e=0/\n=g.N/\∃nn,u6 g nn/\aY (hp w') nn o n)):=by
 refine(HY hg hb ht).mono ?_
 rintro _ w' (⟨u,rfl,J⟩|⟨u,k,nl,nn,J,O,rfl,U⟩)
 ·exact⟨_,_,_,_,rfl,J,.inl ⟨u,rfl,rfl⟩⟩
 ·have:=aeM U.row J (by have:=(Jc u).2.2.2.1;rw[O.1];exact this);rw[O.1] at this;exact⟨_,_,_,_,rfl,U.aQ,.inr ⟨u,rfl,rfl,nn,O,this⟩⟩
end
theorem O0{g:ah}(h:mj g):g.terms.length<=65/\g.cM.length<=64/\g.prods.length<=97/\¬g.cM[0]? =some .empty:=by
 obtain⟨V,J,bN,W,U,O⟩:=Jc (.inl h);refine⟨J,h.1.2.2.2.1,O,λu=>?_⟩;have:=h.1.2.2.2.2.2.2.2.2.2 _ (afI (i:=0) (by simpa using u))
 simp_all[kR]
theorem MG(ms:List Bool)(u:Nat)(b:Bool):(bv ms).set u (vB b)=bv (ms.set u b):=by simp[bv]
theorem Rg(n:Nat):List.replicate n (vB false)=bv (List.replicate n false):=by simp[bv]
def acR(g:ah)(e:Int)(nn:List Bool):Prop:=(¬bZ g/\e=1/\nn=[])\/(bZ g/\e=0/\u6 g nn)
section
variable{w:ahs}{L:List aC}{g:ah}{x:GA}{a a2:ahr}{l l2 c c2:Nat}{bs:List Bool}{row:List Int}
theorem O1(hg:gR (hp w) g x)(hb:mi g)(ht:dK (hp w)):ρ 179 [.agg ⟨x.cells⟩] w λv w'=>∃(o:ahr)(n c:Nat)(e:Int)(nn:List Bool),v=.tuple #[vS o n c,iI e]/\nn.length=n/\acR g e nn/\St w' (own 1 o n c (bv nn)::all w):=by
 refine(HY hg hb ht).mono ?_
 rintro _ w' (⟨J,rfl,O⟩|⟨J,k,nl,nn,O,u,rfl,U⟩)
 ·exact⟨_,_,_,_,[],rfl,rfl,.inl ⟨J,rfl,rfl⟩,aI 1 (bH O)⟩
 ·refine⟨_,_,_,_,nn,rfl,u.1,.inr ⟨J,rfl,u⟩,?_⟩;have e:bv (nl++nn)=bv nl++(bv nn++([]++[])):=by simp[bv]
  rw[e] at U;have:=fj (pre:=bv nl) (vs:=bv nn) (cs:=[]) (post:=[]) (l:=g.N) (c:=g.N) (sz:=1) U (by rw[qL,u.1,agE]) (by rw[agc,qL,u.1,agE]) (afR _)
  simp_all[qL]
end
end Go.Proofs.YtaoaemnefghnbaaGreatDoor
