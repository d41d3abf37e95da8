/- Texts of this claim, one behind the other. -/
import Derived.Test.YtaoaemnefghnbaaGreatDoorG3
import Derived.Laws.IdiomStrings
import Derived.Test.YtaoaemnefghnbaaGreatDoorG2
import Derived.Laws.StructEq
set_option linter.unusedVariables false
set_option linter.unusedSectionVars false
set_option maxRecDepth 100000
set_option maxHeartbeats 16000000
namespace Go.V
end Go.V
namespace Go.Proofs.YtaoaemnefghnbaaGreatDoor
end Go.Proofs.YtaoaemnefghnbaaGreatDoor
open Go.V Go.Proofs.YtaoaemnefghnbaaGreatDoor
namespace Go.Proofs.YtaoaemnefghnbaaGreatDoor
theorem afG{n:Nat}(h:(n+1)*16<=140737488355328):n<9223372036854775807:=ω
theorem tJ{α:Type}:∀{l m:List α},l.Nodup->(∀x∈l,x∈m)->l.length<=m.length
 |[],m,_,_=>agP _
 |a::l,m,h,hs=>by
  obtain⟨m1,m2,rfl⟩:=List.append_of_mem (hs a σ)
  rw[ahE] at h
  have:=tJ (l:=l) (m:=m1++m2) h.2 λx hx=>by grind
  grind
def it0(i:Nat):au:=⟨(i:Int),0⟩
theorem vF.or{g:ah}{I:List au}{x:au}(h:vF g I x):x∈I\/∃i,i<g.prods.length/\x=it0 i:=by
 cases h with
 |base h=>simp_all
 |step _ _ hp _=>exact .inr ⟨_,(agN.1 hp).1,rfl⟩
theorem Ta(g:ah)(I:List au):(cls g I).length<=I.length+g.prods.length:=by
 have:=tJ (m:=I++(List.range g.prods.length).map it0) (Mg (g:=g) (I:=I)).nodup λx u=>by
  rw[agX]
  rcases(B_.1 u).or with h|⟨i,hi,rfl⟩
  ·simp_all
  grind
 simp_all
theorem XF{h:Hp}{xs:List au}{a:aiz}{l:Nat}(r:aX h xs a l):eE a (tv xs) h:=by
 cases xs with
 |nil=>exact .inl rfl
 |cons x0 xs'=>
  obtain⟨u,vs,rfl,_⟩:=r.2 0 x0 rfl;refine .inr ⟨u,rfl,yA (n:=2) (λ_=>rfl) _ u λi x U=>?_⟩;obtain⟨J,vs,e,V,O⟩:=r.2 i x U;cases e;rw[show vs=fh x from O] at V;omega
theorem adL(xs:List au):∀v∈tv xs,aK v=true:=λv u=>by
 obtain⟨x,_,u⟩:=ahI.1 u
 rcases ag6.1 u with rfl|u
 ·rfl
 ·rw[ag_] at u;subst u;rfl
theorem MD{P:Program}{Ty:TypeId->Option dD}{w:aiA}{L:List aE}{e e':TypeId}(hT:ec P Ty){t tx ty:TypeId}{i:dD}{z:Value}(hk:ai Ty t=.slice e)(hkx:ai Ty tx=.slice e')(hi:Ty e=some i)(hz:i.zero=some z)(hzs:(cellsOf z).length=i.size)
  {a a2:aiz} {l c n c2:Nat} {us news:List Value} (h:St w (own i.size a l c us::L)) (hn:news.length=n*i.size) (h0:0<i.size) (hx:eE a2 news (hp w)) (h1:∀u∈news,aK u=true) (hb:(l+n)*i.bytes<=140737488355328) (h63:l+n<=9223372036854775807):
  aY P (Builtin.append_ (Array.mk [t,tx]) ty (Array.mk [vS a l c,vS a2 n c2])) w λv w'=>∃a' c',v=vS a' (l+n) c'/\St w' (own i.size a' (l+n) c' (us++news)::L):=by
 refine ji hT hk hi hz hzs h (n:=n) (news:=news) (gA hT hkx hn ?_ h1) hb h63
 rcases hx with rfl|⟨O,rfl,hc⟩
 ·left
  rcases ain n with h|h
  ·omega
  ·have:=Nat.mul_pos h h0;simp_all
 ·exact .inr ⟨O,rfl,λj u J=>jI (hc j u J)⟩
structure A7(g:ah)(I:List au)(m:List (Int×Value))(H:List Int)(i:Nat)(ls:List au):Prop where
 nd:H.Nodup
 eq:ls=I++(H.flatMap (Jp g)).map it0
 of:∀s∈H,0<=s/\∃y,vF g I y/\ng g y=s
 mp:∀s,(assoc s m).getD (iI 0)=iI (if s∈H then 1 else 0)
 dn:∀(j:Nat) y,j<i->ls[j]? =some y->0<=ng g y->ng g y∈H
section
variable{g:ah}{I ls:List au}{m:List (Int×Value)}{H:List Int}{i:Nat}
theorem Tb:∀{H:List Int},H.Nodup->(H.flatMap (Jp g)).Nodup
 |[],_=>σ
 |s::H,h=>by
  rw[ahE] at h
  rw[ahv,ahx]
  refine⟨List.nodup_range.filter _,Tb h.2,λa ha b hb e=>?_⟩
  subst e
  obtain⟨t,ht,hb⟩:=ahI.1 hb
  obtain⟨p,h1,rfl⟩:=yG.1 ha
  obtain⟨q,h2,rfl⟩:=yG.1 hb
  simp_all
theorem A7.len(h:A7 g I m H i ls):ls.length<=I.length+g.prods.length:=by
 have:=tJ (m:=List.range g.prods.length) (Tb (g:=g) h.nd) λx u=>by grind[yG,List.getElem?_eq_some_iff]
 rw[ahL] at this;rw[h.eq,agV,ag5];omega
theorem A7.sound(h:A7 g I m H i ls){x:au}(hx:x∈ls):vF g I x:=by
 rw[h.eq,agX] at hx
 rcases hx with hx|hx
 ·exact .base hx
 ·obtain⟨n,hn,rfl⟩:=agY.1 hx;obtain⟨s,u,hn⟩:=ahI.1 hn;obtain⟨p,hp,e⟩:=yG.1 hn;obtain⟨h0,y,J,O⟩:=h.of s u;exact .step J ω hp ω
theorem A7.start:A7 g I [] [] 0 I:=⟨σ,σ,λs J=>by simp_all,λs=>by rfl,λj y u=>ω⟩
theorem A7.skip(h:A7 g I m H i ls){y:au}(hy:ls[i]? =some y)(hs:ng g y<0\/ng g y∈H):A7 g I m H (i+1) ls:=
 ⟨h.nd,h.eq,h.of,h.mp,λj z J u h0=>by
  by_cases e:j=i
  ·grind
  ·exact h.dn j z ω u h0⟩
theorem A7.more(h:A7 g I m H i ls){y:au}(hy:ls[i]? =some y)(h0:0<=ng g y)(hs:ng g y∉H):A7 g I (cV (ng g y) (iI 1) m) (H++[ng g y]) (i+1) (ls++(Jp g (ng g y)).map it0):=by
 have U:=agL hy
 refine⟨?_,?_,λs u=>?_,λs=>?_,λj z W O V=>?_⟩
 ·rw[ahx];exact⟨h.nd,σ,λa ha b hb e=>by simp_all⟩
 ·rw[ahh,ag7,<-ag3,<-h.eq];simp
 ·rw[agX,ag_] at u
  rcases u with u|rfl
  ·exact h.of s u
  ·exact⟨h0,y,h.sound U,rfl⟩
 ·rw[ft]
  by_cases e:s=ng g y
  ·grind
  ·rw[agW e,h.mp s];grind
 ·rw[agX,ag_];have J:j<ls.length:=by grind
  rw[ag8 J] at O
  by_cases e:j=i
  ·simp_all
  ·exact .inl (h.dn j z ω O V)
theorem A7.fin(h:A7 g I m H i ls)(hi:i=ls.length):lay ls=cls g I:=by
 refine aaM (oE _) λx=>?_;rw[mM];refine⟨h.sound,λu=>?_⟩
 induction u with
 |base u=>rw[h.eq];simp_all
 | @step y k p _ h1 h2 h3 ih=>
  obtain⟨j,J⟩:=ahb ih;have:=h.dn j y (by grind) J h1;rw[h.eq,agX];exact .inr (agY.2 ⟨k,ahI.2 ⟨_,this,yG.2 ⟨p,h2,h3⟩⟩,rfl⟩)
end
section
variable{w:aiA}{L:List aE}{a:aiz}{l c:Nat}{I:List au}{g:ah}
theorem aaS(hr:aX (hp w) I a l)(hb:l*16<=140737488355328):ρ 270 [vS a l c] w λv w'=>∃o c',v=vS o l c'/\St w' (own 2 o l c' (tv I)::all w):=by
 have hl:=hr.1
 refine jz (ae (λh=>?_) λh=>?_)
 ·have ha:a=none:=by simp_all
  subst ha
  have J:I=[]:=by
   cases I with
   |nil=>rfl
   |cons x _=>obtain⟨O,_,e,_⟩:=hr.2 0 x rfl;grind
  subst J;have:l=0:=hl.symm;subst this;exact⟨_,_,rfl,aI 2 (St.all w)⟩
 ·refine ag (St.all w) λk u h=>?_;have g1:Gr w u:=h.aP;have h:St u (own 2 (some (aM k)) 0 0 []::all w):=bg (cs:=[]) h rfl rfl (agT _);refine(MD (us:=[]) (news:=tv I) aT (rfl:ai Ty _=.slice _) (rfl:ai Ty _=.slice _) rfl rfl rfl h (by rw[jX,hl]) σ (XF (hr.mono g1)) (adL I) (by simp_all) ω).mono ?_
  grind
theorem U2{k:Nat}(hm:MkR (hp w) g k)(hr:aX (hp w) I a l)(hf:acR g I)(hb:(l+g.prods.length+1)*16<=140737488355328):
  ρ 183 [vP (some (aM k)),vS a l c] w λv w'=>∃o,v=.slice o (cls g I).length (cls g I).length/\St w' (own 2 o (cls g I).length (cls g I).length (tv (cls g I))::all w):=by
 have hl:=hr.1;refine vK ((aaS hr ω).mono ?_);rintro _ w1⟨o,c',rfl,h⟩;refine⟨_,_,_,rfl,nS h λkh w2 h=>?_⟩;have h:=dW (κ:=Int) h
 refine⟨λo n c z w'=>∃(i:Nat)(ls:List au)(m:List (Int×Value))(H:List Int),z=i/\n=ls.length/\i<=ls.length/\A7 g I m H i ls/\St w' (own 2 o n c (tv ls)::mapA kh m::all w),λ_ _ _ z _=>(l+g.prods.length)-z.toNat,
  ⟨0,I,[],[],rfl,hl.symm,agP _,.start,h.pick 2 [1,0]⟩,?_⟩
 clear h;rintro _ o _ c2 _ w3⟨i,ls,m,H,rfl,rfl,hi,hC,h⟩;have J:=hC.len;rw[hl] at J;refine ae (λU=>?_) λU=>?_
 rotate_left
 ·have U:i=ls.length:=by grind
  refine(Xv h ω).mono ?_;rintro _ al⟨a',rfl,h⟩;rw[hC.fin U] at h ⊢;exact⟨_,_,_,rfl,_,rfl,h.pick 3 [0,2]⟩
 have U:i<ls.length:=by simp_all
 obtain⟨y,ad,hy,rfl,cy⟩:=lu (Cb h) U;have a6:=agL hy;have a8:vE g y:=(hC.sound a6).fit hf;have s3:sub (hp w) (hp w3):=aC 2 h.l;refine aO rfl U ⟨_,_,cy _ sZZ,(O4 (hm.mono s3) a8).mono ?_⟩;rintro _ w4⟨rfl,g4⟩;have h:=h.gr g4
 refine⟨_,rfl,ae (λX=>?_) λX=>?_⟩
 ·have X:=agQ X;exact⟨ξ,⟨i+1,ls,m,H,σ,rfl,U,hC.skip hy (.inl X),h⟩,bR ω⟩
 have X:0<=ng g y:=by simp_all
 refine(cr (κ:=Int) aT (rfl:ai Ty _=.map _ _) bL rfl rfl (h.pick 3 [1,0,2]) _).mono ?_;rintro _ _⟨rfl,rfl⟩
 refine⟨_,hC.mp _,ae (λW=>?_) λW=>?_⟩
 ·have W:ng g y∈H:=by grind
  exact⟨ξ,⟨i+1,ls,m,H,σ,rfl,U,hC.skip hy (.inr W),h⟩,bR ω⟩
 have W:ng g y∉H:=λhn=>by simp_all
 refine(cr (κ:=Int) aT (rfl:ai Ty _=.map _ _) bL rfl rfl (h.pick 3 [1,0,2]) _).mono ?_;rintro _ _⟨rfl,rfl⟩;refine⟨_,hC.mp _,ξ,(dr (κ:=Int) aT (rfl:ai Ty _=.map _ _) bL (h.pick 3 [1,0,2]) _ _).mono ?_⟩;rintro _ w7 h;rw[agW W,show(0:Int)+1=1 from rfl] at h;have V:=hC.more hy X W;have u:=V.len;rw[hl,agV,ag5] at u;have s7:sub (hp w) (hp w7):=aC 2 h.l;obtain⟨x,kb,mb,r1,hg,Y,a0⟩:=hm.ex;obtain⟨ab,cb,eb,rb⟩:=a0 (ng g y);refine⟨_,r1.cell s7 (j:=5) rfl,(O3 (κ:=Int) Y s7 aT (rfl:ai Ty _=.map _ _) bL rfl rfl _).mono ?_⟩;rintro _ w8⟨rfl,e8⟩;rw[e8];refine⟨_,_,_,eb,?_⟩
 refine⟨λo n c z w'=>∃j:Nat,z=j/\j<=(Jp g (ng g y)).length/\n=ls.length+j/\St w' (own 2 o n c (tv (ls++((Jp g (ng g y)).take j).map it0))::mapA kh (cV (ng g y) (iI 1) m)::all w),λ_ _ _ z _=>(Jp g (ng g y)).length-z.toNat,
  ⟨0,rfl,agP _,rfl,?_⟩,?_⟩
 ·rw[List.take_zero,List.map_nil,ahe];exact h.pick 3 [1,0,2]
 clear h;rintro _ o _ c9 _ w9⟨j,rfl,hj,rfl,h⟩;have s9:sub (hp w) (hp w9):=aC 2 h.l;refine ae (λO=>?_) λO=>?_
 rotate_left
 ·have O:j=(Jp g (ng g y)).length:=by grind
  subst O;rw[ag9] at h;exact⟨ξ,⟨i+1,_,_,_,σ,σ,by grind,V,h⟩,bR (Nat.lt_of_lt_of_le U J)⟩
 have O:j<(Jp g (ng g y)).length:=by simp_all
 obtain⟨n,hn⟩:∃n,(Jp g (ng g y))[j]? =some n:=⟨_,agM O⟩;obtain⟨v,am,hv,a4,cb⟩:=rb.dQ O;have a5:v=(n:Int):=by simp_all
 subst a5;have Z:(ls.length+j+1)*16<=140737488355328:=ahq (ahO 16 (Nat.succ_le_succ (ahq (Nat.add_le_add_left (Nat.le_of_lt O) _) u))) hb;have a7:=afG Z;clear J u V a0 Y;refine ax a4 O ⟨_,cb _ s9,ag h λav aa h=>?_⟩;refine(aS (us:=tv (ls++((Jp g (ng g y)).take j).map it0)) aT (rfl:ai Ty _=.slice _) (rfl:ai Ty _=.slice _) rfl rfl rfl h rfl (by simp[aK]) Z a7).mono ?_;rintro _ b1⟨o6,a9,rfl,h⟩;refine⟨_,_,_,rfl,ξ,⟨j+1,σ,O,rfl,?_⟩,bR O⟩
 have e:tv (ls++((Jp g (ng g y)).take (j+1)).map it0)=tv (ls++((Jp g (ng g y)).take j).map it0)++[iI (n:Int),iI 0]:=by
  rw[agR,hn,ahS,ag7,<-ag3,DW];rfl
 rw[e];exact h.pick 4 [0,2,3]
def vp(g:ah)(K:List au)(s:Int):List au:=(K.filter λx=>decide (ng g x=s)).map λx=>⟨x.prod,x.dot+1⟩
theorem Rl{g:ah}{K:List au}{x:au}{s:Int}:vp g (K++[x]) s=if s=ng g x then vp g K s++[⟨x.prod,x.dot+1⟩] else vp g K s:=by
 unfold vp
 grind
theorem KZ(g:ah)(K:List au)(s:Int):(vp g K s).length<=K.length:=by simp[vp,ahs]
theorem U3{k:Nat}(hm:MkR (hp w) g k)(hr:aX (hp w) I a l)(hf:acR g I)(hb:(l+g.prods.length+1)*16<=140737488355328)(hbr:∀p∈g.prods,p.right.length<=17592186043904):
  ρ 95 [vP (some (aM k)),vS a l c] w λv w'=>∃(kk:Nat)(ps:List (Int×Lq au)),v=.map (some kk)/\(∀s,0<=s->j6 s ps=bx g I s)/\(ps.map Prod.fst).Nodup/\(∀s,s∈ps.map Prod.fst↔0<=s/\bx g I s≠[])/\St w' (mapA kk (mV ps)::aV (mO 2 tv ps)::all w):=by
 have hl:=hr.1;refine vI (nS (St.all w) λkk w1 h=>?_);have h:=dW (κ:=Int) h;have g1:Gr w w1:=aC 1 h.l;refine((U2 (hm.mono g1) (hr.mono g1) hf hb).mono ?_);rintro _ w2⟨o,rfl,J⟩;have h:=J.eM h.l;have W:=Ta g I;rw[hl] at W;refine⟨_,_,_,rfl,?_⟩
 refine⟨λz w'=>∃(j:Nat)(ps:List (Int×Lq au)),z=j/\j<=(cls g I).length/\(∀s,0<=s->j6 s ps=vp g ((cls g I).take j) s)/\(ps.map Prod.fst).Nodup/\(∀s,s∈ps.map Prod.fst↔0<=s/\vp g ((cls g I).take j) s≠[])/\
   St w' (mapA kk (mV ps)::aV (mO 2 tv ps)::own 2 o (cls g I).length (cls g I).length (tv (cls g I))::all w),λz _=>(cls g I).length-z.toNat,
  ⟨0,[],rfl,agP _,λs _=>by rfl,σ,λs=>by simp[vp],?_⟩,?_⟩
 ·have h3:St w2 (mapA kk ([]:List (Int×Value))::own 2 o (cls g I).length (cls g I).length (tv (cls g I))::all w):=h.pick 3 [1,0,2];exact((St.flat (M:=[])).2 h3).swap
 clear h J;rintro _ _ w3⟨j,ps,rfl,hj,Z,U,O,h⟩;refine ae (λu=>?_) λu=>?_
 rotate_left
 ·have u:j=(cls g I).length:=by grind
  rw[u,ag9] at Z O;exact⟨kk,ps,rfl,Z,U,O,h.pick 4 [0,1,3]⟩
 have u:j<(cls g I).length:=by simp_all
 obtain⟨y,ad,hy,rfl,cy⟩:=lu (Cb (h.pick 3 [2])) u;have V:vE g y:=(B_.1 (agL hy)).fit hf
 have a7:y.dot+1<=9223372036854775807:=by
  obtain⟨_,_,p,hp,h5⟩:=V
  grind
 have a5:=V.2.1;have s3:sub (hp w) (hp w3):=aC 3 h.l;have Y:∀s,vp g ((cls g I).take (j+1)) s=if s=ng g y then vp g ((cls g I).take j) s++[⟨y.prod,y.dot+1⟩] else vp g ((cls g I).take j) s:=λs=>by simp_all[agR,Rl]
 refine aO rfl u ⟨_,_,cy _ sZZ,ag h λk4 w4 h=>aL h rfl (by simp[aK]) λw5 h=>⟨_,_,(af 0 h.l).at sZZ rfl,(O4 (hm.mono (aC 4 h.l)) V).mono ?_⟩⟩;rintro _ w6⟨rfl,g6⟩;have h:=h.gr g6;refine⟨_,rfl,ae (λJ=>?_) λJ=>?_⟩
 rotate_left
 ·have J:ng g y<0:=by simp_all
  refine⟨ξ,⟨j+1,ps,σ,u,λs hs=>?_,U,λs=>?_,h.pick 5 [1,2,3,4]⟩,bR u⟩
  ·grind
  grind
 have J:0<=ng g y:=agQ J;refine(cr (κ:=Int) aT (rfl:ai Ty _=.map _ _) bL rfl rfl (h.pick 5 [1,0,2,3,4]) _).mono ?_;rintro _ w7⟨rfl,e7⟩;rw[e7];obtain⟨q,M,e1,e2,hq,back⟩:=uP rfl (h.pick 5 [2,0,1,3,4]) (ng g y);have a0:q.2.length<=(cls g I).length:=by grind[Nat.le_trans,KZ,List.length_take]
 have r4:aq (hp w6) (aM k4) [iI y.prod,iI y.dot]:=af 2 hq.l;have X:(q.2.length+1)*16<=140737488355328:=ahq (ahO 16 (Nat.succ_le_succ (ahq a0 W))) hb;have a4:=afG X;refine⟨_,_,_,e1,_,r4.cell0 sZZ,_,r4.cell sZZ (j:=1) rfl,ξ,ag hq λk7 w8 h=>?_⟩;refine(aS (us:=tv q.2) aT (rfl:ai Ty _=.slice _) (rfl:ai Ty _=.slice _) rfl rfl rfl h rfl (by simp[aK]) X a4).mono ?_;rintro _ w9⟨o3,c3,rfl,h⟩;refine⟨_,_,_,rfl,(dr (κ:=Int) aT (rfl:ai Ty _=.map _ _) bL (h.pick 7 [4,0,2,5,6]) (ng g y) _).mono ?_⟩;rintro _ a6 h;have h:=A6 back (q.2++[⟨y.prod,y.dot+1⟩]) σ (by rw[DW];rfl) h
 refine⟨ξ,⟨j+1,_,σ,u,λs hs=>?_,MB _ U,λs=>?_,h⟩,bR u⟩
 ·rw[nk,Y,e2]
  simp_all
 ·rw[Eh,Y];have:=O s
  by_cases e:s=ng g y
  ·subst e;rw[ag0 rfl];refine⟨λ_=>⟨J,σ⟩,λ_=>?_⟩
   grind
  grind
end
section
variable{α:Type}{f:α->List Value}{n:Nat}
theorem pJ(hf:∀x,(f x).length=n):∀xs:List α,(xs.flatMap f).length=xs.length*n
 |[]=>σ
 |x::xs=>by rw[ahv,agV,hf,pJ hf xs,ahr,aiq,Nat.add_comm]
theorem XG(hf:∀x,(f x).length=n):∀(xs:List α)(i j:Nat)(x y:α)(v:Value),xs[i]? =some x->j<n->f y=(f x).set j v->(xs.flatMap f).set (i*n+j) v=(xs.set i y).flatMap f
 |[],i,j,x,y,v,h,_,_=>by rfl
 |z::xs,0,j,x,y,v,h,hj,he=>by simp_all
 |z::xs,i+1,j,x,y,v,h,hj,he=>by
  rw[List.set_cons_succ,ahv,ahv,ahW _ _ (by grind),hf,show(i+1)*n+j-n=i*n+j by grind]
  rw[XG hf xs i j x y v (by simp_all) hj he]
end
theorem GD{M L:List aE}{h:Hp}{i:Nat}{A:aE}(hs:aF (aV M::L) h)(hi:M[i]? =some A):∃h1,sub h1 h/\A h1:=by
 have J:=pg.1 hs;obtain⟨u,e⟩:=agN.1 hi;obtain⟨h1,s1,ha⟩:=eO i (by grind) J;rw[HW (by grind),List.getElem_append_left u,e] at ha
 grind
def U4(x:aH):List Value:=[iI x.sym,iI x.to]
def qo(xs:List aH):List Value:=xs.flatMap U4
theorem aaT(xs:List aH):(qo xs).length=xs.length*2:=pJ (f:=U4) (n:=2) (λ_=>rfl) xs
abbrev SQ:=Lq au×Lq aH
def U5(q:SQ):List Value:=[bX q.1,bX q.2]
def Qr(ss:List SQ):List Value:=ss.flatMap U5
def Tc(ss:List SQ):List aE:=ss.map λq=>bI 2 tv q.1
def Rm(ss:List SQ):List aE:=ss.map λq=>bI 2 qo q.2
def fi(ss:List SQ):List dK:=ss.map λq=>q.1.2
def cD(ss:List SQ):List (List aH):=ss.map λq=>q.2.2
theorem Td(ss:List SQ):(Qr ss).length=ss.length*2:=pJ (f:=U5) (n:=2) (λ_=>rfl) ss
theorem XH(ss:List SQ)(q:SQ):Qr (ss++[q])=Qr ss++U5 q:=by simp[Qr]
def lz(x:au):Prop:=0<=x.prod/\x.prod<256/\0<=x.dot/\x.dot<65536
def F7(x:au):List UInt8:=[UInt8.ofNat x.prod.toNat,UInt8.ofNat (x.dot.toNat%256),UInt8.ofNat (x.dot.toNat/256)]
def wb(K:List au):List UInt8:=K.flatMap F7
def mC(K:List au):ByteArray:=⟨(wb K).toArray⟩
def u8V(b:UInt8):Value:=.int .u8 (b.toNat:Int)
theorem XI{x y:au}(hx:lz x)(hy:lz y)(h:F7 x=F7 y):x=y:=by
 obtain⟨a1,a2,a3,X⟩:=hx;obtain⟨U,Y,b3,W⟩:=hy;unfold F7 at h;simp only[List.cons.injEq,and_true] at h;obtain⟨O,J,u⟩:=h;have e1:=congrArg UInt8.toNat O;have Z:=congrArg UInt8.toNat J;have V:=congrArg UInt8.toNat u
 grind[UInt8.toNat_ofNat',au.ext']
theorem O5:∀{K M:List au},(∀x∈K,lz x)->(∀x∈M,lz x)->wb K=wb M->K=M
 |[],[],_,_,_=>rfl
 |[],y::M,_,_,h=>by grind[wb,F7]
 |x::K,[],_,_,h=>by grind[wb,F7]
 |x::K,y::M,hk,hm,h=>by
  unfold wb at h
  rw[ahv,ahv] at h
  obtain⟨h1,h2⟩:=List.append_inj h rfl
  rw[XI (hk x σ) (hm y σ) h1,O5 (λz hz=>hk z (by grind)) (λz hz=>hm z (by grind)) h2]
theorem Ro{K M:List au}(hk:∀x∈K,lz x)(hm:∀x∈M,lz x)(h:mC K=mC M):K=M:=by
 refine O5 hk hm ?_
 simp_all[mC]
theorem U6(K:List au)(x:au):wb (K++[x])=wb K++F7 x:=by simp[wb]
theorem O6(K:List au):(wb K).length=K.length*3:=by
 induction K with
 |nil=>rfl
 |cons x K ih=>grind[wb,List.length_append,List.length_cons,F7]
theorem agx{x:au}(h:lz x):[Value.int .u8 (IntKind.u8.wrap x.prod),Value.int .u8 (IntKind.u8.wrap x.dot),Value.int .u8 (IntKind.u8.wrap (aZ .i64 x.dot 8))]=(F7 x).map u8V:=by
 obtain⟨a1,a2,a3,u⟩:=h
 have e:aZ .i64 x.dot 8=x.dot/256:=by
  simp only[aZ,IntKind.bits]
  grind
 rw[e];simp only[F7,ahw,List.map_nil,u8V,UInt8.toNat_ofNat',IntKind.wrap,IntKind.signed,IntKind.bits]
 grind
def F8(m:List (ByteArray×Value))(st:List dK):Prop:=∀K,(∀x∈K,lz x)->(assoc (mC K) m).getD (iI 0)=iI (if K∈st then((st.idxOf K:Nat):Int)+1 else 0)
theorem F8.start:F8 [] []:=λK _=>by rfl
theorem F8.put{m:List (ByteArray×Value)}{st:List dK}{K:dK}(h:F8 m st)(hK:∀x∈K,lz x)(hn:K∉st):F8 (cV (mC K) (iI ((st.length+1:Nat):Int)) m) (st++[K]):=λM u=>by
 rw[ft]
 by_cases e:mC M=mC K
 ·have:=Ro u hK e
  grind
 ·rw[agW e,h M u]
  grind
section
variable{w:aiA}{L:List aE}{a:aiz}{l c:Nat}{K:List au}
theorem afH(hr:aX (hp w) K a l)(hK:∀x∈K,lz x)(hne:K≠[])(hb:l*16<=140737488355328):
  ρ 182 [vS a l c] w λv w'=>v=.string (mC K)/\Gr w w':=by
 have hl:=hr.1;refine OL ⟨λo n c z w'=>∃j:Nat,z=j/\j<=l/\n=(wb (K.take j)).length/\St w' (own 1 o n c ((wb (K.take j)).map u8V)::all w),λ_ _ _ z _=>l-z.toNat,⟨0,rfl,agP _,rfl,aI 1 (St.all w)⟩,?_⟩;rintro _ o _ c1 _ Y⟨j,rfl,Z,rfl,h⟩;have s1:sub (hp w) (hp Y):=aC 1 h.l
 refine ae (λu=>?_) λu=>?_
 ·have u:j<l:=by simp_all
  obtain⟨x,X,hx,rfl,cx⟩:=lu hr u;have W:=hK x (agL hx);refine aO rfl u ⟨_,_,cx _ s1,ag h λk3 w2 h=>aL h rfl (by simp[aK]) λw3 h=>?_⟩;have O:aq (hp w3) (aM k3) [iI x.prod,iI x.dot]:=af 0 h.l;refine⟨_,O.cell0 sZZ,_,O.cell sZZ (j:=1) rfl,_,O.cell sZZ (j:=1) rfl,by show(0:Int)<=8;simp,?_⟩;refine ag h λk4 w4 h=>?_;rw[agx W] at h;have U:=O6 (K.take j);rw[ahl] at U;refine(MD (n:=3) (us:=(wb (K.take j)).map u8V) (news:=(F7 x).map u8V) aT (rfl:ai Ty _=.slice _) (rfl:ai Ty _=.slice _) rfl rfl rfl (h.pick 3 [2,0]) rfl σ (.inr ⟨_,rfl,af 0 h.l⟩) (λu hu=>by obtain⟨b,_,rfl⟩:=agY.1 hu;rfl) (by grind) ω).mono ?_;rintro _ w5⟨o2,c2,rfl,h⟩;have e:wb (K.take (j+1))=wb (K.take j)++F7 x:=by rw[agR,hx,ahS,U6]
  refine⟨_,_,_,rfl,ξ,⟨j+1,σ,u,by rw[e,agV];rfl,?_⟩,bR u⟩;rw[e,ag7];exact h.pick 3 [0,2]
 ·have u:j=l:=by grind
  subst u;rw[<-hl,ag9] at h ⊢;have J:0<((wb K).map u8V).length:=by grind[List.length_map,O6,List.length_pos_iff]
  obtain⟨X,rfl⟩:=eQ h J;have V:=run_convert_bytes_back (P:=Tryz.prog) Y Q0 s8 W_ X c1 (wb K) Oz US pC λj Z=>qK h rfl (by rw[agS,agM Z];rfl);exact⟨_,_,V,Ev.refl _,_,rfl,rfl,h.aP⟩
end
abbrev Rp(kt ka:Nat)(o:aiz)(c:Nat)(asked int:Int)(m:List (ByteArray×Value))(ss:List SQ)(L:List aE):List aE:=
 az kt [vS o ss.length c,iI asked,iI int,.map (some ka)]::own 2 o ss.length c (Qr ss)::mapA ka m::aV (Tc ss)::aV (Rm ss)::L
def pK(ss:List SQ)(b:aiz)(d:Nat)(K:dK):List SQ:=if K∈fi ss then ss else ss++[(((b,d),K),((none,0),[]))]
theorem ME(ss:List SQ)(b:aiz)(d:Nat)(K:dK):fi (pK ss b d K)=xb (fi ss) K:=by grind[pK,xb,fi]
theorem tK(ss:List SQ):(fi ss).length=ss.length:=ag5 _
theorem adM{ss:List SQ}{K:dK}(h:K∈fi ss):∃q,ss[(fi ss).idxOf K]? =some q/\q.1.2=K:=by
 have u:=List.idxOf_lt_length_of_mem h;rw[tK] at u;refine⟨ss[(fi ss).idxOf K],agM u,?_⟩;have J:(fi ss)[(fi ss).idxOf K]'(by grind)=K:=List.getElem_idxOf _
 grind[fi]
theorem MF{h:Hp}{o:aiz}{ss:List SQ}{i:Nat}{q:SQ}(r:eE o (Qr ss) h)(hq:ss[i]? =some q):∃ad,o=some ad/\aq h (ad.add (ff i 2)) (U5 q):=by
 rcases r with e|⟨ad,rfl,r⟩
 ·have u:=congrArg List.length e
  grind[Td,List.length_nil,List.getElem?_eq_some_iff]
 ·exact⟨ad,rfl,cJ (n:=2) (λ_=>rfl) ss ad r i q hq⟩
theorem MG{ss:List SQ}{i:Nat}{q:SQ}(hq:ss[i]? =some q):(Tc ss)[i]? =some (bI 2 tv q.1):=by simp_all[Tc]
theorem aaU{ss:List SQ}{i:Nat}{q:SQ}(hq:ss[i]? =some q):(Rm ss)[i]? =some (bI 2 qo q.2):=by simp_all[Rm]
theorem MH{q:Lq au}{h:Hp}(ha:bI 2 tv q h):aX h q.2 q.1.1 q.2.length:=Mn rfl (bH ha)
section
variable{w:aiA}{L:List aE}
theorem O7{kt ka c l d:Nat}{o b:aiz}{asked int:Int}{m:List (ByteArray×Value)}{ss:List SQ}{K:dK}(h:St w (Rp kt ka o c asked int m ss (own 2 b l d (tv K)::L)))
  (hK:F8 m (fi ss)) (hne:K≠[]) (hsm:∀x∈K,lz x) (ha:0<=asked/\asked<4611686018427387904) (hi:0<=int/\int<4611686018427387904) (hn:ss.length<=300) (hl:l*16<=140737488355328):
  ρ 94 [vP (some (aM kt)),vS b l d] w λv w'=>v=iI ((fi ss).idxOf K:Nat)/\∃o' c' m',F8 m' (xb (fi ss) K)/\
   St w' (Rp kt ka o' c' (asked+1) (int+((pK ss b d K).length-ss.length:Nat)) m' (pK ss b d K) L):=by
 have Z:l=K.length:=by have:=fk (h.pick 6 [5]);grind[jX]
 have a0:0<l:=by grind
 have hz:K[0]? =some K[0]:=agM ω;refine xf ⟨_,(af 0 h.l).cell sZZ (j:=1) rfl,ξ,?_⟩
 show st1 w ((aM kt).add 1) _ _
 rw[ak];refine aR h σ λw1 h=>?_;obtain⟨h5,s5,a4⟩:=Az 5 h.l;have J:aX (hp w1) K b l:=(Mn Z.symm (bH a4)).mono s5;refine(afH J hsm hne hl).mono ?_;rintro _ w2⟨rfl,g2⟩;have h:=h.gr g2;have J:=J.mono g2;clear s5 a4
 refine⟨_,rfl,λu=>K∉fi ss/\St u (Rp kt ka o c (asked+1) int m ss (own 2 b l d (tv K)::L)),?_,?_⟩
 ·intro O hd;have h:=h.eq (aQ hd);have J:aX (hp O) K b l:=J.mono (Gr.drawn hd);have V:aq (hp O) (aM kt) [vS o ss.length c,iI (asked+1),iI int,.map (some ka)]:=af 0 h.l
  have lk:aY Tryz.prog (Instr.lookup FN (.map (some ka)) (.string (mC K)) false) O λv w'=>v=iI (if K∈fi ss then(((fi ss).idxOf K:Nat):Int)+1 else 0)/\w'=O:=by
   refine(cr (κ:=ByteArray) aT (rfl:ai Ty _=.map _ _) pC rfl rfl (h.pick 3 [2]) (mC K)).mono ?_;rintro _ _⟨rfl,rfl⟩;exact⟨hK K hsm,rfl⟩
  refine⟨λu=>Gr O u,Gr.refl _,_,λu s=>V.cell s (j:=3) rfl,lk.mono ?_⟩;rintro _ w5⟨rfl,e5⟩;rw[e5];refine⟨_,rfl,λu=>Gr O u,Gr.refl _,λ_ h=>h,ae (λh1=>?_) λh1=>?_⟩
  rotate_left
  ·grind
  have U:K∈fi ss:=ahm λhn=>by simp_all
  obtain⟨q,hq,bP⟩:=adM U;have al:=(agN.1 hq).1;obtain⟨ad,rfl,rs⟩:=MF (dN 1 h.l) hq;obtain⟨h6,s6,av⟩:=GD (h.pick 4 [3]).l (MG hq);have b2:aX (hp O) K q.1.1.1 q.1.2.length:=by have:=(MH av).mono s6;simp_all
  have b4:q.1.2.length=l:=by simp_all
  obtain⟨x,bl,hx,b3,cx⟩:=lu J a0;obtain⟨y,b6,hy,a7,cy⟩:=lu b2 (by omega:0<q.1.2.length);rw[hx] at hy;cases hy;rw[afy] at cx cy;refine⟨_,_,_,λu s=>V.cell0 s,_,λu s=>V.cell s (j:=3) rfl,vo b3 a0 ⟨_,_,cx,lk.mono ?_⟩⟩;rintro _ bc⟨rfl,a6⟩;rw[a6,ag0 U];have e1:(((fi ss).idxOf K:Nat):Int)+1-1=(((fi ss).idxOf K:Nat):Int):=ω
  refine⟨_,rfl,λu=>Gr O u,Gr.refl _,λ_ h=>h,ξ,?_⟩;rw[e1];refine aO rfl al ⟨_,_,_,λu s=>rs.cell0 s,vo a7 ω ⟨_,_,cy,_,λu _=>Rg u _ _ x x,_,rfl,fM σ ⟨_,V.cell sZZ (j:=3) rfl,lk.mono ?_⟩⟩⟩;rintro _ b5⟨rfl,am⟩;rw[am,ag0 U]
  refine⟨_,rfl,ξ,σ,some ad,c,m,?_,?_⟩
  ·simp_all[xb]
  ·unfold pK;rw[ag0 U,ah2];rw[show int+((0:Nat):Int)=int by omega];exact h.pick 6 [0,1,2,3,4]
 clear h J;rintro _ a8⟨U,h⟩;refine⟨_,(af 0 h.l).cell sZZ (j:=2) rfl,ξ,?_⟩
 show st1 a8 ((aM kt).add 2) _ _
 rw[ak];refine aR h σ λba h=>?_;refine⟨_,_,_,(af 0 h.l).cell0 sZZ,ag h λk7 bi h=>?_⟩;refine(aS (us:=Qr ss) aT (rfl:ai Ty _=.slice _) (rfl:ai Ty _=.slice _) rfl rfl rfl (h.pick 3 [0,2,1]) rfl (by simp[aK]) (by grind) ω).mono ?_;rintro _ be⟨X,Y,rfl,h⟩;refine⟨_,_,_,rfl,aR (h.pick 3 [2,0]) σ λbz h=>?_⟩;intro W hd;have h:=h.eq (aQ hd);have h:St W (az kt [vS X (ss.length+1) Y,iI (asked+1),iI (int+1),.map (some ka)]::own 2 X (ss.length+1) Y (Qr ss++[vS b l d,zS])::mapA ka m::aV (Tc ss)::aV (Rm ss)::own 2 b l d (tv K)::L):=h;have V:aq (hp W) (aM kt) [vS X (ss.length+1) Y,iI (asked+1),iI (int+1),.map (some ka)]:=af 0 h.l;refine⟨λu=>Gr W u,Gr.refl _,_,λu s=>V.cell s (j:=3) rfl,_,_,_,λu s=>V.cell0 s,(dr (κ:=ByteArray) aT (rfl:ai Ty _=.map _ _) pC (h.pick 3 [2,0,1]) (mC K) _).mono ?_⟩;rintro _ b1 h;have a5:=hK.put hsm U;rw[tK] at a5;refine⟨_,(af 1 h.l).cell sZZ (j:=3) rfl,(cr (κ:=ByteArray) aT (rfl:ai Ty _=.map _ _) pC rfl rfl h (mC K)).mono ?_⟩;rintro _ bb⟨rfl,a9⟩;rw[a9];have e1:=a5 K hsm;have e2:[K].idxOf K=0:=σ
 rw[ag0 σ,List.idxOf_append,agW U,e2,aii,tK] at e1;have aa:pK ss b d K=ss++[(((b,d),K),((none,0),[]))]:=by simp_all[pK]
 have b7:xb (fi ss) K=fi ss++[K]:=by simp_all[xb]
 refine⟨_,e1,ξ,?_,X,Y,cV (mC K) (iI ((ss.length+1:Nat):Int)) m,?_,?_⟩
 ·simp_all[List.idxOf_eq_length,tK]
 ·simp_all
 ·rw[aa];have h:=St.snoc ((aI 2 h).pick 7 [0,5,1,2,3,4,6]);have h:=(St.snoc (h.pick 6 [5,4,0,1,2,3])).pick 5 [3,4,2,0,1];have e3:Qr (ss++[(((b,d),K),((none,0),[]))])=Qr ss++[vS b l d,zS]:=by rw[XH,Z];rfl
  have e4:Tc (ss++[(((b,d),K),((none,0),[]))])=Tc ss++[own 2 b l d (tv K)]:=by simp_all[Tc,bI]
  have e5:Rm (ss++[(((b,d),K),((none,0),[]))])=Rm ss++[own 2 none 0 0 []]:=by simp[Rm,bI,qo]
  have e6:(ss++[(((b,d),K),(((none,0),[]):Lq aH))]).length=ss.length+1:=σ
  show St b1 (az kt [vS X _ Y,_,iI (int+_),_]::own 2 X _ Y _::_::_::_::L)
  rw[e3,e4,e5,e6,show((ss.length+1-ss.length:Nat):Int)=1 by omega];exact h
end
section
variable{g:ah}{K:dK}{x:au}{s:Int}{i:Nat}
theorem aw.cK(h:aw g):g.T<=65/\g.N<=65/\g.prods.length<=97/\2<=g.prods.length/\1<=g.T/\2<=g.N:=by
 obtain⟨_,u,J,_⟩:=h;have ht:0<g.terms.length:=by have:=(agN.1 u.1).1;omega
 exact⟨u.2.2.1,u.2.2.2.1,J.2.1,J.1,ht,u.2.1⟩
theorem aw.sym(h:aw g){p:aJ}(hp:p∈g.prods)(hs:s∈p.right):1<=s/\s<g.T+g.N:=by
 obtain⟨_,V,J,W,u,_,O,_⟩:=h;obtain⟨n,hn⟩:=ahb hp;cases n with
 |zero=>
  rw[u] at hn;cases hn;rw[O,ag_] at hs;have:=J.2.2.2;omega
 |succ n=>
  have U:p∈g.prods.drop 1:=by
   refine agL (i:=n) ?_
   simp_all
  have:=(J.2.2.1 p U).2 s hs;exact⟨this.1,this.2.1⟩
theorem xP(hc:aw g)(hf:∀x∈K,vE g x)(h0:0<=s)(hne:bx g K s≠[]):1<=s/\s<g.T+g.N:=by
 obtain⟨x,J⟩:=ahR _ hne;obtain⟨y,O,U,_⟩:=dj.1 J;obtain⟨p,hp,_,u⟩:=HL (O.fit hf) U h0;exact hc.sym (agL hp) (agL u)
theorem O8(hp:g.prods.length<=97)(hs:oD K)(hf:∀x∈K,vE g x)(hd:∀x∈K,x.dot<=299):K.length<=29100:=by
 have:=tJ (m:=(List.range 29100).map λn=>(⟨((n/300:Nat):Int),((n%300:Nat):Int)⟩:au)) hs.nodup λx u=>by
  obtain⟨V,W,p,J,_⟩:=hf x u;have O:=(agN.1 J).1;have U:=hd x u;refine agY.2 ⟨x.prod.toNat*300+x.dot.toNat,ahd.2 ω,?_⟩;exact au.ext' (by grind) (by grind)
 simp_all
theorem XJ(hp:g.prods.length<=97)(hf:vE g x)(hd:x.dot<65536):lz x:=by
 obtain⟨J,O,p,u,_⟩:=hf;have U:=(agN.1 u).1;exact⟨J,ω,O,hd⟩
theorem A8(g:ah)(K:dK):(dg g K).Pairwise (·<·):=(List.pairwise_lt_range (n:=g.T+g.N)).filter _
theorem aaV{ks:List Int}(hc:aw g)(hf:∀x∈K,vE g x)(hn:ks.Nodup)(hk:∀s,s∈ks↔0<=s/\bx g K s≠[]):ks.mergeSort (λx y=>decide (x<=y))=(dg g K).map Int.ofNat:=by
 have hp:=List.mergeSort_perm ks (λx y=>decide (x<=y));have V:(ks.mergeSort λx y=>decide (x<=y)).Pairwise (·<=·):=by grind[List.pairwise_mergeSort,decide]
 have W:((dg g K).map Int.ofNat).Pairwise (·<=·):=by grind[A8]
 have n2:((dg g K).map Int.ofNat).Nodup:=by grind[A8]
 have U:ks.Perm ((dg g K).map Int.ofNat):=(List.perm_ext_iff_of_nodup hn n2).2 λs=>by
  rw[hk,agY]
  constructor
  ·rintro⟨h0,u⟩;obtain⟨_,O⟩:=xP hc hf h0 u;refine⟨s.toNat,ahi.2 ⟨ahd.2 ω,?_⟩,by grind⟩
   grind
  ·rintro⟨n,J,rfl⟩;exact⟨σ,agQ (ahi.1 J).2⟩
 grind[List.Perm.eq_of_pairwise,Int.le_antisymm]
end
section
variable{κ α:Type}[DecidableEq κ]
def HY(s:κ)(ps:List (κ×Lq α)):Lq α:=(fN s ps).getD ((none,0),[])
theorem Rq{ps:List (κ×Lq α)}(hn:(ps.map Prod.fst).Nodup){s:κ}{q:Lq α}(hm:(s,q)∈ps):fN s ps=some q:=by
 induction ps with
 |nil=>simp_all
 |cons x m ih=>
  obtain⟨a,u⟩:=x;rw[ahw,ahE] at hn;unfold fN
  grind
theorem XK{sz:Nat}{f:List α->List Value}{ps:List (κ×Lq α)}(hn:(ps.map Prod.fst).Nodup){ks:List κ}(hp:ks.Perm (ps.map Prod.fst)):(mO sz f ps).Perm (ks.map λs=>bI sz f (HY s ps)):=by
 have e:mO sz f ps=(ps.map Prod.fst).map λs=>bI sz f (HY s ps):=by
  unfold mO;rw[air];refine ah0 λx u=>?_
  show bI sz f x.2=bI sz f (HY x.1 ps)
  unfold HY;rw[Rq hn u];rfl
 rw[e];exact(hp.map _).symm
end
theorem XL{w:aiA}{L M N:List aE}(h:St w (aV M::L))(hp:M.Perm N):St w (aV N::L):=St.flat.2 ((St.flat.1 h).perm (hp.append_right _))
theorem aaW{w:aiA}{L M:List aE}{A:aE}(h:St w (aV (A::M)::L)):St w (A::aV M::L):=by
 have u:St w (A::(M++L)):=St.flat.1 h;have J:St w (M++(A::L)):=u.perm ahG.symm;exact(St.flat.2 J).swap
def MI(es:List (List aH)):Nat:=(es.map List.length).sum
theorem K1(es:List (List aH))(x:List aH):MI (es++[x])=MI es+x.length:=by simp[MI]
theorem tL{g:ah}{K:dK}:∀(l:List Nat)(acc:List dK×List aH),(ql g K l acc).2.length=acc.2.length+l.length
 |[],_=>rfl
 |s::l,acc=>by
  show(ql g K l _).2.length=_
  rw[tL l];grind
theorem XM{ss:List SQ}{i:Nat}{q:SQ}(hq:ss[i]? =some q)(e:Lq aH):fi (ss.set i (q.1,e))=fi ss/\Tc (ss.set i (q.1,e))=Tc ss/\cD (ss.set i (q.1,e))=(cD ss).set i e.2/\Rm (ss.set i (q.1,e))=(Rm ss).set i (bI 2 qo e):=by simp_all[fi,B8,Tc,cD,Rm]
theorem aaX{ss:List SQ}{i:Nat}{q:SQ}(hq:ss[i]? =some q)(e:Lq aH):(Qr ss).set (i*2+1) (bX e)=Qr (ss.set i (q.1,e)):=
 XG (f:=U5) (n:=2) (λ_=>rfl) ss i 1 q (q.1,e) _ hq σ rfl
structure bC(g:ah)(ss:List SQ):Prop where
 dn:S4 g ss.length
 ks:fi ss=(fJ g ss.length).1
 es:cD ss=(fJ g ss.length).2
structure U7(g:ah)(ss:List SQ)(m:List (ByteArray×Value))(asked:Int)(i:Nat):Prop where
 ks:fi ss=(fJ g i).1
 es:cD ss=(fJ g i).2++List.replicate (ss.length-i) []
 lt:∀j,j<i->j<(fJ g j).1.length
 le:ss.length<=256
 key:F8 m (fi ss)
 ask:asked=1+(MI (fJ g i).2:Int)
structure O9(g:ah)(K:dK)(ss:List SQ)(m:List (ByteArray×Value))(asked:Int)(i t:Nat)(es:List aH):Prop where
 ks:fi ss=(ql g K ((dg g K).take t) ((fJ g i).1,[])).1
 ed:es=(ql g K ((dg g K).take t) ((fJ g i).1,[])).2
 es:cD ss=(fJ g i).2++List.replicate (ss.length-i) []
 le:ss.length<=256
 key:F8 m (fi ss)
 ask:asked=1+(MI (fJ g i).2:Int)+t
section
variable{g:ah}{K:dK}{ss:List SQ}{m m':List (ByteArray×Value)}{asked:Int}{i t:Nat}{es:List aH}
theorem U7.start{b:aiz}{d:Nat}(h:F8 m (xb [] [⟨0,0⟩])):U7 g (pK [] b d [⟨0,0⟩]) m 1 0:=by
 have e:pK [] b d [⟨0,0⟩]=[(((b,d),[⟨0,0⟩]),((none,0),[]))]:=by rfl
 have u:xb [] [(⟨0,0⟩:au)]=[[⟨0,0⟩]]:=by rfl
 rw[u] at h;rw[e];exact⟨rfl,rfl,λj J=>ω,σ,h,rfl⟩
theorem U7.inner(h:U7 g ss m asked i)(hK:(fJ g i).1[i]? =some K):O9 g K ss m asked i 0 []:=
 ⟨h.ks,rfl,h.es,h.le,h.key,by rw[h.ask];omega⟩
theorem O9.next(h:O9 g K ss m asked i t es){s:Nat}(hs:(dg g K)[t]? =some s)(hi:i<=ss.length){b:aiz}{d:Nat}(hk:F8 m' (xb (fi ss) (bx g K s)))(hle:(pK ss b d (bx g K s)).length<=256):
  O9 g K (pK ss b d (bx g K s)) m' (asked+1) i (t+1) (es++[⟨(s:Int),(((fi ss).idxOf (bx g K s):Nat):Int)⟩]):=by
 have e:=OG (g:=g) (K:=K) (acc:=((fJ g i).1,[])) hs
 refine⟨?_,?_,?_,hle,by simp_all[ME],by rw[h.ask];omega⟩
 ·rw[ME,e,h.ks]
 ·rw[e,h.ed,h.ks]
 ·unfold pK
  split
  ·exact h.es
  ·have:cD (ss++[(((b,d),bx g K s),(((none,0),[]):Lq aH))])=cD ss++[[]]:=by simp[cD]
   rw[this,h.es,agV,ahY,show ss.length+1-i=(ss.length-i)+1 by omega,List.replicate_succ',ag3]
theorem O9.done(h:O9 g K ss m asked i (dg g K).length es)(hb:∀j,j<i->j<(fJ g j).1.length)(hK:(fJ g i).1[i]? =some K)(hes:(fJ g i).2.length=i)(hi:i<ss.length){q:SQ}(hq:ss[i]? =some q)(e:Lq aH)(he:e.2=es):
  U7 g (ss.set i (q.1,e)) m asked (i+1):=by
 have J:=XM hq e;have U:=h.ks;have O:=h.ed;rw[ag9] at U O;have u:=ib hK
 refine⟨by simp_all,?_,λj V=>?_,by rw[ahB];exact h.le,by rw[J.1];exact h.key,?_⟩
 ·rw[J.2.2.1,h.es,u,he,<-O,ahB,ahW _ _ ω,hes,ah2,show ss.length-i=(ss.length-(i+1))+1 by omega,ah1,List.set_cons_zero,ag3];rfl
 ·grind
 ·rw[u,K1,h.ask,tL]
  grind
end
theorem MJ{g:ah}:∀i,MI (fJ g i).2<=i*(g.T+g.N)
 |0=>agP _
 |i+1=>by
  cases h:(fJ g i).1[i]? with
  |none=>rw[tf h,aiq];exact ahq (MJ i) (Nat.le_add_right _ _)
  |some K=>
   rw[ib h,K1,tL,aiq]
   have h1:(dg g K).length<=g.T+g.N:=by
    have:=ahs (λs=>decide (bx g K (s:Nat)≠[])) (List.range (g.T+g.N))
    rwa [ahL] at this
   have:=MJ (g:=g) i
   grind
theorem XN(ss:List SQ)(b:aiz)(d:Nat)(K:dK):ss.length<=(pK ss b d K).length/\(pK ss b d K).length<=ss.length+1:=by grind[pK]
theorem aaY{κ α:Type}(ps:List (κ×Lq α)):(mV ps).map Prod.fst=ps.map Prod.fst:=by simp[mV]
theorem adO{κ α:Type}(ps:List (κ×Lq α)):(mV ps).length=ps.length:=ag5 _
abbrev z3:List Value:=[zS,iI 0,iI 0]
section
variable{w:aiA}{L:List aE}{g:ah}{x:GA}
theorem aaZ(hg:gR (hp w) g x)(hb:lq g):ρ 41 [.agg ⟨x.cells⟩] w λv w'=>
  (¬aw g/\v=.tuple #[.agg #[zS,iI 0,iI 0],iI 1]/\Gr w w')\/
  (aw g/\adx g/\v=.tuple #[.agg #[zS,iI 0,iI 0],iI 11]/\Gr w w')\/
  (aw g/\∃(o:aiz)(ss:List SQ),bC g ss/\v=.tuple #[.agg #[vS o ss.length ss.length,iI (1+(MI (cD ss):Int)),iI (ss.length:Int)],iI 0]/\
   St w' (own 2 o ss.length ss.length (Qr ss)::aV (Tc ss)::aV (Rm ss)::all w)):=by
 refine JP (gi hg λk1 w1 gw hg B=>?_);refine ag (St.all w1) λk2 w2 h=>?_;refine⟨_,_,_,_,_,_,_,_,_,_,_,_,_,B.row h.aP,(td (hg.mono h.aP) hb).mono ?_⟩;rintro _ w3⟨⟨rb,rfl,cg⟩,g3⟩;have h:=h.gr g3;have s3:sub (hp w1) (hp w3):=h.aP
 refine⟨_,rfl,ae (λZ=>?_) λZ=>?_⟩
 ·have hn:¬aw g:=λhc=>by simp_all
  exact aL h rfl (by simp[aK]) λw4 h=>⟨_,_,_,_,_,(af 0 h.l).at sZZ rfl,.inl ⟨hn,rfl,gw.trans h.aP⟩⟩
 have hc:aw g:=cg.1 (by simp_all);obtain⟨hT,hN,hP,d8,eC,eu⟩:=hc.cK;obtain⟨_,_,_,_,_,_,bP⟩:=id hb;refine⟨_,_,_,_,_,_,_,_,_,_,_,_,_,B.row s3,(afE (hg.mono s3) hb).mono ?_⟩;rintro _ w5⟨km,kb,pb,rfl,cA,h5⟩;have h:=(St.on (N:=[_,_,_]) h5 h.l).pick 5 [3,0,1,2,4];obtain⟨H,a9,sH,h⟩:=St.freeze h;have bc:sub (hp w1) H:=aC 3 a9;have hm:MkR H g km:=afF (hg.mono bc) cA a9;have sw:sub (hp w) H:=sub.trans gw bc;clear a9 h5 sH B s3 g3;refine⟨_,rfl,nS h λka w6 h=>?_⟩;have h:=dW (κ:=ByteArray) h;refine ag h λkt w7 h=>ag h λk3 w8 h=>?_;have h:St w8 (own 2 (some (aM k3)) 1 1 (tv [⟨0,0⟩])::az kt [zS,iI 0,iI 0,.map (some ka)]::mapA ka ([]:List (ByteArray×Value))::az k2 z3::[has H]):=bg (cs:=[]) h rfl rfl (agT _);have h:=aI 2 ((St.flat (M:=[])).2 ((St.flat (M:=[])).2 h));refine(O7 (ss:=[]) (h.pick 8 [4,0,5,1,2,3,6,7]) F8.start σ (by simp[lz]) ⟨σ,σ⟩ ⟨σ,σ⟩ σ σ).mono ?_;rintro _ w9⟨rfl,o1,c1,m1,b4,h⟩
 refine⟨_,rfl,λz w'=>∃(i:Nat)(ss:List SQ)(o:aiz)(c:Nat)(m:List (ByteArray×Value))(asked:Int),z=i/\i<=ss.length/\U7 g ss m asked i/\St w' (Rp kt ka o c asked ss.length m ss (az k2 z3::[has H])),λz _=>300-z.toNat,
  ⟨0,pK [] (some (aM k3)) 1 [⟨0,0⟩],o1,c1,m1,1,rfl,agP _,.start b4,?_⟩,?_⟩
 ·have e:(0:Int)+(((pK [] (some (aM k3)) 1 [⟨0,0⟩]).length-([]:List SQ).length:Nat):Int)=((pK [] (some (aM k3)) 1 [⟨0,0⟩]).length:Int):=σ
  rw[e] at h;exact h
 clear h b4;rintro _ _ av⟨i,ss,o,c,m,asked,rfl,hi,hB,h⟩;have b2:ss.length<=256:=hB.le;refine⟨_,_,_,(af 0 h.l).cell0 sZZ,ae (λZ=>?_) λZ=>?_⟩
 rotate_left
 ·have Z:i=ss.length:=by grind
  subst Z;have a4:=tK ss;have V:=hB.es;rw[ah2,List.replicate_zero,ahe] at V;have hA:bC g ss:=⟨⟨by rw[<-hB.ks,a4],b2,hB.lt⟩,hB.ks,V⟩;refine⟨_,_,_,(af 0 h.l).cell0 sZZ,iX (bS (bD (h.pick 2 [1])) ⟨_,_,_,rfl,?_⟩)⟩;have h:=cq (h.pick 7 [1,0,3,4,5,6]);refine aR (h.pick 2 [1,0]) σ λc9 h=>?_;have cC:aq (hp c9) (aM kt) ([vS (fK o 0 ss.length 2) ss.length ss.length,iI asked,iI (ss.length:Int)]++[.map (some ka)]):=af 0 h.l
  refine⟨_,_,_,_,_,cC.take.at sZZ rfl,aL (h.pick 6 [4,1,2,3,5]) rfl (by simp[aK]) λe9 h=>⟨_,_,_,_,_,(af 0 h.l).at sZZ rfl,.inr (.inr ⟨hc,fK o 0 ss.length 2,ss,hA,?_,?_⟩)⟩⟩
  ·rw[V,<-hB.ask]
  ·exact St.on (N:=[_,_,_]) (h.pick 5 [1,2,3,4]) (bF sw)
 have Z:i<ss.length:=by simp_all
 obtain⟨q,hq⟩:∃q,ss[i]? =some q:=⟨_,agM Z⟩;obtain⟨K,bT⟩:∃K,K=q.1.2:=⟨_,rfl⟩;have hK:(fJ g i).1[i]? =some K:=by rw[<-hB.ks];simp_all[fi]
 have hI:=gN (g:=g) ω i;have b6:=agL hK;have X:=hI.fit K b6;have ck:∀x∈K,x.dot<=i:=hI.dots i K hK;have ep:=O8 hP (hI.srt K b6) X λx hx=>by grind
 have bb:=MJ (g:=g) i;have cc:MI (fJ g i).2<=33280:=ahq bb (ah6 (show i<=256 by omega) (show g.T+g.N<=130 by omega));have V:=Q_ (g:=g) i (by grind);obtain⟨ad,rfl,rs⟩:=MF (dN 1 h.l) hq;obtain⟨h6,s6,b5⟩:=GD (h.pick 4 [3]).l (MG hq);have be:aX (hp av) K q.1.1.1 q.1.2.length:=by have:=(MH b5).mono s6;grind
 have c5:q.1.2.length=K.length:=by grind
 clear b5 s6;have b3:sub H (hp av):=aC 6 h.l;refine⟨_,_,_,(af 0 h.l).cell0 sZZ,aO rfl Z ⟨_,_,_,rs.cell0 sZZ,(U3 (hm.mono b3) be X ω bP).mono ?_⟩⟩;rintro _ eo⟨kk,Y,rfl,dc,aa,ba,h2⟩;have h:=h2.Oo h.l;clear rs be h2 b3
 have ch:Y.length<=130:=by
  have:=tJ (m:=(List.range 130).map Int.ofNat) aa λs hs=>by
   obtain⟨h0,cp⟩:=(ba s).1 hs;obtain⟨_,h4⟩:=xP hc X h0 cp;exact agY.2 ⟨s.toNat,ahd.2 ω,by grind⟩
  simp_all
 refine⟨_,rfl,(KX aT (rfl:ai Ty _=.map _ _) h).mono ?_⟩;rintro _ e3⟨r,rfl,h⟩;refine⟨_,rfl,λo n c' w'=>∃ks:List Int,n=ks.length/\St w' (own 1 o n c' (iv ks)::tI kk r (mV Y) ks::aV (mO 2 tv Y)::Rp kt ka (some ad) c asked ss.length m ss (az k2 z3::[has H])),λ_ n _ _=>Y.length-n,⟨[],rfl,aI 1 h⟩,?_⟩;clear h;rintro _ cx _ c8 d7⟨ks,rfl,h⟩;refine(O0 (h.pick 2 [1,0])).mono ?_;rintro _ eg (⟨rfl,U,h⟩|⟨s,u,d9,rfl,a4,h⟩)
 rotate_left
 ·rw[adO] at a4;refine .inr ⟨s,u,rfl,(KY h).mono ?_⟩;rintro _ dk⟨rfl,ci⟩;rw[ci];refine⟨s,u,rfl,ag (KV h) λe8 ej h=>?_⟩;refine(aS (us:=iv ks) aT (rfl:ai Ty _=.slice _) (rfl:ai Ty _=.slice _) rfl rfl rfl (h.pick 3 [0,2,1]) rfl (by simp[aK]) (by grind) ω).mono ?_;rintro _ e4⟨el,er,rfl,h⟩;refine⟨_,_,_,rfl,⟨ks++[s],σ,?_⟩,by grind⟩;have e:iv (ks++[s])=iv ks++[iI s]:=by simp[iv]
  rw[e];exact h.pick 3 [0,2]
 rw[aaY] at U;obtain⟨S,hS⟩:∃S,S=dg g K:=⟨_,rfl⟩;have a8:=aaV (ks:=ks) hc X (U.nodup_iff.2 aa) λs=>by grind
 rw[<-hS] at a8;have al:(S.map Int.ofNat).Perm (Y.map Prod.fst):=by grind[List.mergeSort_perm,trans]
 have cT:ks.length=S.length:=by rw[U.length_eq,<-al.length_eq,ag5]
 have ek:S.length<=130:=by have:=al.length_eq;simp_all
 refine .inl ⟨rfl,(S5 (h.pick 2 [1,0]) ω).mono ?_⟩;rintro _ eb⟨rfl,h⟩;rw[a8] at h;have h:=XL (h.pick 3 [2,0,1]) (XK aa al)
 refine⟨rfl,λo n c' z w'=>∃(t:Nat)(es:List aH)(ss':List SQ)(o':aiz)(a7:Nat)(m':List (ByteArray×Value))(J:Int),z=t/\t<=S.length/\n=es.length/\O9 g K ss' m' J i t es/\ss.length<=ss'.length/\
   St w' (own 2 o n c' (qo es)::own 1 cx ks.length c8 (iv (S.map Int.ofNat))::mapA kk (mV Y)::aV (((S.map Int.ofNat).drop t).map λs=>bI 2 tv (HY s Y))::Rp kt ka o' a7 J ss'.length m' ss' (az k2 z3::[has H])),λ_ _ _ z _=>S.length-z.toNat,
  ⟨0,[],ss,some ad,c,m,asked,rfl,agP _,rfl,hB.inner hK,agT _,aI 2 (h.pick 3 [1,2,0])⟩,?_⟩
 clear h hq bT c5;rintro _ a0 _ ef _ ea⟨t,es,ss',o',a7,m',J,rfl,ht,rfl,O,e5,h⟩;have cW:ss'.length<=256:=O.le
 have d3:es.length=t:=by
  rw[O.ed,tL,ahl,<-hS,ais ht];simp
 refine ae (λh3=>?_) λh3=>?_
 ·have h3:t<S.length:=by simp_all
  obtain⟨s,hs⟩:∃s,S[t]? =some s:=⟨_,agM h3⟩;have eD:(S.map Int.ofNat)[t]? =some (s:Int):=by simp_all
  obtain⟨dl,ca,c6⟩:=cO (h.pick 2 [1]) (j:=t) (v:=iI (s:Int)) (by simp_all[iv]);have bi:bx g K (s:Int)≠[]:=yC s (by grind);have cd:(s:Int)∈Y.map Prod.fst:=(ba s).2 ⟨ω,bi⟩;obtain⟨Q,hQ⟩:∃Q,fN (s:Int) Y=some Q:=aip.1 (XE.2 cd);have bz:HY (s:Int) Y=Q:=by simp_all[HY]
  have bl:Q.2=bx g K (s:Int):=by grind[j6]
  have am:(S.map Int.ofNat).drop t=(s:Int)::(S.map Int.ofNat).drop (t+1):=by simp_all[ahj,agN]
  have a4:=Ta g K;have d4:(bx g K (s:Int)).length<=(cls g K).length:=KZ g _ _;have d6:Q.2.length<=29300:=by grind
  refine ax ca ω ⟨_,c6,(cr (κ:=Int) aT (rfl:ai Ty _=.map _ _) bL rfl rfl (h.pick 3 [2]) (s:Int)).mono ?_⟩;rintro _ et⟨rfl,cF⟩;rw[cF];rw[am,ahw,bz] at h;have h:=aaW (h.pick 4 [3,0,1,2]);refine⟨Q.1.1,Q.2.length,Q.1.2,by rw[jD,hQ];rfl,(Xv h ω).mono ?_⟩;rintro _ e6⟨W,rfl,h⟩;rw[bl,wZ OE] at h ⊢
  have a5:∀x∈bx g K (s:Int),lz x:=λx hx=>by
   refine XJ hP (OF X (ahu _) x hx) ?_;obtain⟨y,Z,_,rfl⟩:=dj.1 hx;have:=Z.dot ck (ahu _)
   grind
  have d0:=O.ask;refine⟨_,_,_,rfl,(O7 (h.pick 10 [5,6,7,8,9,0,1,2,3,4]) O.key bi a5 ξ ξ ω ω).mono ?_⟩;rintro _ ez⟨rfl,cu,c7,cN,cz,h⟩;have dF:=XN ss' W (bx g K (s:Int)).length (bx g K (s:Int));have b1:(ss'.length:Int)+(((pK ss' W (bx g K (s:Int)).length (bx g K (s:Int))).length-ss'.length:Nat):Int)=((pK ss' W (bx g K (s:Int)).length (bx g K (s:Int))).length:Int):=ω
  rw[b1] at h;refine⟨_,rfl,ag h λeB em h=>?_⟩;refine(aS (us:=qo es) aT (rfl:ai Ty _=.slice _) (rfl:ai Ty _=.slice _) rfl rfl rfl (h.pick 8 [0,7,1,2,3,4,5,6]) rfl (by simp[aK]) (by grind) ω).mono ?_;rintro _ eA⟨ei,e0,rfl,h⟩
  refine⟨_,_,_,rfl,_,_,_,(af 2 h.l).cell0 sZZ,ae (λh4=>?_) λh4=>?_⟩
  ·have h4:256<(pK ss' W (bx g K (s:Int)).length (bx g K (s:Int))).length:=by grind
   refine aL (h.pick 12 [10,11]) rfl (by simp[aK]) λd5 h=>⟨_,_,_,_,_,(af 0 h.l).at sZZ rfl,.inr (.inl ⟨hc,⟨i,K,t+1,hK,λj hj=>?_,?_⟩,rfl,sub.trans sw (aC 1 h.l)⟩)⟩
   ·by_cases e:j=i
    ·grind
    ·exact hB.lt j ω
   ·rw[hS] at hs;rw[OG hs,<-O.ks]
    grind[tK,pK,bx,ME,xb]
  ·have h4:(pK ss' W (bx g K (s:Int)).length (bx g K (s:Int))).length<=256:=by grind
   refine⟨ξ,⟨t+1,es++[⟨(s:Int),(((fi ss').idxOf (bx g K (s:Int)):Nat):Int)⟩],_,cu,c7,cN,_,σ,h3,σ,O.next (by simp_all) ω cz h4,ω,?_⟩,bR h3⟩;have e:qo (es++[⟨(s:Int),(((fi ss').idxOf (bx g K (s:Int)):Nat):Int)⟩])=qo es++[iI (s:Int),iI (((fi ss').idxOf (bx g K (s:Int)):Nat):Int)]:=by unfold qo;rw[ahh];rfl
   rw[e];exact h.pick 10 [0,8,9,7,2,3,4,5,6]
 ·have h3:t=S.length:=by grind
  intro b7 hd;have h:=h.eq (aQ hd);obtain⟨q',a6⟩:∃q',ss'[i]? =some q':=⟨_,agM ω⟩;have rt:aq (hp b7) (aM kt) [vS o' ss'.length a7,iI J,iI (ss'.length:Int),.map (some ka)]:=af 4 h.l;obtain⟨cI,rfl,_⟩:=MF (dN 5 h.l) a6;refine⟨λu=>Gr b7 u,Gr.refl _,_,_,_,λu s=>rt.cell0 s,jU (bS (bD h) ⟨_,_,_,rfl,Gr.refl _,aO rfl ω ?_⟩)⟩;have h:=cq h;rw[add_add,bh];refine fX (h.pick 6 [5,0,4]) rfl (by grind[Td]) λe7 h=>?_;rw[h3] at O;have ey:(fK a0 0 es.length 2,es.length,es).2.2=es:=rfl;have e1:=aaX a6 ((fK a0 0 es.length 2,es.length),es);have e2:=XM a6 ((fK a0 0 es.length 2,es.length),es);have h:=(St.Xg (n:=i) (h.pick 6 [1,5,0,2,3,4]) (by grind[Rm,List.length_map])).pick 5 [2,1,3,4,0];refine⟨ξ,⟨i+1,ss'.set i (q'.1,((fK a0 0 es.length 2,es.length),es)),some cI,a7,m',J,σ,by grind,(by simp_all:O9 g K ss' m' J i (dg g K).length es).done hB.lt hK V ω a6 _ rfl,?_⟩,by grind⟩;unfold Rp;rw[ahB,e2.2.1,e2.2.2.2,<-e1];exact h
section
variable{a b c d e f:aiz}{i j k l m n o p q r s t:Nat}{A B:Int}{w:aiA}{R:Value->WP}
theorem wg(h:new w (ψ a i j b k l c m n A d o p) λa b=>cLs b (Addr.add (aM a) 1) λc d e=>od (d:Int) (d:Int) 1/\new b (Obj.cells (Array.mk (gD (Int.toNat (d:Int)) [vB false])) 4) λb c=>τ [(4,yV)] λe f=>e true c/\∀(_:ν) c g,e c g->br c (τ [(4,yV),(5,aN)] λh i=>h false 0 g/\∀(_:ν) j k l,h j k l->cLs l (Addr.add (aM a) 4) λm n o=>bQ (k<(n:Int)) (dW1 l λc e=>dLs e (Addr.add (aM a) 4) λf g m=>idx f g k 3 λf=>dLi e f λg=>dLs e (aM a) λf m n=>aA (g-(m:Int))/\idx (some (aM b)) (Int.toNat (d:Int)) (g-(m:Int)) 1 λe=>cLb c e λf=>br f (aA (k+1)/\nB h i j (k+1) c j k l) (dW1 c λe c=>∃f n o p q r s t u v w x y,(∀b,c b->rA b (aM a) 5 [vS f n o,vS p q r,vS s t u,iI v,vS w x y])/\dLs c (Addr.add (aM a) 4) λz a0 a1=>idx z a0 k 3 λa=>dLs c (a.add 1) λz a0 a1=>rEb 53 [vG [vS f n o,vS p q r,vS s t u,iI v,vS w x y],vS (some (aM b)) (Int.toNat (d:Int)) (Int.toNat (d:Int)),vS z a0 a1] e λe c=>br e (idx (some (aM b)) (Int.toNat (d:Int)) (g-(m:Int)) 1 λa=>st1 c a (vB true) λa=>aA (k+1)/\nB h i true (k+1) a j k l) (aA (k+1)/\nB h i j (k+1) c j k l))) (nA e f j l c g)) (R (vS (some (aM b)) (Int.toNat (d:Int)) (Int.toNat (d:Int))) g)):ρ 15 [φ a i j b k l c m n A d o p] w R:=rv Tryz.func15 h ⟨[(3,[(4,yV)]),(6,[(4,yV),(5,aN)])],[],[],[]⟩
theorem qq(h:new w (ψ a i j b k l c m n A d o p) λa b=>τ [(7,aN)] λc d=>c 0 b/\∀(_:ν) b g,c b g->bQ (b<(s:Int)) (dW1 g λh i=>idx f s b 1 λj=>dLi i j λk=>dLs i (aM a) λj l m=>bQ (k<(l:Int)) (R (vB false) h) (idx f s b 1 λf=>dLi i f λj=>dLs i (aM a) λf k l=>aA (j-(k:Int))/\idx e q (j-(k:Int)) 1 λa=>dLb i a λe=>br (!e) (R (vB false) h) (aA (b+1)/\nA c d (b+1) h b g))) (R (vB true) g)):ρ 53 [φ a i j b k l c m n A d o p,vS e q r,vS f s t] w R:=rv Tryz.func53 h ⟨[(2,[(7,aN)])],[],[],[]⟩
def Rr(R:Value->WP)(k1:Nat)(k2:Nat)(k27:Nat)(k44:Nat)(o43:aiz)(w64:aiA):Prop:=∃a,World.cell? w64 (aM k44)=some (vP a)/\iA Tryz.prog Ev 171 [vP a] w64 λa b=>∃c,a=iI c/\od c c 8/\new b (Obj.cells (Array.mk (gD (Int.toNat c) [iI 0])) 3) λa b=>new b (oC [zS] 24) λb d=>st1 d (aM b) (vS (some (aM a)) (Int.toNat c) (Int.toNat c)) λa=>∃c,World.cell? a (aM k44)=some (vP c)/\iA Tryz.prog Ev 172 [vP c] a λa c=>∃d e,a=vF1 d e/\pj (Fn d) (∃(a:List (List Value)),∃(f:aE),∃(g:aE),∃(h:Nat->aE),∃(i:aE),∃(_:Nat->aE),∃(j:List aE),St c (h 0::f::j)/\(∀(a:Hp),aF j a->g a)/\Z5 Tryz.prog d [] e f g a/\(∀(b:List Value),b∈a->∃a,b=[iI a])/\(∀(c:Nat)(d:Int),List.get?Internal a c=some [iI d]->∀(a:List aE)(e:aiA),NR a j->St e (h c::a)->∃(f:aE),St e (f::a)/\∀(a:List aE)(e:aiA),NR a j->St e (f::a)->∃f g i,World.cell? e (aM b)=some (vS f g i)/\idx f g d 1 λf=>st1 e f (iI d) λe=>∃f,World.cell? e (Addr.add (aM k44) 1)=some (iI f)/\br (decide (f<=d)) (∃f g i,World.cell? e (aM b)=some (vS f g i)/\∃b,World.cell? e (Addr.add (aM k44) 1)=some (iI b)/\nn o43 λi=>∃j k l,World.cell? e (Addr.add i 1)=some (vS j k l)/\aA (b+(↑k:Int))/\idx f g d 1 λf=>st1 e f (iI (b+(↑k:Int))) λb=>∀e,drawn b e->∃(b:aiA->Prop),b e/\nn o43 λf=>dLs b (Addr.add f 1) λg i j=>dLs b (Addr.add (aM k1) 1) λf k l=>dLi b (Addr.add (aM k44) 1) λl=>aA (d-l)/\idx f k (d-l) 1 λd=>∃f,(∀a,b a->World.cell? a d=some (Value.string f))/\new e (oC [Value.string f] 9) λd e=>b e/\aY Tryz.prog (fW1 23 [vS g i j,vS (some (aM d)) 1 1]) e λd e=>∃f g i,d=vS f g i/\b e/\nn o43 λb=>st1 e (Addr.add b 1) (vS f g i) λb=>St b (h (c+1)::a)) (St e (h (c+1)::a)))/\(∀(c:aiA),St c (h (List.length a)::f::j)->∃a d e,World.cell? c (aM b)=some (vS a d e)/\∃e,World.cell? c (Addr.add (aM k1) 3)=some (iI e)/\idx a d e 1 λa=>∃d,World.cell? c a=some (iI d)/\nn o43 λa=>st1 c (Addr.add a 3) (iI d) λa=>∃c,World.cell? a (Addr.add (aM k44) 1)=some (iI c)/\nn o43 λd=>∃e,World.cell? a (Addr.add d 3)=some (iI e)/\new a (oC [iI e] 3) λa d=>new d (oC [iI c,vS (some (aM a)) 1 1,iI 0] 134) λa c=>nn o43 λd=>st1 c (Addr.add d 4) (vS (some (aM a)) 1 1) λa=>∃c d e,World.cell? a (Addr.add (aM k1) 4)=some (vS c d e)/\τ [(93,aN)] λe f=>e 0 a/\∀(_:ν) a g,e a g->br (decide (a<(↑d:Int))) (idx c d a 3 λc=>∃d h i j k,rowAt g c 0 3=some [iI d,vS h i j,iI k]/\new g (oC [iI 0,zS,iI 0] 134) λc l=>bA l (aM c) [iI d,vS h i j,iI k] λd=>∃h,World.cell? d (aM k44)=some (vP h)/\∃i,World.cell? d (aM c)=some (iI i)/\iA Tryz.prog Ev 168 [vP h,iI i] d λd h=>∃i,d=vB i/\br (!i) (aA (a+1)/\nA e f (a+1) h a g) (∃d i,rowAt h (aM k27) 0 2=some [vP d,iI i]/\∃j k l,World.cell? h (Addr.add (aM c) 1)=some (vS j k l)/\iA Tryz.prog Ev 173 [vA (Array.mk [vP d,iI i]),vS j k l] h λd h=>∃i,d=vB i/\br (!i) (aA (a+1)/\nA e f (a+1) h a g) (∀d,drawn h d->∃(h:aiA->Prop),h d/\dLs h (aM b) λi j k=>dLi h (aM c) λk=>idx i j k 1 λi=>dLi h i λj=>dLi h (Addr.add (aM c) 2) λi=>new d (oC [iI 0,zS,iI 0] 134) λd k=>h k/\bA k (aM d) [iI j,zS,iI i] λh=>∃i j k,World.cell? h (Addr.add (aM c) 1)=some (vS i j k)/\τ [(121,aN)] λc k=>c 0 h/\∀(_:ν) h l,c h l->br (decide (h<(↑j:Int))) (idx i j h 1 λa=>∃e,World.cell? l a=some (iI e)/\∀a,drawn l a->∃(f:aiA->Prop),f a/\dLs f (Addr.add (aM d) 1) λg i j=>dLs f (aM b) λm n o=>idx m n e 1 λb=>dLi f b λe=>new a (oC [iI e] 3) λa b=>f b/\aY Tryz.prog (fW1 24 [vS g i j,vS (some (aM a)) 1 1]) b λa b=>∃e g i,a=vS e g i/\f b/\st1 b (Addr.add (aM d) 1) (vS e g i) λa=>aA (h+1)/\nA c k (h+1) a h l) (nn o43 λb=>∃c h i,World.cell? l (Addr.add b 4)=some (vS c h i)/\∃b j k m n,rowAt l (aM d) 0 3=some [iI b,vS j k m,iI n]/\new l (oC [iI b,vS j k m,iI n] 134) λb d=>aY Tryz.prog (fW1 25 [vS c h i,vS (some (aM b)) 1 1]) d λb c=>∃d h i,b=vS d h i/\nn o43 λb=>st1 c (Addr.add b 4) (vS d h i) λb=>aA (a+1)/\nA e f (a+1) b a g)))) (nn o43 λa=>∃b c d e f h i j k l m n o,rowAt g a 0 5=some [vS b c d,vS e f h,vS i j k,iI l,vS m n o]/\bA g (aM k2) [vS b c d,vS e f h,vS i j k,iI l,vS m n o] λa=>∃b c d e f g h i j k l m n,rowAt a (aM k2) 0 5=some [vS b c d,vS e f g,vS h i j,iI k,vS l m n]/\∀(o:aiA),hp o=hp a->R (vT (Array.mk [vA (Array.mk [vS b c d,vS e f g,vS h i j,iI k,vS l m n]),iI 0])) o))/\(∀(a:aiA),St a (i::f::j)->∃b c d e f g h i j k l m n,rowAt a (aM k2) 0 5=some [vS b c d,vS e f g,vS h i j,iI k,vS l m n]/\∀(o:aiA),hp o=hp a->R (vT (Array.mk [vA (Array.mk [vS b c d,vS e f g,vS h i j,iI k,vS l m n]),iI 0])) o)/\True)
theorem Ej(h:new w (ψ a i j b k l c m n A d o p) λa b=>new b (oC [zS,zS,zS,iI 0,zS] 27) λb c=>χ c (aM a) λd=>rEb 166 [d] c λe d=>br (!e) (bA d (aM b) [zS,zS,zS,iI 0,zS] λa=>χ a (aM b) λb=>∀(c:aiA),hp c=hp a->R (vU [b,iI 1]) c) (χ d (aM a) λc=>rE 167 [c] d λc d=>∃e f,c=vG [vP e,iI f]/\new d (oC [vP none,iI 0] 317) λc d=>bA d (aM c) [vP e,iI f] λd=>cLp d (aM c) λe=>cLi d (Addr.add (aM a) 3) λf=>rEb 168 [vP e,iI f] d λf e=>br (!f) (bA e (aM b) [zS,zS,zS,iI 0,zS] λa=>χ a (aM b) λb=>∀(c:aiA),hp c=hp a->R (vU [b,iI 12]) c) (χ e (aM a) λd=>∃f g,rA e (aM c) 2 [vP f,iI g]/\rE 169 [d,vG [vP f,iI g]] e λd e=>∃f g,d=vG [vP f,iI g]/\new e (oC [vP none,iI 0] 317) λd e=>bA e (aM d) [vP f,iI g] λe=>∃(f:lP [(6,S1.one Cs.ptr)]),(dW1 e λb c=>dLs c (aM a) λd e g=>dLs c (Addr.add (aM a) 2) λh i j=>(rEs 170 [vS d e g] b λd e g b=>c b/\(rEs 115 [vS h i j] b λh i j b=>c b/\(new b (oC [Value.string (ByteArray.mk (Array.mk []))] 9) λa b=>c b/\new b (oC [zS,zS,zS,iI 0,zS] 27) λb k=>c k/\bA k (aM b) [vS d e g,vS (some (aM a)) 1 1,vS h i j,iI 0,zS] λa=>f (some (aM b)) a)/\new b (oC [zS,zS,zS,iI 0,zS] 27) λa b=>c b/\new b (oC [Value.string (ByteArray.mk (Array.mk []))] 9) λb k=>c k/\bA k (aM a) [vS d e g,vS (some (aM b)) 1 1,vS h i j,iI 0,zS] λb=>f (some (aM a)) b)/\(new b (oC [Value.string (ByteArray.mk (Array.mk []))] 9) λa b=>c b/\(rEs 115 [vS h i j] b λi j k h=>c h/\new h (oC [zS,zS,zS,iI 0,zS] 27) λb h=>c h/\bA h (aM b) [vS d e g,vS (some (aM a)) 1 1,vS i j k,iI 0,zS] λa=>f (some (aM b)) a)/\new b (oC [zS,zS,zS,iI 0,zS] 27) λb k=>c k/\rEs 115 [vS h i j] k λj k l i=>c i/\bA i (aM b) [vS d e g,vS (some (aM a)) 1 1,vS j k l,iI 0,zS] λa=>f (some (aM b)) a)/\new b (oC [zS,zS,zS,iI 0,zS] 27) λa b=>c b/\(rEs 115 [vS h i j] b λi j k h=>c h/\new h (oC [Value.string (ByteArray.mk (Array.mk []))] 9) λb h=>c h/\bA h (aM a) [vS d e g,vS (some (aM b)) 1 1,vS i j k,iI 0,zS] λb=>f (some (aM a)) b)/\new b (oC [Value.string (ByteArray.mk (Array.mk []))] 9) λb k=>c k/\rEs 115 [vS h i j] k λj k l i=>c i/\bA i (aM a) [vS d e g,vS (some (aM b)) 1 1,vS j k l,iI 0,zS] λb=>f (some (aM a)) b)/\(new b (oC [Value.string (ByteArray.mk (Array.mk []))] 9) λa b=>c b/\(rEs 170 [vS d e g] b λe g k d=>c d/\(rEs 115 [vS h i j] d λh i j d=>c d/\new d (oC [zS,zS,zS,iI 0,zS] 27) λb d=>c d/\bA d (aM b) [vS e g k,vS (some (aM a)) 1 1,vS h i j,iI 0,zS] λa=>f (some (aM b)) a)/\new d (oC [zS,zS,zS,iI 0,zS] 27) λb d=>c d/\rEs 115 [vS h i j] d λi j l h=>c h/\bA h (aM b) [vS e g k,vS (some (aM a)) 1 1,vS i j l,iI 0,zS] λa=>f (some (aM b)) a)/\new b (oC [zS,zS,zS,iI 0,zS] 27) λb k=>c k/\rEs 170 [vS d e g] k λg k l e=>c e/\rEs 115 [vS h i j] e λh i j e=>c e/\bA e (aM b) [vS g k l,vS (some (aM a)) 1 1,vS h i j,iI 0,zS] λa=>f (some (aM b)) a)/\new b (oC [zS,zS,zS,iI 0,zS] 27) λa b=>c b/\(rEs 170 [vS d e g] b λe g k d=>c d/\(rEs 115 [vS h i j] d λh i j d=>c d/\new d (oC [Value.string (ByteArray.mk (Array.mk []))] 9) λb d=>c d/\bA d (aM a) [vS e g k,vS (some (aM b)) 1 1,vS h i j,iI 0,zS] λb=>f (some (aM a)) b)/\new d (oC [Value.string (ByteArray.mk (Array.mk []))] 9) λb d=>c d/\rEs 115 [vS h i j] d λi j l h=>c h/\bA h (aM a) [vS e g k,vS (some (aM b)) 1 1,vS i j l,iI 0,zS] λb=>f (some (aM a)) b)/\new b (oC [Value.string (ByteArray.mk (Array.mk []))] 9) λb k=>c k/\rEs 170 [vS d e g] k λg k l e=>c e/\rEs 115 [vS h i j] e λh i j e=>c e/\bA e (aM a) [vS g k l,vS (some (aM b)) 1 1,vS h i j,iI 0,zS] λb=>f (some (aM a)) b)/\∀(_:ν) e g,f e g->Rr R a b c d e g))):ρ 82 [φ a i j b k l c m n A d o p] w R:=rv Tryz.func82 h ⟨[(18,[(93,aN)]),(23,[(121,aN)])],[(8,[(6,(.one .ptr))])],[],[(10,[(45,aN)])]⟩
theorem El(h:new w (ψ a i j b k l c m n A d o p) λa b=>χ b (aM a) λc=>rEb 166 [c] b λd c=>br (!d) (χ c (aM a) λb=>rEb 81 [b] c λd c=>br (!d) (R (vU [zS,iI 1]) c) (dW1 c λb c=>∃d e f g h i j k l m n o p,(∀b,c b->rA b (aM a) 5 [vS d e f,vS g h i,vS j k l,iI m,vS n o p])/\∃q r s t u v w x y z a0 a1 a2,(∀b,c b->rA b (aM a) 5 [vS q r s,vS t u v,vS w x y,iI z,vS a0 a1 a2])/\rE 167 [vG [vS q r s,vS t u v,vS w x y,iI z,vS a0 a1 a2]] b λa b=>∃q r,a=vG [vP q,iI r]/\c b/\rE 169 [vG [vS d e f,vS g h i,vS j k l,iI m,vS n o p],vG [vP q,iI r]] b λa b=>∃d e,a=vG [vP d,iI e]/\c b/\rEs 174 [vG [vP d,iI e]] b λd e f b=>c b/\R (vU [vS d e f,iI 0]) b)) (dW1 c λb c=>∃d e f g h i j k l m n o p,(∀b,c b->rA b (aM a) 5 [vS d e f,vS g h i,vS j k l,iI m,vS n o p])/\∃q r s t u v w x y z a0 a1 a2,(∀b,c b->rA b (aM a) 5 [vS q r s,vS t u v,vS w x y,iI z,vS a0 a1 a2])/\rE 167 [vG [vS q r s,vS t u v,vS w x y,iI z,vS a0 a1 a2]] b λa b=>∃q r,a=vG [vP q,iI r]/\c b/\rE 169 [vG [vS d e f,vS g h i,vS j k l,iI m,vS n o p],vG [vP q,iI r]] b λa b=>∃d e,a=vG [vP d,iI e]/\c b/\rEs 174 [vG [vP d,iI e]] b λd e f b=>c b/\R (vU [vS d e f,iI 0]) b)):ρ 83 [φ a i j b k l c m n A d o p] w R:=rv Tryz.func83 h
theorem xR(h:new w (ψ a i j b k l c m n A d o p) λa b=>new b (oC [vP none,iI 0] 317) λb c=>χ c (aM a) λd=>rE 259 [d] c λc d=>∃e f,c=vG [vP e,iI f]/\new d (oC [vP none,iI 0] 317) λc d=>bA d (aM c) [vP e,iI f] λd=>χ d (aM a) λa=>rE 260 [a,vF1 261 [vP (some (aM c))]] d λa d=>a=vU []/\∃a e,rA d (aM c) 2 [vP a,iI e]/\bA d (aM b) [vP a,iI e] λa=>∃c d,rA a (aM b) 2 [vP c,iI d]/\R (vG [vP c,iI d]) a):ρ 167 [φ a i j b k l c m n A d o p] w R:=rv Tryz.func167 h
theorem Eo(h:new w (ψ a i j b k l c m n A d o p) λa b=>new b (oC [vP e,iI B] 317) λb c=>new c (oC [vP none,iI 0] 317) λc d=>χ d (aM a) λe=>rE 259 [e] d λd e=>∃f g,d=vG [vP f,iI g]/\new e (oC [vP none,iI 0] 317) λd e=>bA e (aM d) [vP f,iI g] λe=>cLp e (aM b) λf=>cLi e (Addr.add (aM a) 3) λg=>rEb 168 [vP f,iI g] e λg f=>br g (cLp f (aM d) λe=>cLi f (Addr.add (aM a) 3) λg=>new f (oC [iI g] 3) λf g=>rEi 103 [vP e,vS (some (aM f)) 1 1] g λg f=>χ f (aM a) λe=>rEb 81 [e] f λg f=>br g (cLp f (aM d) λe=>cLi f (Addr.add (aM d) 1) λg=>new f (oC [iI g] 3) λf g=>rEi 103 [vP e,vS (some (aM f)) 1 1] g λg f=>χ f (aM a) λa=>rE 260 [a,vF1 262 [vP (some (aM d)),vP (some (aM b))]] f λa b=>a=vU []/\∃a e,rA b (aM d) 2 [vP a,iI e]/\bA b (aM c) [vP a,iI e] λa=>∃b d,rA a (aM c) 2 [vP b,iI d]/\R (vG [vP b,iI d]) a) (χ f (aM a) λa=>rE 260 [a,vF1 262 [vP (some (aM d)),vP (some (aM b))]] f λa b=>a=vU []/\∃a e,rA b (aM d) 2 [vP a,iI e]/\bA b (aM c) [vP a,iI e] λa=>∃b d,rA a (aM c) 2 [vP b,iI d]/\R (vG [vP b,iI d]) a)) (χ f (aM a) λa=>rE 260 [a,vF1 262 [vP (some (aM d)),vP (some (aM b))]] f λa b=>a=vU []/\∃a e,rA b (aM d) 2 [vP a,iI e]/\bA b (aM c) [vP a,iI e] λa=>∃b d,rA a (aM c) 2 [vP b,iI d]/\R (vG [vP b,iI d]) a)):ρ 169 [φ a i j b k l c m n A d o p,(.agg #[.pointer e,iI B])] w R:=rv Tryz.func169 h
theorem zr(h:new w (oC [vP a,iI A] 317) λa c=>rEb 126 [vS b i j,vF1 266 [vP (some (aM a))]] c λc b=>R (vB !c) b):ρ 173 [(.agg #[.pointer a,iI A]),vS b i j] w R:=rv Tryz.func173 h
theorem xT(h:new w (oC [vP a,iI A] 317) λa b=>dW1 b λc b=>dLp b (aM a) λd=>dLi b (Addr.add (aM a) 1) λe=>(rEi 171 [vP d] c λf d=>b d/\aA (f-e)/\(od (f-e) (f-e) 1/\new d (Obj.cells (Array.mk (gD (Int.toNat (f-e)) [vB false])) 4) λc d=>new d (oC [zS] 47) λd g=>b g/\st1 g (aM d) (vS (some (aM c)) (Int.toNat (f-e)) (Int.toNat (f-e))) λb=>cLp b (aM a) λc=>rE 172 [vP c] b λb c=>∃e f,b=vF1 e f/\pj (Fn e) (∃(b:List (List Value)),∃(g:aE),∃(h:aE),∃(i:Nat->aE),∃(j:aE),∃(_:Nat->aE),∃(k:List aE),St c (i 0::g::k)/\(∀(a:Hp),aF k a->h a)/\Z5 Tryz.prog e [] f g h b/\(∀(a:List Value),a∈b->∃b,a=[iI b])/\(∀(c:Nat)(e:Int),List.get?Internal b c=some [iI e]->∀(b:List aE)(f:aiA),NR b k->St f (i c::b)->∃(g:aE),St f (g::b)/\∀(b:List aE)(f:aiA),NR b k->St f (g::b)->cLi f (Addr.add (aM a) 1) λg=>bQ (g<=e) (cLs f (aM d) λg h j=>cLi f (Addr.add (aM a) 1) λd=>aA (e-d)/\idx g h (e-d) 1 λa=>st1 f a (vB true) λa=>St a (i (c+1)::b)) (St f (i (c+1)::b)))/\(∀(a:aiA),St a (i (List.length b)::g::k)->cLs a (aM d) λb c e=>∀(d:aiA),hp d=hp a->R (vS b c e) d)/\(∀(a:aiA),St a (j::g::k)->∀(b:aiA),hp b=hp a->R (zS) b)/\True))/\new d (oC [zS] 47) λc d=>b d/\od (f-e) (f-e) 1/\new d (Obj.cells (Array.mk (gD (Int.toNat (f-e)) [vB false])) 4) λb d=>st1 d (aM c) (vS (some (aM b)) (Int.toNat (f-e)) (Int.toNat (f-e))) λb=>cLp b (aM a) λd=>rE 172 [vP d] b λb d=>∃e f,b=vF1 e f/\pj (Fn e) (∃(b:List (List Value)),∃(g:aE),∃(h:aE),∃(i:Nat->aE),∃(j:aE),∃(_:Nat->aE),∃(k:List aE),St d (i 0::g::k)/\(∀(a:Hp),aF k a->h a)/\Z5 Tryz.prog e [] f g h b/\(∀(a:List Value),a∈b->∃b,a=[iI b])/\(∀(d:Nat)(e:Int),List.get?Internal b d=some [iI e]->∀(b:List aE)(f:aiA),NR b k->St f (i d::b)->∃(g:aE),St f (g::b)/\∀(b:List aE)(f:aiA),NR b k->St f (g::b)->cLi f (Addr.add (aM a) 1) λg=>bQ (g<=e) (cLs f (aM c) λg h j=>cLi f (Addr.add (aM a) 1) λc=>aA (e-c)/\idx g h (e-c) 1 λa=>st1 f a (vB true) λa=>St a (i (d+1)::b)) (St f (i (d+1)::b)))/\(∀(a:aiA),St a (i (List.length b)::g::k)->cLs a (aM c) λb d e=>∀(c:aiA),hp c=hp a->R (vS b d e) c)/\(∀(a:aiA),St a (j::g::k)->∀(b:aiA),hp b=hp a->R (zS) b)/\True))/\new c (oC [zS] 47) λc f=>b f/\rEi 171 [vP d] f λg f=>b f/\aA (g-e)/\od (g-e) (g-e) 1/\new f (Obj.cells (Array.mk (gD (Int.toNat (g-e)) [vB false])) 4) λb d=>st1 d (aM c) (vS (some (aM b)) (Int.toNat (g-e)) (Int.toNat (g-e))) λb=>cLp b (aM a) λd=>rE 172 [vP d] b λb d=>∃e f,b=vF1 e f/\pj (Fn e) (∃(b:List (List Value)),∃(g:aE),∃(h:aE),∃(i:Nat->aE),∃(j:aE),∃(_:Nat->aE),∃(k:List aE),St d (i 0::g::k)/\(∀(a:Hp),aF k a->h a)/\Z5 Tryz.prog e [] f g h b/\(∀(a:List Value),a∈b->∃b,a=[iI b])/\(∀(d:Nat)(e:Int),List.get?Internal b d=some [iI e]->∀(b:List aE)(f:aiA),NR b k->St f (i d::b)->∃(g:aE),St f (g::b)/\∀(b:List aE)(f:aiA),NR b k->St f (g::b)->cLi f (Addr.add (aM a) 1) λg=>bQ (g<=e) (cLs f (aM c) λg h j=>cLi f (Addr.add (aM a) 1) λc=>aA (e-c)/\idx g h (e-c) 1 λa=>st1 f a (vB true) λa=>St a (i (d+1)::b)) (St f (i (d+1)::b)))/\(∀(a:aiA),St a (i (List.length b)::g::k)->cLs a (aM c) λb d e=>∀(c:aiA),hp c=hp a->R (vS b d e) c)/\(∀(a:aiA),St a (j::g::k)->∀(b:aiA),hp b=hp a->R (zS) b)/\True)):ρ 174 [(.agg #[.pointer a,iI A])] w R:=rv Tryz.func174 h ⟨[],[],[],[(3,[(15,aN)])]⟩
theorem H9(h:new w (ψ a i j b k l c m n A d o p) λa b=>new b (oC [vP none,iI 0] 317) λb c=>dW1 c λd c=>dLs c (aM a) λe f g=>dLs c (Addr.add (aM a) 1) λe g h=>aA ((f:Int)+(g:Int))/\dLs c (aM a) λe h i=>(rEp 102 [iI ((f:Int)+(g:Int)),zS] d λf e=>c e/\new e (oC [vP none,iI 0] 317) λd e=>c e/\bA e (aM d) [vP f,iI (h:Int)] λc=>cLs c (aM a) λe f g=>τ [(20,aN)] λa e=>a 0 c/\∀(_:ν) c g,a c g->bQ (c<(f:Int)) (cLp g (aM d) λb=>new g (oC [iI c] 3) λd f=>rEi 103 [vP b,vS (some (aM d)) 1 1] f λf d=>aA (c+1)/\nA a e (c+1) d c g) (∃a c,rA g (aM d) 2 [vP a,iI c]/\bA g (aM b) [vP a,iI c] λa=>∃c d,rA a (aM b) 2 [vP c,iI d]/\R (vG [vP c,iI d]) a))/\new d (oC [vP none,iI 0] 317) λd e=>c e/\rEp 102 [iI ((f:Int)+(g:Int)),zS] e λg f=>c f/\bA f (aM d) [vP g,iI (h:Int)] λc=>cLs c (aM a) λe f g=>τ [(20,aN)] λa e=>a 0 c/\∀(_:ν) c g,a c g->bQ (c<(f:Int)) (cLp g (aM d) λb=>new g (oC [iI c] 3) λd f=>rEi 103 [vP b,vS (some (aM d)) 1 1] f λf d=>aA (c+1)/\nA a e (c+1) d c g) (∃a c,rA g (aM d) 2 [vP a,iI c]/\bA g (aM b) [vP a,iI c] λa=>∃c d,rA a (aM b) 2 [vP c,iI d]/\R (vG [vP c,iI d]) a)):ρ 259 [φ a i j b k l c m n A d o p] w R:=rv Tryz.func259 h ⟨[(3,[(20,aN)])],[],[],[]⟩
theorem F_{F:FuncId}{G:List Value}(h:new w (ψ a i j b k l c m n A d o p) λa b=>τ [(4,aN)] λc d=>c 1 b/\∀(_:ν) b e,c b e->bQ (0<b) (cLs e (Addr.add (aM a) 4) λf g h=>τ [(4,aN),(12,aN)] λa h=>a 0 0 e/\∀(_:ν) i j k,a i j k->bQ (j<(g:Int)) (idx f g j 3 λb=>∃c d e f g,rA k b 3 [iI c,vS d e f,iI g]/\new k (oC [iI 0,zS,iI 0] 134) λb l=>bA l (aM b) [iI c,vS d e f,iI g] λc=>∃d e f g l,rA c (aM b) 3 [iI d,vS e f g,iI l]/\pj (Fn F) (rEi F (vG [iI d,vS e f g,iI l]::G) c λd c=>aA (i+d)/\aA (j+1)/\nB a h (i+d) (j+1) c i j k)) (nA c d i k b e)) (R (vU []) e)):ρ 260 [φ a i j b k l c m n A d o p,(.func (.func F) #[] ⟨G⟩)] w R:=rv Tryz.func260 h ⟨[(2,[(4,aN)]),(5,[(4,aN),(12,aN)])],[],[],[]⟩
abbrev mh:FuncId:=261
theorem tO{f:Addr}(h:new w (oC [iI A,vS a i j,iI B] 134) λa b=>∃c d,rA b f 2 [vP c,iI d]/\cLs b (Addr.add (aM a) 1) λe g h=>rEb 173 [vG [vP c,iI d],vS e g h] b λd c=>br (!d) (R (iI 0) c) (cLp c f λb=>cLi c (aM a) λd=>new c (oC [iI d] 3) λa c=>rEi 103 [vP b,vS (some (aM a)) 1 1] c λc b=>R (iI c) b)):ρ 261 [(.agg #[iI A,vS a i j,iI B]),(.pointer (some f))] w R:=rv Tryz.func261 h
abbrev gO:FuncId:=262
theorem zv{f:Addr}{g:Addr}(h:new w (oC [iI A,vS a i j,iI B] 134) λa b=>cLp b f λc=>cLi b (aM a) λd=>rEb 168 [vP c,iI d] b λd c=>br (!d) (R (iI 0) c) (∃b d,rA c g 2 [vP b,iI d]/\cLs c (Addr.add (aM a) 1) λe g h=>rEb 173 [vG [vP b,iI d],vS e g h] c λd c=>br (!d) (R (iI 0) c) (cLp c f λb=>cLs c (Addr.add (aM a) 1) λd e f=>rEi 103 [vP b,vS d e f] c λc b=>R (iI c) b))):ρ 262 [(.agg #[iI A,vS a i j,iI B]),(.pointer (some f)),(.pointer (some g))] w R:=rv Tryz.func262 h
abbrev ic:FuncId:=266
theorem uR{b:Addr}(h:cLp w b λa=>rEb 168 [vP a,iI A] w λc b=>R (vB !c) b):ρ 266 [iI A,(.pointer (some b))] w R:=rv Tryz.func266 h
end
end
theorem XO(a:aiz)(m sz:Nat):fK a 0 m sz=a:=by simp[fK,bh,Nat.zero_mul,Addr.add]
section
variable{g:ah}{I ls:List au}{bs:List Bool}{i:Nat}{x y:au}
theorem aw.left(h:aw g){p:aJ}(hp:p∈g.prods):(g.T:Int)<=p.left:=by
 obtain⟨_,U,O,V,u,hl,_⟩:=h;obtain⟨n,hn⟩:=ahb hp;cases n with
 |zero=>simp_all
 |succ n=>
  have J:p∈g.prods.drop 1:=by
   refine agL (i:=n) ?_
   simp_all
  have:=((O.2.2.1 p J).1).1;omega
end
def O_(h:Hp)(ss:List SQ)(o:aiz):Prop:=∀(i:Nat) q,ss[i]? =some q->∃ad,o=some ad/\aq h (ad.add (ff i 2)) (U5 q)/\aX h q.1.2 q.1.1.1 q.1.2.length/\aX h q.2.2 q.2.1.1 q.2.2.length
theorem O_.mono{h h':Hp}{ss:List SQ}{o:aiz}(s:sub h h')(r:O_ h ss o):O_ h' ss o:=λi q V=>by
 obtain⟨O,U,W,u,J⟩:=r i q V
 exact⟨O,U,W.mono s,u.mono s,J.mono s⟩
theorem Te{h:Hp}{xs:List aH}{a:aiz}{l:Nat}(hl:xs.length=l)(r:eE a (qo xs) h):aX h xs a l:=by
 refine⟨hl,λi x J=>?_⟩
 rcases r with e|⟨u,rfl,hc⟩
 ·have O:=congrArg List.length e
  grind[aaT,List.length_nil,List.getElem?_eq_some_iff]
 ·exact⟨u,U4 x,rfl,cJ (n:=2) (λ_=>rfl) xs u hc i x J,rfl⟩
theorem pM{h:Hp}{xs:List aH}{a:aiz}{l:Nat}(r:aX h xs a l){i:Nat}(hi:i<l):∃x ad,xs[i]? =some x/\a=some ad/\aq h (ad.add (ff i 2)) (U4 x):=by
 obtain⟨x,ad,vs,J,ha,u,e⟩:=r.get hi;rw[show vs=U4 x from e] at u;exact⟨x,ad,J,ha,u⟩
theorem GF{h:Hp}{L:List aE}{ss:List SQ}{o:aiz}{n c:Nat}(hs:aF (own 2 o n c (Qr ss)::aV (Tc ss)::aV (Rm ss)::L) h):O_ h ss o:=λi q u=>by
 obtain⟨J,e,r⟩:=MF (dN 0 hs) u
 obtain⟨U,s1,a1⟩:=GD (aj hs) (MG u)
 obtain⟨O,s2,a2⟩:=GD (aj (aj hs)) (aaU u)
 exact⟨J,e,r,(MH a1).mono s1,(Te rfl (bH a2)).mono s2⟩
section
variable{g:ah}{K:dK}{ss:List SQ}{asked:Int}{i s:Nat}{es:List aH}
theorem adP(hc:aw g)(hf:∀x∈K,vE g x):bx g K 0=[]:=by
 refine ahm λh=>?_;have:=xP (s:=0) hc hf (Int.le_refl _) h;omega
end
def Fh(g:ah)(ss:List SQ)(ask int f:Int):Prop:=
 (¬aw g/\ss=[]/\ask=0/\int=0/\f=1)\/(aw g/\adx g/\ss=[]/\ask=0/\int=0/\f=11)\/(aw g/\bC g ss/\ask=1+(MI (cD ss):Int)/\int=(ss.length:Int)/\f=0)
theorem Fh.one{g:ah}{ss ss':List SQ}{a i f a' i' f':Int}(h:Fh g ss a i f)(h':Fh g ss' a' i' f'):fi ss=fi ss'/\cD ss=cD ss'/\a=a'/\i=i'/\f=f'/\ss.length=ss'.length:=by
 rcases h with⟨O,rfl,rfl,rfl,rfl⟩|⟨O,hb,rfl,rfl,rfl,rfl⟩|⟨O,hA,rfl,rfl,rfl⟩
 ·rcases h' with⟨u,rfl,rfl,rfl,rfl⟩|⟨u,_⟩|⟨u,_⟩
  ·simp
  ·simp_all
  simp_all
 ·rcases h' with⟨u,_⟩|⟨u,_,rfl,rfl,rfl,rfl⟩|⟨u,hA,_⟩
  ·simp_all
  ·simp
  ·exact(OI hA.dn hb).elim
 ·rcases h' with⟨u,_⟩|⟨u,hb,_⟩|⟨u,J,rfl,rfl,rfl⟩
  ·simp_all
  ·exact(OI hA.dn hb).elim
  ·have e:=Xm hA.dn J.dn;have U:cD ss=cD ss':=by rw[hA.es,J.es,e]
   refine⟨by rw[hA.ks,J.ks,e],U,by grind,by rw[e],rfl,e⟩
theorem bC.J9{g:ah}{ss:List SQ}(hc:aw g)(h:bC g ss):∀q∈ss,q.1.2.length<=29100/\q.2.2.length<=130:=λq U=>by
 obtain⟨hT,hN,hP,W,_,_⟩:=hc.cK
 have u:=gN (g:=g) ω ss.length
 obtain⟨j,X⟩:=ahb U
 have e:(fJ g ss.length).1[j]? =some q.1.2:=by rw[<-h.ks];simp_all[fi]
 have Z:(fJ g ss.length).2[j]? =some q.2.2:=by rw[<-h.es];simp_all[cD]
 have J:=agL e
 have V:=(agN.1 X).1
 have O:=h.dn.2.1
 refine⟨O8 hP (u.srt _ J) (u.fit _ J) λx Y=>by have:=u.dots j _ e x Y;omega,?_⟩
 have key:∀i,∀es∈(fJ g i).2,es.length<=g.T+g.N:=by
  intro i
  induction i with
  |zero=>simp[fJ]
  |succ i ih=>
   grind[es,fJ,tf,ib,List.mem_singleton,tL,List.length_filter_le,decide,bx,List.range,List.length_range,dg]
 grind
section
variable{w:aiA}{L:List aE}{g:ah}{x:GA}
theorem xU(hg:gR (hp w) g x)(hb:lq g):ρ 41 [.agg ⟨x.cells⟩] w λv w'=>∃(o:aiz)(c:Nat)(ss:List SQ)(ask int f:Int),v=.tuple #[.agg #[vS o ss.length c,iI ask,iI int],iI f]/\Fh g ss ask int f/\St w' (own 2 o ss.length c (Qr ss)::aV (Tc ss)::aV (Rm ss)::all w):=by
 refine(aaZ hg hb).mono ?_;have z:∀{w':aiA},Gr w w'->St w' (own 2 none 0 0 (Qr [])::aV (Tc [])::aV (Rm [])::all w):=λgr=>aI 2 ((St.flat (M:=[])).2 ((St.flat (M:=[])).2 (St.here gr)))
 rintro _ w' (⟨hn,rfl,gr⟩|⟨hc,u,rfl,gr⟩|⟨hc,o,ss,hA,rfl,h⟩)
 ·exact⟨none,0,[],0,0,1,rfl,.inl ⟨hn,rfl,rfl,rfl,rfl⟩,z gr⟩
 ·exact⟨none,0,[],0,0,11,rfl,.inr (.inl ⟨hc,u,rfl,rfl,rfl,rfl⟩),z gr⟩
 ·exact⟨o,_,ss,_,_,0,rfl,.inr (.inr ⟨hc,hA,rfl,rfl,rfl⟩),h⟩
end
section
variable{g:ah}{K:dK}{st:List dK}{n i j:Nat}
theorem Tf{k:dK}:(xb st k)[st.idxOf k]? =some k:=by
 unfold xb
 grind
theorem H_:∀(l:List Nat)(st:List dK)(es:List aH)(k s:Nat),l[k]? =some s->∃to:Nat,(ql g K l (st,es)).2[es.length+k]? =some ⟨(s:Int),(to:Int)⟩/\(ql g K l (st,es)).1[to]? =some (bx g K (s:Int))
 |[],_,_,_,_,h=>by grind
 |a::l,st,es,0,s,h=>by
  simp at h;subst h
  refine⟨st.idxOf (bx g K (a:Int)),?_,?_⟩
  ·show(ql g K l (xb st (bx g K (a:Int)),es++[⟨(a:Int),_⟩])).2[es.length+0]? =_
   have pre:∀(l:List Nat)(st:List dK)(es:List aH)(k:Nat) e,es[k]? =some e->(ql g K l (st,es)).2[k]? =some e:=by
    intro l
    induction l with
    |nil=>exactλst es k e h=>h
    |cons b l ih=>
     intro st es k e h
     exact ih _ _ k e (by grind)
   simp_all
  ·show(ql g K l (xb st (bx g K (a:Int)),es++[⟨(a:Int),_⟩])).1[_]? =_
   simp[xc,Tf]
 |a::l,st,es,k+1,s,h=>by
  obtain⟨to,h1,h2⟩:=H_ l (xb st (bx g K (a:Int))) (es++[⟨(a:Int),((st.idxOf (bx g K (a:Int)):Nat):Int)⟩]) k s (by simp_all)
  refine⟨to,?_,h2⟩
  rw[agV,ahY] at h1
  rw[show es.length+(k+1)=es.length+1+k by omega]
  exact h1
theorem U8{i n:Nat}(h:i<=n)(j:Nat)(e:List aH)(he:(fJ g i).2[j]? =some e):(fJ g n).2[j]? =some e:=by
 induction h with
 |refl=>omega
 | @step m _ ih=>
  grind[fJ,tf,ib,List.getElem?_append_left,List.getElem?_eq_some_iff]
theorem ig{ss:List SQ}(h:bC g ss){i:Nat}{q:SQ}(hq:ss[i]? =some q):(fJ g i).1[i]? =some q.1.2/\q.2.2=(ql g q.1.2 (dg g q.1.2) ((fJ g i).1,[])).2/\∀(j:Nat) K,(fJ g (i+1)).1[j]? =some K->∃r,ss[j]? =some r/\r.1.2=K:=by
 have u:=(agN.1 hq).1;have O:=h.dn.2.2 i u;have Z:(fJ g ss.length).1[i]? =some q.1.2:=by rw[<-h.ks];simp_all[fi]
 obtain⟨K,J⟩:∃K,(fJ g i).1[i]? =some K:=⟨_,agM O⟩;have V:=Ca (Nat.le_of_lt u) i K J;rw[Z] at V;cases V
 refine⟨J,?_,λj K' W=>?_⟩
 ·have hb:=ib J;have a0:=Q_ (g:=g) i ω;have X:(fJ g (i+1)).2[i]? =some (ql g q.1.2 (dg g q.1.2) ((fJ g i).1,[])).2:=by simp_all
  have Y:=U8 u i _ X;rw[<-h.es] at Y
  grind[cD,Option.some.inj]
 ·have U:=Ca u j K' W;rw[<-h.ks] at U;unfold fi at U
  simp_all
theorem bC.pos{ss:List SQ}(h:bC g ss):0<ss.length:=by
 refine ahT λh0=>?_;have:=h.dn.1
 simp_all[fJ]
end
section
variable{g:ah}{K K':dK}{s s':Int}{ss:List SQ}
theorem XP(h:bx g K s=bx g K' s')(hne:bx g K s≠[]):s=s':=by
 obtain⟨x,J⟩:=ahR _ hne;have u:=J;rw[h] at u;obtain⟨y,_,O,rfl⟩:=dj.1 J
 grind[dj,au.ext']
theorem Tg:∀(l:List Nat)(st:List dK)(es:List aH)(j:Nat)(L:dK),st.length<=j->(ql g K l (st,es)).1[j]? =some L->∃k s:Nat,l[k]? =some s/\L=bx g K (s:Int)/\(ql g K l (st,es)).2[es.length+k]? =some ⟨(s:Int),(j:Int)⟩
 |[],st,es,j,L,hj,h=>by
  have:=(agN.1 h).1
  have h2:(ql g K [] (st,es)).1.length=st.length:=rfl
  omega
 |a::l,st,es,j,L,hj,h=>by
  by_cases hlt:(xb st (bx g K (a:Int))).length<=j
  ·obtain⟨k,s,h1,h2,h3⟩:=Tg l (xb st (bx g K (a:Int))) (es++[(⟨(a:Int),((st.idxOf (bx g K (a:Int)):Nat):Int)⟩:aH)]) j L hlt h
   refine⟨k+1,s,by simp_all,h2,?_⟩
   rw[agV,ahY] at h3
   rw[show es.length+(k+1)=es.length+1+k by omega]
   exact h3
  ·have hn:bx g K (a:Int)∉st:=λhm=>by
    have:(xb st (bx g K (a:Int))).length=st.length:=by simp_all[xb]
    omega
   have hlen:(xb st (bx g K (a:Int))).length=st.length+1:=by simp_all[xb]
   have hjs:j=st.length:=ω
   obtain⟨to,h1,h2⟩:=H_ (g:=g) (K:=K) (a::l) st es 0 a rfl
   have e:st.idxOf (bx g K (a:Int))=st.length:=List.idxOf_eq_length hn
   have hj2:(xb st (bx g K (a:Int)))[j]? =some (bx g K (a:Int)):=by grind[Tf]
   have hL:=xc l (xb st (bx g K (a:Int))) (es++[(⟨(a:Int),((st.idxOf (bx g K (a:Int)):Nat):Int)⟩:aH)]) j _ hj2 (g:=g) (K:=K)
   have h:(ql g K l (xb st (bx g K (a:Int)),es++[(⟨(a:Int),((st.idxOf (bx g K (a:Int)):Nat):Int)⟩:aH)])).1[j]? =some L:=h
   rw[hL] at h
   refine⟨0,a,rfl,(Option.some.inj h).symm,?_⟩
   have pre:∀(l:List Nat)(st:List dK)(es:List aH)(k:Nat) e,es[k]? =some e->(ql g K l (st,es)).2[k]? =some e:=by
    intro l
    induction l with
    |nil=>exactλst es k e h=>h
    |cons b l ih=>
     intro st es k e h
     exact ih _ _ k e (by grind)
   simp_all[ql,xb,bx,Nat.add_zero]
theorem dm(hc:aw g)(h:bC g ss){i:Nat}{q:SQ}(hq:ss[i]? =some q){m:Nat}{e:aH}(he:q.2.2[m]? =some e):1<=e.sym/\e.sym<g.T+g.N/\∃(j:Nat)(r:SQ),e.to=j/\1<=j/\ss[j]? =some r/\r.1.2=bx g q.1.2 e.sym/\bx g q.1.2 e.sym≠[]:=by
 obtain⟨Z,hE,Y⟩:=ig h hq;obtain⟨_,_,_,a0,_,_⟩:=hc.cK;have hI:=gN (g:=g) ω i;have X:=hI.fit _ (agL Z);have U:m<(dg g q.1.2).length:=by grind[List.getElem?_eq_some_iff,tL]
 obtain⟨to,u,h2⟩:=H_ (g:=g) (K:=q.1.2) (dg g q.1.2) (fJ g i).1 [] m _ (agM U);rw[<-hE] at u;have u:q.2.2[m]? =some ⟨(((dg g q.1.2)[m]:Nat):Int),(to:Int)⟩:=by simp_all
 rw[he] at u;have u:=Option.some.inj u;have O:=yC (g:=g) (K:=q.1.2) _ (ail U);obtain⟨r,hr,V⟩:=Y to _ (by rw[ib Z];exact h2);have W:=xP hc X (ahu _) O;rw[u];refine⟨W.1,W.2,to,r,rfl,ahT λh0=>?_,hr,V,O⟩;subst h0;have J:(fJ g ss.length).1[0]? =some [⟨0,0⟩]:=Ca (agP _) 0 _ rfl;rw[<-h.ks] at J;unfold fi at J;rw[agS,hr] at J;have J:r.1.2=[⟨0,0⟩]:=Option.some.inj J;rw[V] at J;have hm:(⟨0,0⟩:au)∈bx g q.1.2 (((dg g q.1.2)[m]:Nat):Int):=by simp_all
 obtain⟨y,hy,_,e⟩:=dj.1 hm;injection e with _ e2
 have:=(hy.fit X).2.1;omega
theorem Ia(hc:aw g)(h:bC g ss){j:Nat}(hj:1<=j)(hjl:j<ss.length):∃(i:Nat)(q:SQ)(m:Nat)(e:aH),i<j/\ss[i]? =some q/\q.2.2[m]? =some e/\e.to=j:=by
 have key:∀n,n<=ss.length->j<(fJ g n).1.length->∃(i:Nat)(K:dK),i<n/\(fJ g i).1[i]? =some K/\(fJ g i).1.length<=j/\j<(fJ g (i+1)).1.length:=by
  intro n
  induction n with
  |zero=>intro _ J;have:(fJ g 0).1.length=1:=rfl;omega
  |succ n ih=>
   intro hn J
   by_cases O:j<(fJ g n).1.length
   ·grind
   ·exact⟨n,_,Nat.lt_succ_self n,agM (h.dn.2.2 n ω),ω,J⟩
 obtain⟨i,K,Y,J,O,U⟩:=key ss.length (agT _) (by rw[h.dn.1];omega);have u:i<ss.length:=Y;obtain⟨q,W⟩:∃q,ss[i]? =some q:=⟨_,agM u⟩;obtain⟨V,hE,_⟩:=ig h W;rw[J] at V;cases V;have X:=h.dn.2.2 i u;rw[ib J] at U;obtain⟨m,s,h5,h6,Z⟩:=Tg (g:=g) (dg g q.1.2) (fJ g i).1 [] j _ O (agM U)
 grind
noncomputable def afI(g:ah)(ss:List SQ)(j:Nat):Int:=Classical.epsilon λs:Int=>∃(r:SQ)(K:dK),ss[j]? =some r/\(∀x∈K,vE g x)/\r.1.2=bx g K s/\bx g K s≠[]/\1<=s
theorem aa0{j:Nat}{r:SQ}{K:dK}{s:Int}(hr:ss[j]? =some r)(hf:∀x∈K,vE g x)(hk:r.1.2=bx g K s)(hne:bx g K s≠[])(hs:1<=s):afI g ss j=s:=by
 obtain⟨r',K',u,_,O,J,_⟩:=Classical.epsilon_spec (p:=λs:Int=>∃(r:SQ)(K:dK),ss[j]? =some r/\(∀x∈K,vE g x)/\r.1.2=bx g K s/\bx g K s≠[]/\1<=s) ⟨s,r,K,hr,hf,hk,hne,hs⟩;rw[hr] at u;cases u
 show Classical.epsilon _=s
 grind[XP]
theorem ML(hc:aw g)(h:bC g ss){j:Nat}(hj:1<=j){r:SQ}(hr:ss[j]? =some r){x:au}(hx:x∈r.1.2):0<=x.prod/\1<=x.dot/\∃p,g.prods[x.prod.toNat]? =some p/\x.dot<=p.right.length/\p.right[(x.dot-1).toNat]? =some (afI g ss j):=by
 obtain⟨i,q,m,e,a0,W,Y,a4⟩:=Ia hc h hj (agN.1 hr).1;obtain⟨h1,h2,j',r',e1,_,J,V,U⟩:=dm hc h W Y;have:j'=j:=ω
 subst this;rw[hr] at J;cases J;obtain⟨Z,_⟩:=ig h W;obtain⟨_,_,_,a5,_,_⟩:=hc.cK;have u:=(gN (g:=g) ω i).fit _ (agL Z);rw[aa0 hr u V U h1];rw[V] at hx;obtain⟨y,X,ha,rfl⟩:=dj.1 hx;obtain⟨p,hp,h3,h4⟩:=HL (X.fit u) ha ω;have O:=X.fit u;refine⟨O.1,by have:=O.2.1;grind,p,hp,by grind,?_⟩
 simp_all
end
class nX (κ:Type) extends MVal κ where
 a:κ->Int
 b:κ->Int
 val2:∀k,toMVal.val k=.agg ⟨[iI (a k),iI (b k)]⟩
 ext:∀k l,a k=a l->b k=b l->k=l
section
variable{P:Program}{κ:Type}[DecidableEq κ][nX κ]{kt ti:TypeId}{f0 f1:Field}
structure Two(P:Program)(kt ti:TypeId)(f0 f1:Field):Prop where
 ht:P.underlying kt=some (.struct (P.fieldsOf kt))
 hf:P.fieldsOf kt=#[f0,f1]
 hi:P.underlying ti=some (.int .i64)
 ht0:f0.type=ti
 ht1:f1.type=ti
 n0:f0.name≠"_"
 n1:f1.name≠"_"
 o0:f0.offset=0
 o1:f1.offset=1
 sih:P.stoodInHeld kt=false
theorem XQ(T:Two P kt ti f0 f1)(w:aiA)(x y u v:Int):(Op.equal kt (.agg #[iI x,iI y]) (.agg #[iI u,iI v])).run P w=.ok (decide (x=u/\y=v)) w:=by
 have U:∀(v u:Value)(w:aiA),(part ti #[v,u] 0).run P w=.ok v w:=λv u w=>by simp[part,mj T.hi,iz,Kd.isAgg]
 have O:∀(v u:Value)(w:aiA),(part ti #[v,u] 1).run P w=.ok u w:=λv u w=>by simp[part,mj T.hi,iz,Kd.isAgg]
 have J:∀n m d w,(Op.equalIn (d+1) ti (iI n) (iI m)).run P w=.ok (n==m) w:=λn m d w=>run_equalIn_int w d _ _ _ _ _ T.hi
 show(Op.equalIn (9998+1+1) kt _ _).run P w=_
 rw[run_equalIn_agg w (9998+1) kt _ _ T.ht T.sih,T.hf];have n0:=T.n0;have n1:=T.n1;have e:decide (x=u/\y=v)=(x==u&&y==v):=by grind
 rw[e];unfold Op.eqFields;simp only[ne_eq,n0,not_false_eq_true,if_true,Sem.run_bind,T.ht0,T.o0,U,Result.andThen_ok,J]
 cases hq:(x==u)
 ·simp
 ·unfold Op.eqFields;simp only[ne_eq,n1,not_false_eq_true,if_true,Sem.run_bind,T.ht1,T.o1,O,Result.andThen_ok,J,Bool.not_true,Bool.false_eq_true,if_false]
  cases hn:(y==v)
  ·simp
  rfl
theorem Pa(T:Two P kt ti f0 f1)(w:aiA)(k:κ):∀(es:List MapEntry)(m:List (κ×Value))(i:Nat),es.map (λe=>(e.key,e.val))=m.map (λx=>(MVal.val x.1,x.2))->
  ∃r,(Instr.findAsking kt (MVal.val k) es i).run P w=.ok r w/\(r.map (·.2))=assoc k m/\(∀j v,r=some (j,v)->i<=j/\j<i+m.length/\(m[j-i]?).map (·.1)=some k/\∀u,cV k u m=m.set (j-i) (k,u))/\(r=none->∀u,cV k u m=m++[(k,u)])
 |[],[],i,_=>⟨none,rfl,rfl,λj v h=>(by grind),λ_ u=>rfl⟩
 |[],_::_,i,h=>by grind
 |_::_,[],i,h=>by grind
 |e::es,(a,v)::m,i,h=>by
  simp only[ahw,List.cons.injEq,Prod.mk.injEq] at h
  obtain⟨⟨h1,h2⟩,h3⟩:=h
  have he:(Op.equal kt (MVal.val k) e.key).run P w=.ok (decide (k=a)) w:=by
   rw[h1,nX.val2,nX.val2]
   have:=XQ T w (nX.a k) (nX.b k) (nX.a a) (nX.b a)
   have e2:decide (nX.a k=nX.a a/\nX.b k=nX.b a)=decide (k=a):=decide_eq_decide.2 ⟨λ⟨h1,h2⟩=>nX.ext k a h1 h2,λh=>by simp_all⟩
   simp_all
  unfold Instr.findAsking
  simp only[Sem.run_bind,he,Result.andThen_ok]
  by_cases hk:k=a
  ·simp_all[assoc,cV]
  ·obtain⟨r,q1,q2,q3,q4⟩:=Pa T w k es m (i+1) h3
   refine⟨r,by simp_all,by simp_all[assoc],λj u hj=>?_,λhn u=>by simp_all[cV]⟩
   obtain⟨p1,p2,p3,p4⟩:=q3 j u hj
   have e1:j-i=(j-(i+1))+1:=ω
   grind[cV]
theorem wU.two(T:Two P kt ti f0 f1):wU P kt κ where
 check:=λw J k=>by
  rw[nX.val2]
  have O:=T.ht
  rw[T.hf] at O
  have Z:∀(v u:Value)(w:aiA),(part ti #[v,u] 0).run P w=.ok v w:=λv u w=>by simp[part,mj T.hi,iz,Kd.isAgg]
  have Y:∀(v u:Value)(w:aiA),(part ti #[v,u] 1).run P w=.ok u w:=λv u w=>by simp[part,mj T.hi,iz,Kd.isAgg]
  have X:∀(n:Nat)(z:Int)(w:aiA),(Instr.checkKey J (n+1) ti (iI z)).run P w=.ok () w:=λn z w=>MapKept.run_checkKey (P:=P) (w:=w) T.hi (by rfl) J n
  show(Instr.checkKey J (9998+1+1) kt _).run P w=_
  unfold Instr.checkKey
  simp only[Sem.run_bind,run_underlying O,Result.andThen_ok]
  have n0:=T.n0
  have n1:=T.n1
  simp[n0,n1,T.ht0,T.ht1,T.o0,T.o1,Sem.run_bind,Z,Y,X]
 find:=λw k es m U=>by
  obtain⟨r,q1,W,q3,V⟩:=Pa T w k es m 0 U
  refine⟨r,?_,W,λj v hj=>?_,V⟩
  ·have O:=T.ht
   cases es with
   |nil=>
    simp_all[Instr.findKey,run_underlying,Instr.findNow,Instr.findAsking]
   |cons e es=>
    simp_all[Instr.findNow,Instr.sameNow,Instr.findKey,Sem.run_bind,run_underlying,Result.andThen_ok]
  grind
 bits:=λk=>by simp[nX.val2,Instr.sameBits]
end
structure aG where
 st:Int
 sym:Int
deriving DecidableEq
instance:Inhabited aG:=⟨⟨0,0⟩⟩
instance:uj aG:={ n:=2,rd:=λ_ x vs=>vs=[iI x.st,iI x.sym],mono:=λ_ h=>h,len:=λh=>by simp_all }
instance:nX aG:={ val:=λk=>.agg ⟨[iI k.st,iI k.sym]⟩,inj:=λa b h=>by cases a;simp_all,a:=aG.st,b:=aG.sym,val2:=λ_=>rfl,ext:=λk l h1 h2=>by cases k;simp_all }
def Ib(x:aG):List Value:=[iI x.st,iI x.sym]
def K2(xs:List aG):List Value:=xs.flatMap Ib
theorem aa1(xs:List aG):(K2 xs).length=xs.length*2:=pJ (f:=Ib) (n:=2) (λ_=>rfl) xs
theorem aa2(xs ys:List aG):K2 (xs++ys)=K2 xs++K2 ys:=ahh
theorem GG{h:Hp}{xs:List aG}{a:aiz}{l:Nat}(hl:xs.length=l)(r:eE a (K2 xs) h):aX h xs a l:=by
 refine⟨hl,λi x J=>?_⟩
 rcases r with e|⟨u,rfl,hc⟩
 ·have O:=congrArg List.length e
  grind[aa1,List.length_nil,List.getElem?_eq_some_iff]
 ·exact⟨u,Ib x,rfl,cJ (n:=2) (λ_=>rfl) xs u hc i x J,rfl⟩
theorem xV{h:Hp}{xs:List aG}{a:aiz}{l:Nat}(r:aX h xs a l){i:Nat}(hi:i<l):∃x ad,xs[i]? =some x/\a=some ad/\aq h (ad.add (ff i 2)) (Ib x):=by
 obtain⟨x,ad,vs,J,ha,u,e⟩:=r.get hi;rw[show vs=Ib x from e] at u;exact⟨x,ad,J,ha,u⟩
def dh(ss:List SQ)(i:Nat)(s:Int):Option Int:=match ss[i]? with
 |none=>none
 |some q=>(q.2.2.find? λe=>decide (e.sym=s)).map (·.to)
def ij(g:ah)(i:Nat)(es:List aH):List aG:=(es.filter λe=>decide ((g.T:Int)<=e.sym)).map λe=>⟨(i:Int),e.sym⟩
def yH(g:ah)(ss:List SQ):Nat->List aG
 |0=>[]
 |i+1=>yH g ss i++(match ss[i]? with|some q=>ij g i q.2.2|none=>[])
def bV(g:ah)(ss:List SQ):List aG:=yH g ss ss.length
def kH(g:ah)(ss:List SQ)(t:aG):List Int:=
 (if t=⟨0,g.start⟩ then[0] else[])++(match dh ss t.st.toNat t.sym with
  |none=>[]
  |some j=>(match ss[j.toNat]? with|none=>[]|some q=>(q.2.2.filter λe=>decide (e.sym<(g.T:Int))).map (·.sym)))
def dw(ss:List SQ):Int->List Int->Int
 |q,[]=>q
 |q,s::l=>match dh ss q.toNat s with
  |none=>-1
  |some j=>dw ss j l
section
variable{g:ah}{ss:List SQ}
theorem tP{i:Nat}{q:SQ}(hq:ss[i]? =some q):yH g ss (i+1)=yH g ss i++ij g i q.2.2:=by simp_all[yH,ij]
theorem K3{i:Nat}{es:List aH}{e:aH}:ij g i (es++[e])=if(g.T:Int)<=e.sym then ij g i es++[⟨(i:Int),e.sym⟩] else ij g i es:=by grind[ij]
theorem tQ{i:Nat}{q:SQ}(hq:ss[i]? =some q)(s:Int):dh ss i s=(q.2.2.find? λe=>decide (e.sym=s)).map (·.to):=by simp_all[dh]
theorem Ic(h:bC g ss){i:Nat}{q:SQ}(hq:ss[i]? =some q):q.2.2.map (·.sym)=(dg g q.1.2).map Int.ofNat:=by
 obtain⟨J,u,_⟩:=ig h hq
 have key:∀(l:List Nat)(st:List dK)(es:List aH),(ql g q.1.2 l (st,es)).2.map (·.sym)=es.map (·.sym)++l.map Int.ofNat:=by
  intro l
  induction l with
  |nil=>simp[ql]
  |cons a l ih=>
   simp_all[ql]
 simp_all
theorem Th:∀{es:List aH}{k:Nat}{e:aH},(es.map (·.sym)).Nodup->es[k]? =some e->(es.find? λx=>decide (x.sym=e.sym))=some e
 |[],k,e,_,h=>by grind
 |x::es,0,e,_,h=>by simp_all
 |x::es,k+1,e,hn,h=>by
  rw[ahw,ahE] at hn
  have h:es[k]? =some e:=by simp_all
  have hne:x.sym≠e.sym:=λe2=>hn.1 (by grind)
  rw[List.find?_cons,ahf hne]
  exact Th hn.2 h
theorem Ep(h:bC g ss){i:Nat}{q:SQ}(hq:ss[i]? =some q):(q.2.2.map (·.sym)).Nodup:=by
 rw[Ic h hq,ahF,ahD];exact(A8 g q.1.2).imp λh e=>by grind
theorem xW(h:bC g ss){i:Nat}{q:SQ}(hq:ss[i]? =some q){k:Nat}{e:aH}(he:q.2.2[k]? =some e):dh ss i e.sym=some e.to:=by grind[tQ,Th,Ep]
theorem lB{i:Nat}{s:Int}{j:Int}(h:dh ss i s=some j):∃(q:SQ)(k:Nat)(e:aH),ss[i]? =some q/\q.2.2[k]? =some e/\e.sym=s/\e.to=j:=by
 unfold dh at h;cases hq:ss[i]? with
 |none=>simp_all
 |some q=>
  rw[hq] at h;simp only[aih] at h;obtain⟨e,u,rfl⟩:=h;obtain⟨k,J⟩:=ahb (List.mem_of_find?_eq_some u)
  grind
end
section
variable{a b c d:aiz}{i j k l m n o p:Nat}{A:Int}{w:aiA}{R:Value->WP}
theorem bm(h:lU a i j none (some (i:Int)) (some (i:Int)) 1 λ(a:aiz)(b c:Nat)=>R (vS a b c) w):ρ 132 [vS a i j] w R:=rv Tryz.func132 h
theorem j8(h:lU a i j none (some (i:Int)) (some (i:Int)) 3 λ(a:aiz)(b c:Nat)=>R (vS a b c) w):ρ 198 [vS a i j] w R:=rv Tryz.func198 h
theorem ik(h:lU a i j none (some (i:Int)) (some (i:Int)) 1 λ(a:aiz)(b c:Nat)=>R (vS a b c) w):ρ 252 [vS a i j] w R:=rv Tryz.func252 h
abbrev pP:FuncId:=284
theorem Es(h:new w (ψ a i j b k l c m n A d o p) λa b=>χ b (aM a) λc=>rE 338 [c] b λb c=>∃d e,b=vU [vP d,iI e]/\br (e !=0) (R (vU [zS,iI e]) c) (rEs 339 [vP d] c λe f g c=>τ [(6,kT),(23,aN)] λb g=>b none 0 0 0 c/\∀(_:ν) c h i j k,b c h i j k->bQ (j<(f:Int)) (idx e f j 2 λe=>∃f l,rA k e 2 [iI f,iI l]/\new k (oC [iI 0,iI 0] 297) λe m=>bA m (aM e) [iI f,iI l] λf=>∃(l:lP [(9,kT)]),(∃b c,rA f (aM e) 2 [iI b,iI c]/\cLi f (Addr.add (aM a) 3) λd=>∃a,Sem.run Tryz.prog (q9 BinOp.eql 297 (Operand.tmp 27) (Operand.tmp 30) (vG [iI b,iI c]) (vG [iI 0,iI d])) f=Result.ok a f/\∃b,a=vB b/\br b (new f (oC [iI 0] 3) λa b=>rS (fW1 24 [zS,vS (some (aM a)) 1 1]) b λa b=>∃c d e,a=vS c d e/\l c d e b) (l none 0 0 f))/\∀(_:ν) f m n o,l f m n o->dW1 o λl o=>nn d λp=>dLs o (p.add 5) λq r s=>nn d λd=>∃p,(∀a,o a->cL a (d.add 8) (Value.map p))/\∃d s,(∀a,o a->rA a (aM e) 2 [iI d,iI s])/\aY Tryz.prog (Instr.lookup 347 (Value.map p) (vG [iI d,iI s]) false) l λd e=>∃l,d=iI l/\∃(d:WP),d e/\(∀a,d a->o a)/\idx q r l 2 λl=>dLs d (l.add 1) λo p q=>τ [(9,kT),(50,aN)] λd l=>d f m n 0 e/\∀(_:ν) e f m n q,d e f m n q->bQ (n<(p:Int)) (idx o p n 2 λb=>∃c g,rA q b 2 [iI c,iI g]/\new q (oC [iI 0,iI 0] 203) λb h=>bA h (aM b) [iI c,iI g] λc=>cLi c (aM b) λg=>cLs c (aM a) λh i j=>bQ (g<(i:Int)) (cLi c (aM b) λa=>new c (oC [iI a] 3) λa b=>rS (fW1 24 [vS e f m,vS (some (aM a)) 1 1]) b λa b=>∃c g h,a=vS c g h/\aA (n+1)/\nD1 d l c g h (n+1) b e f m n q) (aA (n+1)/\nD1 d l e f m (n+1) c e f m n q)) (rEs 132 [vS e f m] q λe f l d=>new d (oC [vS e f l] 24) λa d=>rS (fW1 71 [vS c h i,vS (some (aM a)) 1 1]) d λa d=>∃e f l,a=vS e f l/\aA (j+1)/\nD1 b g e f l (j+1) d c h i j k)) (rEs 252 [vS c h i] k λc d e b=>R (vU [vS c d e,iI 0]) b))):ρ 284 [φ a i j b k l c m n A d o p] w R:=rv Tryz.func284 h ⟨[(6,[(6,kT),(23,aN)]),(12,[(9,kT),(50,aN)])],[(11,[(9,kT)])],[],[]⟩
theorem If(h:new w (ψ a i j b k l c m n A d o p) λa b=>χ b (aM a) λa=>rE 338 [a] b λa b=>∃c d,a=vU [vP c,iI d]/\br (d !=0) (R (vU [zS,iI d]) b) (rEs 339 [vP c] b λc d e b=>R (vU [vS c d e,iI 0]) b)):ρ 289 [φ a i j b k l c m n A d o p] w R:=rv Tryz.func289 h
theorem MO(h:new w (ψ a i j b k l c m n A d o p) λa b=>χ b (aM a) λc=>rE 41 [c] b λb c=>∃d e f g h i,b=vU [vG [vS d e f,iI g,iI h],iI i]/\new c (oC [zS,iI 0,iI 0] 76) λb c=>bA c (aM b) [vS d e f,iI g,iI h] λc=>br (i !=0) (R (vU [vP none,iI i]) c) (∃d e f g h i j k l m n o p,rA c (aM a) 5 [vS d e f,vS g h i,vS j k l,iI m,vS n o p]/\∃a q r s t,rA c (aM b) 3 [vS a q r,iI s,iI t]/\new c (Obj.map (Array.mk []) 0) λc u=>new u (oC [vS d e f,vS g h i,vS j k l,iI m,vS n o p,vS a q r,iI s,iI t,Value.map (some c)] 483) λa c=>cLs c (aM b) λd e f=>τ [(27,aN)] λb f=>b 0 c/\∀(_:ν) c g,b c g->bQ (c<(e:Int)) (idx d e c 2 λd=>∃e h i j k l,rA g d 2 [vS e h i,vS j k l]/\new g (oC [zS,zS] 199) λd m=>bA m (aM d) [vS e h i,vS j k l] λe=>cLs e (Addr.add (aM d) 1) λh i j=>τ [(35,aN)] λd j=>d 0 e/\∀(_:ν) e k,d e k->bQ (e<(i:Int)) (idx h i e 2 λb=>∃f g,rA k b 2 [iI f,iI g]/\new k (oC [iI 0,iI 0] 203) λb h=>bA h (aM b) [iI f,iI g] λf=>dW1 f λg f=>∃h,(∀b,f b->cL b (Addr.add (aM a) 8) (Value.map h))/\dLi f (aM b) λa=>dLi f (Addr.add (aM b) 1) λi=>aY Tryz.prog (Instr.mapUpdate 347 (Value.map h) (vG [iI c,iI a]) (iI i)) g λ(_:Unit)(a:aiA)=>aA (e+1)/\nA d j (e+1) a e k) (aA (c+1)/\nA b f (c+1) k c g)) (R (vU [vP (some (aM a)),iI 0]) g))):ρ 338 [φ a i j b k l c m n A d o p] w R:=rv Tryz.func338 h ⟨[(6,[(27,aN)]),(9,[(35,aN)])],[],[],[]⟩
theorem zx(h:nn a λb=>cLs w (b.add 5) λc d e=>τ [(3,kT),(14,aN)] λb e=>b none 0 0 0 w/\∀(_:ν) f g h i j,b f g h i j->bQ (i<(d:Int)) (idx c d i 2 λc=>∃d k l m n o,rA j c 2 [vS d k l,vS m n o]/\new j (oC [zS,zS] 199) λc p=>bA p (aM c) [vS d k l,vS m n o] λd=>cLs d (Addr.add (aM c) 1) λk l m=>τ [(3,kT),(22,aN)] λc m=>c f g h 0 d/\∀(_:ν) d n o p q,c d n o p q->bQ (p<(l:Int)) (idx k l p 2 λb=>∃e f,rA q b 2 [iI e,iI f]/\new q (oC [iI 0,iI 0] 203) λb g=>bA g (aM b) [iI e,iI f] λe=>dW1 e λf e=>dLi e (aM b) λg=>nn a λa=>dLs e a λh j k=>bQ ((j:Int)<=g) (cLi f (aM b) λa=>new f (oC [iI i,iI a] 297) λa b=>rS (fW1 77 [vS d n o,vS (some (aM a)) 1 1]) b λa b=>∃e f g,a=vS e f g/\aA (p+1)/\nD1 c m e f g (p+1) b d n o p q) (aA (p+1)/\nD1 c m d n o (p+1) f d n o p q)) (aA (i+1)/\nD1 b e d n o (i+1) q f g h i j)) (rEs 376 [vS f g h] j λc d e b=>R (vS c d e) b)):ρ 339 [.pointer a] w R:=rv Tryz.func339 h ⟨[(3,[(3,kT),(14,aN)]),(6,[(3,kT),(22,aN)])],[],[],[]⟩
theorem iZ(h:lU a i j none (some (i:Int)) (some (i:Int)) 2 λ(a:aiz)(b c:Nat)=>R (vS a b c) w):ρ 376 [vS a i j] w R:=rv Tryz.func376 h
theorem oJ(h:bQ ((i:Int)<2) (R (vS a i j) w) (τ [(3,aN)] λb c=>b 1 w/\∀(_:ν) d e,b d e->bQ (d<(i:Int)) (dW1 e λf g=>idx a i d 1 λh=>dLi g h λk=>aA (d-1)/\idx a i (d-1) 1 λh=>dLi g h λl=>br (k==l) (lU a i j (some d) none none 1 λ(b:aiz)(c _:Nat)=>τ [(3,aN),(5,aN)] λe g=>e d 1 f/\∀(_:ν) d f h,e d f h->bQ (f<(c:Int)) (dW1 h λj k=>idx b c f 1 λl=>dLi k l λm=>aA (f-1)/\idx b c (f-1) 1 λl=>dLi k l λn=>br (m !=n) (idx b c f 1 λb=>∃c,World.cell? j b=some (iI c)/\idx a i d 1 λa=>st1 j a (iI c) λa=>aA (d+1)/\aA (f+1)/\nB e g (d+1) (f+1) a d f h) (aA (f+1)/\nB e g d (f+1) j d f h)) (lU a i j (some d) none none 1 λ(b:aiz)(c e:Nat)=>rS (Builtin.clear_ (Array.mk [24]) 0 (Array.mk [vS b c e])) h λ_ b=>lU a i j none (some d) none 1 λ(a:aiz)(c d:Nat)=>R (vS a c d) b)) (aA (d+1)/\nA b c (d+1) f d e)) (R (vS a i j) e))):ρ 378 [vS a i j] w R:=rv Tryz.func378 h ⟨[(4,[(3,aN)]),(9,[(3,aN),(5,aN)])],[],[],[]⟩
end
def Et(ss:List SQ)(m:List (aG×Value))(i:Nat)(es:List aH):Prop:=∀k:aG,assoc k m=
 if k.st<0 then none else if k.st.toNat<i then(dh ss k.st.toNat k.sym).map (Value.int .i64) else if k.st.toNat=i then(es.find? λe=>decide (e.sym=k.sym)).map (λe=>iI e.to) else none
section
variable{ss:List SQ}{m:List (aG×Value)}{i:Nat}
theorem Et.start:Et ss [] 0 []:=λk=>by simp[assoc]
theorem K4{es:List aH}{e:aH}(hn:e.sym∉es.map (·.sym))(s:Int):((es++[e]).find? λx=>decide (x.sym=s))=if s=e.sym then some e else es.find? λx=>decide (x.sym=s):=by grind
theorem Et.step{es:List aH}(h:Et ss m i es){e:aH}(hn:e.sym∉es.map (·.sym)):Et ss (cV ⟨(i:Int),e.sym⟩ (iI e.to) m) i (es++[e]):=λk=>by
 rw[ft,h k,K4 hn]
 by_cases u:k=⟨(i:Int),e.sym⟩
 ·simp_all
 ·rw[agW u]
  split
  ·rfl
  ·split
   ·rfl
   ·split
    ·have:k.sym≠e.sym:=λh=>u (by cases k;grind)
     simp_all
    rfl
theorem Et.next{q:SQ}(hq:ss[i]? =some q)(h:Et ss m i q.2.2):Et ss m (i+1) []:=λk=>by
 rw[h k]
 split
 ·rfl
 ·by_cases J:k.st.toNat<i
  ·grind
  ·rw[agW J]
   by_cases u:k.st.toNat=i
   ·rw[ag0 u,ag0 ω,u,tQ hq,Option.map_map];rfl
   grind
theorem Et.all(h:Et ss m ss.length []){k:aG}(hk:0<=k.st):assoc k m=(dh ss k.st.toNat k.sym).map (Value.int .i64):=by
 rw[h k,agW ω]
 simp_all[dh]
end
abbrev wyC(x:GA)(o:aiz)(n c:Nat)(a int:Int)(kb:Nat):List Value:=x.cells++[vS o n c,iI a,iI int,.map (some kb)]
structure WyR(h:Hp)(g:ah)(ss:List SQ)(k:Nat):Prop where
 ex:∃(x:GA)(o:aiz)(c kb:Nat)(a int:Int)(m:List (aG×Value)),aq h (aM k) (wyC x o ss.length c a int kb)/\gR h g x/\O_ h ss o/\mapA kb m h/\Et ss m ss.length []
theorem WyR.mono{h h':Hp}{g:ah}{ss:List SQ}{k:Nat}(s:sub h h')(r:WyR h g ss k):WyR h' g ss k:=by
 obtain⟨x,o,c,V,a,int,m,U,W,u,J,O⟩:=r.ex;exact⟨x,o,c,V,a,int,m,U.mono s,W.mono s,u.mono s,fB s J,O⟩
section
variable{w:aiA}{L:List aE}{g:ah}{x:GA}
theorem K5:Two Tryz.prog oz dX { name:="State",type:=dX,offset:=0,embedded:=false,tag:="",pkgPath:="",byteOffset:=0 } { name:="Sym",type:=dX,offset:=1,embedded:=false,tag:="",pkgPath:="",byteOffset:=8 } where
 ht:=by rfl
 hf:=by rfl
 hi:=bL
 ht0:=rfl
 ht1:=rfl
 n0:=σ
 n1:=σ
 o0:=rfl
 o1:=rfl
 sih:=JN
theorem gC:wU Tryz.prog oz aG:=wU.two K5
theorem XR(hg:gR (hp w) g x)(hb:lq g):ρ 338 [.agg ⟨x.cells⟩] w λv w'=>∃(ss:List SQ)(ask int f:Int)(p:aiz),v=.tuple #[.pointer p,iI f]/\Fh g ss ask int f/\Gr w w'/\(f=0->∃k,p=some (aM k)/\WyR (hp w') g ss k)/\(f≠0->p=none):=by
 refine MO (gi hg λk1 w1 gw hg B=>?_);refine⟨_,_,_,_,_,_,_,_,_,_,_,_,_,B.row sZZ,(xU hg hb).mono ?_⟩;rintro _ w2⟨o,c,ss,ask,int,f,rfl,hR,h⟩;have V:Gr w1 w2:=aC 3 h.l;have hg:=hg.mono V;have hs:=GF h.l
 refine⟨_,_,_,_,_,_,rfl,ag (St.all w2) λa8 w3 h=>aL h rfl (by simp[aK]) λY h=>ae (λJ=>?_) λJ=>?_⟩
 ·have J:f≠0:=by simp_all
  exact⟨ss,ask,int,f,none,rfl,hR,gw.trans (V.trans h.aP),λh=>absurd h J,λ_=>rfl⟩
 have J:f=0:=by simp_all
 subst J
 obtain⟨hc,hA⟩:aw g/\bC g ss:=by
  rcases hR with⟨_,_,_,_,e⟩|⟨_,_,_,_,_,e⟩|⟨hc,hA,_⟩
  ·omega
  ·omega
  simp_all
 have aa:=hA.J9 hc;have b1:=hA.dn.2.1;have U:Gr w2 Y:=h.aP;have hg:=hg.mono U;have hs:=hs.mono U;have a4:aq (hp Y) (aM a8) [vS o ss.length c,iI ask,iI int]:=af 0 h.l;clear h;refine⟨_,_,_,_,_,_,_,_,_,_,_,_,_,B.row (V.trans U),_,_,_,_,_,a4.at sZZ rfl,nS (St.all Y) λZ w5 h=>?_⟩;have h:=dW (κ:=aG) h;refine ag (vs:=wyC x o ss.length c ask int Z) h λkm w6 h=>?_
 refine⟨_,_,_,a4.cell0 (aC 2 h.l),λz w'=>∃(i:Nat)(m:List (aG×Value)),z=i/\i<=ss.length/\Et ss m i []/\St w' (az km (wyC x o ss.length c ask int Z)::mapA Z m::all Y),λz _=>ss.length-z.toNat,
  ⟨0,[],rfl,agP _,.start,h⟩,?_⟩
 clear h;rintro _ _ w7⟨i,m,rfl,hi,O,h⟩;have s7:sub (hp Y) (hp w7):=aC 2 h.l;refine ae (λJ=>?_) λJ=>?_
 rotate_left
 ·have J:i=ss.length:=by grind
  subst J;obtain⟨hm,sm,av⟩:=Az 1 h.l;exact⟨ss,ask,int,0,some (aM km),rfl,hR,gw.trans (V.trans (U.trans s7)),λ_=>⟨km,rfl,x,o,c,Z,ask,int,m,af 0 h.l,hg.mono s7,hs.mono s7,fB sm av,O⟩,λh=>absurd rfl h⟩
 have J:i<ss.length:=by simp_all
 obtain⟨q,hq⟩:∃q,ss[i]? =some q:=⟨_,agM J⟩;obtain⟨ad,rfl,rs,_,re⟩:=hs i q hq;have b2:=(aa q (agL hq)).2;have b6:=Ep hA hq;refine aO rfl J ⟨_,_,_,_,_,_,rs.at s7 rfl,ag h λa7 w8 h=>aL h rfl (by simp[aK]) λw9 h=>?_⟩;have al:aq (hp w9) (aM a7) (U5 q):=af 0 h.l
 refine⟨_,_,_,al.cell sZZ (j:=1) rfl,λz w'=>∃(k:Nat)(m:List (aG×Value)),z=k/\k<=q.2.2.length/\Et ss m i (q.2.2.take k)/\St w' (az km (wyC x (some ad) ss.length c ask int Z)::mapA Z m::all Y),λz _=>q.2.2.length-z.toNat,
  ⟨0,m,rfl,agP _,O,h.pick 3 [1,2]⟩,?_⟩
 clear h O;rintro _ _ a9⟨k,m,rfl,hk,O,h⟩;have am:sub (hp Y) (hp a9):=aC 2 h.l;refine ae (λW=>?_) λW=>?_
 rotate_left
 ·have W:k=q.2.2.length:=by grind
  subst W;rw[ag9] at O;exact⟨ξ,⟨i+1,m,σ,J,O.next hq,h⟩,bR J⟩
 have W:k<q.2.2.length:=by simp_all
 obtain⟨e,b3,he,a6,red⟩:=pM re W;refine aO a6 W ⟨_,_,red.at am rfl,ag h λa5 b7 h=>aL h rfl (by simp[aK]) λb5 h=>?_⟩;intro X hd;have h:=h.eq (aQ hd);have a0:aq (hp X) (aM a5) [iI e.sym,iI e.to]:=af 0 h.l;have rm:aq (hp X) (aM km) (wyC x (some ad) ss.length c ask int Z):=af 1 h.l;refine⟨λu=>Gr X u,Gr.refl _,_,λu s=>rm.cell s (j:=8) rfl,_,λu s=>a0.cell0 s,_,λu s=>a0.cell s (j:=1) rfl,(qO (κ:=aG) aT (rfl:ai Ty _=.map _ _) gC (h.pick 3 [2,0,1]) ⟨(i:Int),e.sym⟩ _).mono ?_⟩;rintro _ b4 h;have ht:q.2.2.take (k+1)=q.2.2.take k++[e]:=by simp_all[agR]
 have hn:e.sym∉(q.2.2.take k).map (·.sym):=λhm=>by
  have e1:q.2.2.map (·.sym)=(q.2.2.take k).map (·.sym)++e.sym::(q.2.2.drop (k+1)).map (·.sym):=by
   rw[<-ahw,<-ag7]
   grind[List.take_append_drop]
  grind
 have O:=O.step hn;rw[<-ht] at O;exact⟨ξ,⟨k+1,_,σ,W,O,h.pick 3 [2,0]⟩,bR W⟩
end
section
variable{g:ah}{ss:List SQ}
theorem Pb(g:ah)(i:Nat)(es:List aH):(ij g i es).length<=es.length:=by simp[ij,ahs]
theorem Cz(hk:∀q∈ss,q.2.2.length<=130):∀i,(yH g ss i).length<=i*130
 |0=>by simp[yH]
 |i+1=>by
  have:=Cz hk i
  grind[yH,tP,List.length_append,Pb,List.mem_of_getElem?]
theorem Fh.Qs{a i f:Int}(h:Fh g ss a i f)(hf:f=0):aw g/\bC g ss:=by
 subst hf
 rcases h with⟨_,_,_,_,e⟩|⟨_,_,_,_,_,e⟩|⟨hc,hA,_⟩
 ·omega
 ·omega
 simp_all
def CA(ss:List SQ)(i:Nat)(s:Int):Int:=(dh ss i s).getD (-1)
end
section
variable{w:aiA}{L:List aE}{g:ah}{x:GA}{ss:List SQ}
theorem Pc{k:Nat}(hw:WyR (hp w) g ss k)(hn:ss.length<=256)(hk:∀q∈ss,q.2.2.length<=130):ρ 339 [vP (some (aM k))] w λv w'=>∃(o:aiz)(c:Nat),v=.slice o (bV g ss).length c/\St w' (own 2 o (bV g ss).length c (K2 (bV g ss))::all w):=by
 obtain⟨x,oa,ca,kb,a,int,m,rk,hg,hs,hm,hW⟩:=hw.ex;have a5:g.T=x.tl:=hg.t.1
 refine zx ⟨_,_,_,rk.cell sZZ (j:=5) rfl,λo n c z w'=>∃i:Nat,z=i/\i<=ss.length/\n=(yH g ss i).length/\St w' (own 2 o n c (K2 (yH g ss i))::all w),λ_ _ _ z _=>ss.length-z.toNat,
  ⟨0,rfl,agP _,rfl,aI 2 (St.all w)⟩,?_⟩
 rintro _ o2 _ c2 _ w1⟨i,rfl,hi,rfl,h⟩;have s1:sub (hp w) (hp w1):=aC 1 h.l;refine ae (λO=>?_) λO=>?_
 rotate_left
 ·have O:i=ss.length:=by grind
  subst O;refine iZ (bS (bD h) ⟨_,_,_,rfl,_,_,rfl,cq h⟩)
 have O:i<ss.length:=by simp_all
 obtain⟨q,hq⟩:∃q,ss[i]? =some q:=⟨_,agM O⟩;obtain⟨ad,rfl,rs,_,re⟩:=hs i q hq;have a4:=hk q (agL hq);have a6:=Cz (g:=g) hk i;refine aO rfl O ⟨_,_,_,_,_,_,rs.at s1 rfl,ag h λk9 w2 h=>aL h rfl (by simp[aK]) λw3 h=>?_⟩;have r9:aq (hp w3) (aM k9) (U5 q):=af 0 h.l
 refine⟨_,_,_,r9.cell sZZ (j:=1) rfl,λo n c z w'=>∃(j:Nat),z=j/\j<=q.2.2.length/\n=(yH g ss i++ij g i (q.2.2.take j)).length/\St w' (own 2 o n c (K2 (yH g ss i++ij g i (q.2.2.take j)))::all w),λ_ _ _ z _=>q.2.2.length-z.toNat,
  ⟨0,rfl,agP _,by simp[ij],by simpa[ij] using(show St w3 (own 2 o2 (yH g ss i).length c2 (K2 (yH g ss i))::all w) from h.pick 2 [1])⟩,?_⟩
 clear h;rintro _ o6 _ c6 _ w4⟨j,rfl,hj,rfl,h⟩;have s4:sub (hp w) (hp w4):=aC 1 h.l;have Y:=Pb g i (q.2.2.take j);rw[ahl] at Y;refine ae (λJ=>?_) λJ=>?_
 rotate_left
 ·have J:j=q.2.2.length:=by grind
  subst J;rw[ag9] at h ⊢;exact⟨ξ,⟨i+1,σ,O,by rw[tP hq],by simp_all[tP]⟩,bR O⟩
 have J:j<q.2.2.length:=by simp_all
 obtain⟨e,a7,he,Z,red⟩:=pM re J;have ht:q.2.2.take (j+1)=q.2.2.take j++[e]:=by simp_all[agR]
 refine aO Z J ⟨_,_,red.at s4 rfl,ag h λW w5 h=>aL h rfl (by simp[aK]) λw6 h=>?_⟩;intro X hd;have h:=h.eq (aQ hd);have V:aq (hp X) (aM W) [iI e.sym,iI e.to]:=af 0 h.l;have s7:sub (hp w) (hp X):=aC 2 h.l
 refine⟨λu=>Gr X u,Gr.refl _,_,λu s=>V.cell0 s,_,_,_,λu s=>rk.cell0 (sub.trans s7 s),ae (λU=>?_) λU=>?_⟩
 ·have U:(g.T:Int)<=e.sym:=by simp_all
  have z1:((yH g ss i++ij g i (q.2.2.take j)).length+1)*16<=140737488355328/\(yH g ss i++ij g i (q.2.2.take j)).length<9223372036854775807:=by grind
  refine⟨_,V.cell0 sZZ,ag h λa9 a8 h=>?_⟩;refine(aS (us:=K2 (yH g ss i++ij g i (q.2.2.take j))) aT (rfl:ai Ty _=.slice _) (rfl:ai Ty _=.slice _) rfl rfl rfl (h.pick 3 [0,2]) rfl (by simp[aK]) z1.1 z1.2).mono ?_;rintro _ a0⟨o8,c8,rfl,h⟩;have e2:ij g i (q.2.2.take (j+1))=ij g i (q.2.2.take j)++[⟨(i:Int),e.sym⟩]:=by rw[ht,K3,ag0 U]
  have e3:K2 (yH g ss i++ij g i (q.2.2.take (j+1)))=K2 (yH g ss i++ij g i (q.2.2.take j))++[iI (i:Int),iI e.sym]:=by rw[e2,<-ag3,aa2];rfl
  refine⟨_,_,_,rfl,ξ,⟨j+1,σ,J,by grind,?_⟩,bR J⟩;rw[e3];exact h.pick 2 [0]
 ·have U:¬(g.T:Int)<=e.sym:=by simp_all
  have e2:ij g i (q.2.2.take (j+1))=ij g i (q.2.2.take j):=by rw[ht,K3,agW U]
  exact⟨ξ,⟨j+1,σ,J,by grind,by rw[e2];exact h.pick 2 [1]⟩,bR J⟩
theorem XS(hg:gR (hp w) g x)(hb:lq g):ρ 289 [.agg ⟨x.cells⟩] w λv w'=>∃(ss:List SQ)(ask int f:Int)(o:aiz)(c:Nat),v=.tuple #[.slice o (bV g ss).length c,iI f]/\Fh g ss ask int f/\St w' (own 2 o (bV g ss).length c (K2 (bV g ss))::all w):=by
 refine If (gi hg λX Y gw hg B=>?_);refine⟨_,_,_,_,_,_,_,_,_,_,_,_,_,B.row sZZ,(XR hg hb).mono ?_⟩;rintro _ Z⟨ss,ask,int,f,p,rfl,J,g2,h0,hn⟩
 refine⟨_,_,rfl,ae (λu=>?_) λu=>?_⟩
 ·have u:f≠0:=by simp_all
  have W:ss=[]:=by rcases J with⟨_,e,_⟩|⟨_,_,e,_⟩|⟨_,_,_,_,e⟩<;>first|omega|omega
  subst W;exact⟨[],ask,int,f,none,0,rfl,J,aI 2 (St.here (gw.trans g2))⟩
 have u:f=0:=by simp_all
 obtain⟨k,rfl,V⟩:=h0 u;obtain⟨hc,hA⟩:=J.Qs u;have O:=hA.J9 hc;refine(Pc V hA.dn.2.1 λq U=>(O q U).2).mono ?_;rintro _ w3⟨o,c,rfl,h⟩;subst u;exact⟨_,_,_,rfl,ss,ask,int,0,o,c,rfl,J,St.eM h (bF (gw.trans g2))⟩
end
theorem d_{g:ah}{ss:List SQ}(hc:aw g)(hA:bC g ss){i:Nat}{s j:Int}(h:dh ss i s=some j):0<=j/\j<ss.length:=by
 obtain⟨q,k,e,J,u,rfl,rfl⟩:=lB h;obtain⟨_,_,n,r,hn,U,O,_⟩:=dm hc hA J u
 grind
section
variable{g:ah}{ss:List SQ}
def Ga(g:ah)(es:List aH):List Int:=(es.filter λe=>decide (e.sym<(g.T:Int))).map (·.sym)
theorem Pe{es:List aH}{e:aH}:Ga g (es++[e])=if e.sym<(g.T:Int) then Ga g es++[e.sym] else Ga g es:=by grind[Ga]
theorem aa3(g:ah)(es:List aH):(Ga g es).length<=es.length:=by simp[Ga,ahs]
def oK(g:ah)(t:aG):List Int:=if t=⟨0,g.start⟩ then[0] else[]
theorem XT(g:ah)(t:aG):(oK g t).length<=1:=by grind[oK]
theorem lD{t:aG}:∀{n:Nat},t∈yH g ss n->∃(i:Nat)(q:SQ)(k:Nat)(e:aH),i<n/\ss[i]? =some q/\q.2.2[k]? =some e/\(g.T:Int)<=e.sym/\t=⟨(i:Int),e.sym⟩
 |0,h=>by grind[yH]
 |n+1,h=>by
  cases hq:ss[n]? with
  |none=>
   simp[yH,hq] at h
   obtain⟨i,q,k,e,h1,h2⟩:=lD h
   grind
  |some q=>
   rw[tP hq,agX] at h
   rcases h with h|h
   ·obtain⟨i,q,k,e,h1,h2⟩:=lD h
    grind
   ·unfold ij at h
    obtain⟨e,he,rfl⟩:=agY.1 h
    obtain⟨h1,h2⟩:=ahi.1 he
    obtain⟨k,hk⟩:=ahb h1
    grind
theorem Ig{t:aG}{j:Nat}{q:SQ}(h:dh ss t.st.toNat t.sym=some (j:Int))(hq:ss[j]? =some q):kH g ss t=oK g t++Ga g q.2.2:=by
 unfold kH;rw[h]
 show _++(match ss[(j:Int).toNat]? with|none=>[]|some q=>_)=_
 rw[agZ,hq];rfl
end
section
variable{w:aiA}{L:List aE}{g:ah}{x:GA}{ss:List SQ}
theorem aa4(w:aiA)(xo yo:Operand)(x y:aG):Sem.run Tryz.prog (q9 .eql oz xo yo (.agg ⟨Ib x⟩) (.agg ⟨Ib y⟩)) w=.ok (vB (decide (x=y))) w:=by
 unfold q9;rw[Sem.run_bind,run_eqGuard_agg w _ _ _ _ _ _ JM];simp only[Result.andThen_ok];rw[run_eql_struct]
 have e:decide (x=y)=decide (x.st=y.st/\x.sym=y.sym):=by
  cases x;cases y;simp
 rw[e]
 show((Op.equal oz (.agg #[iI x.st,iI x.sym]) (.agg #[iI y.st,iI y.sym])).run Tryz.prog w).andThen _=_
 rw[XQ K5];rfl
theorem Rt(hg:gR (hp w) g x)(hb:lq g):ρ pP [.agg ⟨x.cells⟩] w λv w'=>∃(ss:List SQ)(ask int f:Int)(o:aiz)(c:Nat)(ds:List (Lq Int)),v=.tuple #[vS o ds.length c,iI f]/\Fh g ss ask int f/\ds.map (·.2)=(bV g ss).map (kH g ss)/\St w' (own 1 o ds.length c (ds.map bX)::aV (ds.map (bI 1 iv))::all w):=by
 refine Es (gi hg λk1 w1 gw hg B=>?_);refine⟨_,_,_,_,_,_,_,_,_,_,_,_,_,B.row sZZ,(XR hg hb).mono ?_⟩;rintro _ w2⟨ss,ask,int,f,p,rfl,hR,g2,h0,hn⟩
 refine⟨_,_,rfl,ae (λU=>?_) λU=>?_⟩
 ·have U:f≠0:=by simp_all
  have hz:ss=[]:=by rcases hR with⟨_,e,_⟩|⟨_,_,e,_⟩|⟨_,_,_,_,e⟩<;>first|omega|omega
  subst hz;exact⟨[],ask,int,f,none,0,[],rfl,hR,rfl,aI 1 ((St.flat (M:=[])).2 (St.here (gw.trans g2)))⟩
 have U:f=0:=by simp_all
 subst U;obtain⟨k,rfl,hw⟩:=h0 rfl;obtain⟨hc,hA⟩:=hR.Qs rfl;have a0:=hA.J9 hc;have a8:=hA.dn.2.1;have bb:=Cz (g:=g) (λq hq=>(a0 q hq).2) ss.length;refine(Pc hw a8 λq hq=>(a0 q hq).2).mono ?_;rintro _ J⟨oL,cL,rfl,h⟩;have g3:Gr w2 J:=aC 1 h.l;have rL:aX (hp J) (bV g ss) oL (bV g ss).length:=GG rfl (dN 0 h.l);clear h;obtain⟨x',oa,ca,kb,a',bi,m,rk,d7,hs,hm,hW⟩:=(hw.mono g3).ex;have a5:Gr w1 J:=g2.trans g3;have cW:g.T=x.tl:=hg.t.1;have cF:x.s=g.start:=hg.s
 refine⟨_,_,_,rfl,λo n c z w'=>∃(i:Nat)(ds:List (Lq Int)),z=i/\i<=(bV g ss).length/\n=ds.length/\ds.map (·.2)=((bV g ss).take i).map (kH g ss)/\St w' (own 1 o n c (ds.map bX)::aV (ds.map (bI 1 iv))::all J),λ_ _ _ z _=>(bV g ss).length-z.toNat,
  ⟨0,[],rfl,agP _,rfl,rfl,aI 1 ((St.flat (M:=[])).2 (St.all J))⟩,?_⟩
 rintro _ o7 _ c7 _ w4⟨i,ds,rfl,hi,rfl,a6,h⟩;have s4:sub (hp J) (hp w4):=aC 2 h.l;have cd:ds.length=i:=by have:=congrArg List.length a6;grind
 have cN:(bV g ss).length<=ss.length*130:=bb;refine ae (λU=>?_) λU=>?_
 rotate_left
 ·have U:i=(bV g ss).length:=by grind
  rw[U,ag9] at a6;refine ik (bS (bD h) ⟨_,_,_,rfl,ss,ask,int,0,_,_,ds,rfl,hR,a6,?_⟩);exact St.Oo (cq h) (bF (gw.trans a5))
 have U:i<(bV g ss).length:=by simp_all
 obtain⟨t,d0,ht,b2,rt⟩:=xV rL U;obtain⟨i0,q0,k0,e0,cT,d3,ck,bz,cI⟩:=lD (agL ht);have Z:dh ss t.st.toNat t.sym=some e0.to:=by grind[xW]
 obtain⟨bl,aa⟩:=d_ hc hA Z;obtain⟨j0,b3⟩:∃j0:Nat,e0.to=j0:=⟨e0.to.toNat,ω⟩;rw[b3] at Z aa;have ad:j0<ss.length:=ω
 obtain⟨r,hr⟩:∃r,ss[j0]? =some r:=⟨_,agM ad⟩;have al:kH g ss t=oK g t++Ga g r.2.2:=Ig Z hr;have bT:=(a0 r (agL hr)).2;have c5:=XT g t;have a7:0<=t.st:=by simp_all
 have bP:(bV g ss).take (i+1)=(bV g ss).take i++[t]:=by simp_all[agR]
 obtain⟨cg,rfl,rs,_,re⟩:=hs j0 r hr;refine aO b2 U ⟨_,_,rt.at s4 rfl,ag h λY w5 h=>aL h rfl (by simp[aK]) λw6 h=>?_⟩;have h:St w6 (az Y (Ib t)::own 1 o7 ds.length c7 (ds.map bX)::aV (ds.map (bI 1 iv))::all J):=h;have W:aq (hp w6) (aM Y) (Ib t):=af 0 h.l;have s6:sub (hp J) (hp w6):=aC 3 h.l
 refine⟨λo n c w'=>n=(oK g t).length/\St w' (own 1 o n c (iv (oK g t))::az Y (Ib t)::own 1 o7 ds.length c7 (ds.map bX)::aV (ds.map (bI 1 iv))::all J),⟨_,_,W.at sZZ rfl,_,B.c3 (sub.trans a5 s6),_,aa4 w6 _ _ t ⟨0,x.s⟩,_,rfl,ae (λO=>?_) λO=>?_⟩,?_⟩
 ·have O:t=⟨0,g.start⟩:=by simp_all
  have e:oK g t=[0]:=by simp_all[oK]
  refine ag h λcx w7 h=>?_;refine(aS (us:=[]) aT (rfl:ai Ty _=.slice _) (rfl:ai Ty _=.slice _) rfl rfl rfl ((aI 1 h).pick 5 [1,0,2,3,4]) rfl (by simp[aK]) σ σ).mono ?_;rintro _ w8⟨o8,c8,rfl,h⟩;rw[e];exact⟨_,_,_,rfl,rfl,h.pick 5 [0,2,3,4]⟩
 ·have O:¬t=⟨0,g.start⟩:=by simp_all
  have e:oK g t=[]:=by simp_all[oK,agW]
  rw[e];exact⟨rfl,aI 1 h⟩
 clear h W s6;rintro _ o9 _ c9 w9⟨rfl,h⟩;intro V hd;have h:=h.eq (aQ hd);have X:sub (hp J) (hp V):=aC 4 h.l;have W:aq (hp V) (aM Y) (Ib t):=af 1 h.l;refine⟨λu=>Gr V u,Gr.refl _,_,_,_,λu s=>rk.cell (sub.trans X s) (j:=5) rfl,_,λu s=>rk.cell (sub.trans X s) (j:=8) rfl,_,_,λu s=>W.at s rfl,(eW (κ:=aG) hm X aT (rfl:ai Ty _=.map _ _) gC rfl rfl t).mono ?_⟩;rintro _ cA⟨rfl,ba⟩;rw[ba];rw[hW.all a7,Z]
 refine⟨_,rfl,λu=>Gr V u,Gr.refl _,λ_ h=>h,aO rfl ad ⟨_,_,_,λu s=>rs.cell (sub.trans X s) (j:=1) rfl,λo n c z w'=>∃j:Nat,z=j/\j<=r.2.2.length/\n=(oK g t++Ga g (r.2.2.take j)).length/\
  St w' (own 1 o n c (iv (oK g t++Ga g (r.2.2.take j)))::own 1 o7 ds.length c7 (ds.map bX)::aV (ds.map (bI 1 iv))::all J),λ_ _ _ z _=>r.2.2.length-z.toNat,
  ⟨0,rfl,agP _,by simp[Ga],by simpa[Ga] using(show St V (own 1 o9 (oK g t).length c9 (iv (oK g t))::own 1 o7 ds.length c7 (ds.map bX)::aV (ds.map (bI 1 iv))::all J) from h.pick 4 [0,2,3])⟩,?_⟩⟩
 clear h W;rintro _ a4 _ cc _ be⟨j,rfl,hj,rfl,h⟩;have bc:sub (hp J) (hp be):=aC 3 h.l;have b4:=aa3 g (r.2.2.take j);rw[ahl] at b4
 refine ae (λO=>?_) λO=>?_
 ·have O:j<r.2.2.length:=by simp_all
  obtain⟨e,d4,he,av,red⟩:=pM re O;have d5:r.2.2.take (j+1)=r.2.2.take j++[e]:=by simp_all[agR]
  refine aO av O ⟨_,_,red.at bc rfl,ag h λk26 ci h=>aL h rfl (by simp[aK]) λam h=>?_⟩;have a9:aq (hp am) (aM k26) [iI e.sym,iI e.to]:=af 0 h.l;have b7:sub (hp J) (hp am):=aC 4 h.l
  refine⟨_,a9.cell0 sZZ,_,_,_,B.c0 (sub.trans a5 b7),ae (λh3=>?_) λh3=>?_⟩
  ·have h3:e.sym<(g.T:Int):=by simp_all
   have z1:((oK g t++Ga g (r.2.2.take j)).length+1)*8<=140737488355328/\(oK g t++Ga g (r.2.2.take j)).length<9223372036854775807:=by grind
   refine⟨_,a9.cell0 sZZ,ag h λc6 cC h=>?_⟩;refine(aS (us:=iv (oK g t++Ga g (r.2.2.take j))) aT (rfl:ai Ty _=.slice _) (rfl:ai Ty _=.slice _) rfl rfl rfl (h.pick 5 [0,2,3,4]) rfl (by simp[aK]) z1.1 z1.2).mono ?_;rintro _ d6⟨ch,cu,rfl,h⟩;have e2:oK g t++Ga g (r.2.2.take (j+1))=oK g t++Ga g (r.2.2.take j)++[e.sym]:=by simp_all[Pe]
   have e3:iv (oK g t++Ga g (r.2.2.take (j+1)))=iv (oK g t++Ga g (r.2.2.take j))++[iI e.sym]:=by simp_all[iv]
   refine⟨_,_,_,rfl,ξ,⟨j+1,σ,O,by grind,?_⟩,bR O⟩;rw[e3];exact h.pick 4 [0,2,3]
  ·have h3:¬e.sym<(g.T:Int):=by simp_all
   have e2:Ga g (r.2.2.take (j+1))=Ga g (r.2.2.take j):=by simp_all[Pe,agW]
   exact⟨ξ,⟨j+1,σ,O,by grind,by rw[e2];exact h.pick 4 [1,2,3]⟩,bR O⟩
 have O:j=r.2.2.length:=by grind
 rw[O,ag9,<-al] at h ⊢;refine bm (bS (bD h) ⟨_,_,_,rfl,?_⟩);have h:=cq h;refine ag h λcp cz h=>?_;have z1:(ds.length+1)*24<=140737488355328/\ds.length<9223372036854775807:=ω
 refine(aS (us:=ds.map bX) aT (rfl:ai Ty _=.slice _) (rfl:ai Ty _=.slice _) rfl rfl rfl (h.pick 4 [0,2,1,3]) rfl (by simp[aK]) z1.1 z1.2).mono ?_;rintro _ b1⟨b5,b6,rfl,h⟩;have h:=St.snoc (h.pick 4 [2,3,0]);refine⟨_,_,_,rfl,ξ,⟨i+1,ds++[((fK a4 0 (kH g ss t).length 1,(kH g ss t).length),kH g ss t)],σ,U,σ,by simp_all,?_⟩,bR U⟩;have h3:St b1 (own 1 b5 (ds.length+1) b6 (ds.map bX++[.slice (fK a4 0 (kH g ss t).length 1) (kH g ss t).length (kH g ss t).length])::aV (ds.map (bI 1 iv)++[own 1 (fK a4 0 (kH g ss t).length 1) (kH g ss t).length (kH g ss t).length (iv (kH g ss t))])::all J):=h.pick 2 [1,0]
 simp_all[bX,bI]
end
section
variable{g:ah}{ss ss':List SQ}
theorem XU(h:cD ss=cD ss')(i:Nat):(ss[i]?).map (λq=>q.2.2)=(ss'[i]?).map λq=>q.2.2:=by
 have:=congrArg (λl=>l[i]?) h
 grind[cD]
theorem Ih(h:cD ss=cD ss')(i:Nat)(s:Int):dh ss i s=dh ss' i s:=by grind[XU,dh]
theorem XV(h:cD ss=cD ss'):∀i,yH g ss i=yH g ss' i
 |0=>rfl
 |i+1=>by
  have:=XU h i
  show yH g ss i++_=yH g ss' i++_
  rw[XV h i]
  grind
theorem MP(h:cD ss=cD ss'):ss.length=ss'.length:=by have:=congrArg List.length h;grind[cD]
theorem xX(h:cD ss=cD ss'):bV g ss=bV g ss':=by grind[bV,MP,XV]
theorem XW(h:cD ss=cD ss')(t:aG):kH g ss t=kH g ss' t:=by grind[kH,Ih,dh,XU]
theorem MQ(h:cD ss=cD ss'):∀(l:List Int)(q:Int),dw ss q l=dw ss' q l
 |[],q=>rfl
 |s::l,q=>by
  unfold dw
  rw[Ih h]
  cases dh ss' q.toNat s with
  |none=>rfl
  |some j=>exact MQ h l j
end
section
variable{g:ah}{ss:List SQ}
theorem Ti:∀(n i:Nat),i<=n->∃t,yH g ss n=yH g ss i++t
 |0,i,h=>⟨[],by simp_all⟩
 |n+1,i,h=>by
  by_cases e:i=n+1
  ·simp_all
  ·obtain⟨t,ht⟩:=Ti n i ω
   exact⟨t++(match ss[n]? with|some q=>ij g n q.2.2|none=>[]),by rw[<-ag3,<-ht];rfl⟩
theorem XX(i:Nat)(a b:List aH):ij g i (a++b)=ij g i a++ij g i b:=by simp[ij]
theorem Ru{i:Nat}{q:SQ}(hq:ss[i]? =some q){j:Nat}{e:aH}(he:q.2.2[j]? =some e)(h:(g.T:Int)<=e.sym):(bV g ss)[(yH g ss i++ij g i (q.2.2.take j)).length]? =some ⟨(i:Int),e.sym⟩:=by
 have hi:=(agN.1 hq).1;obtain⟨t,ht⟩:=Ti (g:=g) (ss:=ss) ss.length (i+1) ω;have J:q.2.2=q.2.2.take j++e::q.2.2.drop (j+1):=by grind[List.getElem?_eq_some_iff,List.drop_eq_getElem_cons,List.take_append_drop]
 have u:ij g i q.2.2=ij g i (q.2.2.take j)++⟨(i:Int),e.sym⟩::ij g i (q.2.2.drop (j+1)):=by grind[XX,ij,List.filter_cons_of_pos]
 unfold bV;rw[ht,tP hq,u,<-ag3,ag3,ahg (agT _),ah2];rfl
end
section
variable{g:ah}{ss:List SQ}
theorem XY(W:Nat->Bool)(n:Nat):(List.range (n+1)).filter W=(List.range n).filter W++if W n=true then[n] else[]:=by grind[List.range_succ]
def wnt(g:ah)(ss:List SQ)(t:aG)(j n:Nat):Bool:=if n=0 then decide (t=⟨0,g.start⟩) else(dh ss j n).isSome
theorem tT(h:bC g ss){j:Nat}{r:SQ}(hr:ss[j]? =some r){n:Nat}(hn:n<g.T+g.N):(dh ss j (n:Int)).isSome=decide (bx g r.1.2 (n:Int)≠[]):=by
 have u:=Ic h hr;rw[tQ hr,Option.isSome_map,ahN,ahc,List.find?_isSome]
 constructor
 ·rintro⟨e,O,J⟩;have J:e.sym=n:=agQ J;have:e.sym∈r.2.2.map (·.sym):=agY.2 ⟨e,O,rfl⟩
  grind[Int.ofNat.inj,yC]
 ·intro U
  have:(n:Int)∈r.2.2.map (·.sym):=by
   rw[u];exact agY.2 ⟨n,ahi.2 ⟨ahd.2 hn,aht U⟩,rfl⟩
  grind
theorem XZ:∀(T N:Nat)(p:Nat->Bool),((List.range (T+N)).filter p).filter (λn=>decide (n<T))=(List.range T).filter p
 |T,0,p=>by simp_all[Nat.add_zero,List.filter_filter,aie]
 |T,N+1,p=>by
  rw[<-Nat.add_assoc,XY,aho,XZ T N p]
  simp
theorem X0(h:bC g ss){j:Nat}{r:SQ}(hr:ss[j]? =some r):Ga g r.2.2=((List.range g.T).filter λn=>decide (bx g r.1.2 (n:Nat)≠[])).map Int.ofNat:=by
 have u:=Ic h hr
 have J:Ga g r.2.2=(r.2.2.map (·.sym)).filter λs=>decide (s<(g.T:Int)):=by
  unfold Ga;rw[List.filter_map];rfl
 have O:=XZ g.T g.N λn=>decide (bx g r.1.2 (n:Nat)≠[]);rw[J,u,List.filter_map,<-O];congr 1;refine aie λn hn=>?_;simp
theorem aa5(hc:aw g)(h:bC g ss){t:aG}{j:Nat}{r:SQ}(hr:ss[j]? =some r):oK g t++Ga g r.2.2=((List.range g.T).filter (wnt g ss t j)).map Int.ofNat:=by
 obtain⟨W,hN,hP,O,X,_⟩:=hc.cK;have J:=(ig h hr).1;have hf:=(gN (g:=g) ω j).fit _ (agL J);have h0:=adP hc hf;rw[X0 h hr];obtain⟨T,u⟩:∃T,g.T=T+1:=⟨g.T-1,ω⟩;rw[u,List.range_succ_eq_map];have V:((0::(List.range T).map Nat.succ).filter λn=>decide (bx g r.1.2 (n:Nat)≠[]))=((List.range T).map Nat.succ).filter λn=>decide (bx g r.1.2 (n:Nat)≠[]):=by simp_all
 have Y:((List.range T).map Nat.succ).filter (wnt g ss t j)=((List.range T).map Nat.succ).filter λn=>decide (bx g r.1.2 (n:Nat)≠[]):=by
  refine aie λn hn=>?_;obtain⟨m,U,rfl⟩:=agY.1 hn;rw[ahd] at U;unfold wnt;rw[agW ω,tT h hr ω]
 rw[V];unfold oK
 by_cases ht:t=⟨0,g.start⟩
 ·simp_all[List.filter_cons_of_pos,wnt]
 simp_all[List.filter_cons_of_neg,wnt]
end
section
variable{g:ah}{ss:List SQ}
theorem mD(q s:Int)(l:List Int):dw ss q (s::l)=match dh ss q.toNat s with|none=>-1|some j=>dw ss j l:=rfl
theorem CB(hn:∀i s j,dh ss i s=some j->0<=j/\j<ss.length):∀(l:List Int)(q:Int),0<=q->q<ss.length->dw ss q l=-1\/(0<=dw ss q l/\dw ss q l<ss.length)
 |[],q,h1,h2=>.inr ⟨h1,h2⟩
 |s::l,q,h1,h2=>by
  unfold dw
  cases h:dh ss q.toNat s with
  |none=>simp
  |some j=>exact CB hn l j (hn _ _ _ h).1 (hn _ _ _ h).2
theorem CC(hn:∀i s j,dh ss i s=some j->0<=j/\j<ss.length)(b:List Int):∀(l:List Int)(q:Int),0<=q->q<ss.length->dw ss q (l++b)=if dw ss q l=-1 then-1 else dw ss (dw ss q l) b
 |[],q,h1,h2=>by
  show dw ss q b=if q=-1 then-1 else dw ss q b
  omega
 |s::l,q,h1,h2=>by
  show dw ss q (s::(l++b))=_
  rw[mD q s (l++b),mD q s l]
  cases h:dh ss q.toNat s with
  |none=>simp
  |some j=>exact CC hn b l j (hn _ _ _ h).1 (hn _ _ _ h).2
end
section
variable{g:ah}{ss:List SQ}
theorem oM(hc:aw g)(hA:bC g ss){i:Nat}{q:SQ}(hq:ss[i]? =some q){y:au}{s:Int}(hy:vF g q.1.2 y)(hs:ng g y=s)(h0:0<=s):∃(j:Nat)(r:SQ),dh ss i s=some (j:Int)/\ss[j]? =some r/\(⟨y.prod,y.dot+1⟩:au)∈r.1.2:=by
 obtain⟨hT,hN,hP,X,_,_⟩:=hc.cK;have W:=(ig hA hq).1;have hf:=(gN (g:=g) ω i).fit _ (agL W);have O:(⟨y.prod,y.dot+1⟩:au)∈bx g q.1.2 s:=dj.2 ⟨y,hy,hs,rfl⟩;have J:bx g q.1.2 s≠[]:=List.ne_nil_of_mem O;have U:=xP hc hf h0 J;obtain⟨n,rfl⟩:∃n:Nat,s=n:=⟨s.toNat,ω⟩;have u:=tT hA hq (n:=n) ω;rw[aht J] at u;obtain⟨t,ht⟩:=aip.1 u;obtain⟨q',k,e,Z,he,V,Y⟩:=lB ht
 grind[dm]
theorem Ba(hc:aw g)(hA:bC g ss){n:Nat}{p:aJ}(hp:g.prods[n]? =some p):∀(d m:Nat),m+d=p.right.length->∀(i:Nat)(q:SQ),ss[i]? =some q->vF g q.1.2 ⟨(n:Int),(m:Int)⟩->
  ∃(j:Nat)(r:SQ),dw ss (i:Int) (p.right.drop m)=(j:Int)/\ss[j]? =some r/\vF g r.1.2 ⟨(n:Int),(p.right.length:Int)⟩
 |0,m,hm,i,q,hq,hy=>⟨i,q,by rw[List.drop_of_length_le ω];rfl,hq,by simp_all⟩
 |d+1,m,hm,i,q,hq,hy=>by
  have hlt:m<p.right.length:=ω
  have hpm:p∈g.prods:=agL hp
  have hs:ng g ⟨(n:Int),(m:Int)⟩=p.right[m]:=by simp_all[w_]
  have hsy:=hc.sym hpm (ail hlt)
  obtain⟨j,r,h1,h2,h3⟩:=oM hc hA hq hy hs ω
  have h4:vF g r.1.2 ⟨(n:Int),((m+1:Nat):Int)⟩:=.base (by simp_all)
  obtain⟨j',r',e1,e2,e3⟩:=Ba hc hA hp d (m+1) ω j r h2 h4
  grind[List.drop_eq_getElem_cons,mD,Int.toNat_natCast]
theorem aa6(hc:aw g)(hA:bC g ss){i:Nat}{q:SQ}(hq:ss[i]? =some q){n:Nat}{p:aJ}(hp:g.prods[n]? =some p)(hy:vF g q.1.2 ⟨(n:Int),0⟩):(dh ss i p.left).isSome=decide (n≠0):=by
 have Y:=hc;obtain⟨_,a8,U,p0,O,Z,a0,_⟩:=Y;obtain⟨hT,hN,hP,a7,_,a6⟩:=hc.cK
 have V:∀(m:Nat) J,g.prods[m]? =some J->m≠0->HB g 1 J:=λm J hm h0=>by
  refine U.2.2.1 J (agL (i:=m-1) ?_)
  grind
 by_cases h0:n=0
 ·subst h0;rw[O] at hp;cases hp;rw[Z,tT hA hq ω];have hK:=(ig hA hq).1;have hf:=(gN (g:=g) ω i).fit _ (agL hK)
  have:bx g q.1.2 (g.T:Int)=[]:=by
   refine ahm λX=>?_;obtain⟨x,hx⟩:=ahR _ X;obtain⟨y,h1,h2,_⟩:=dj.1 hx;obtain⟨J,u,_,W⟩:=HL (h1.fit hf) h2 (ahu _)
   by_cases h4:y.prod.toNat=0
   ·rw[h4,O] at u;cases u;rw[a0] at W;have:=agL W;rw[ag_] at this;have:=U.2.2.2.2.1;omega
   ·have:=(V _ _ u h4).2 _ (agL W)
    grind[nV]
  simp_all
 ·have a5:=V n p hp h0
  have a4:∃j:Int,dh ss i p.left=some j:=by
   generalize hz:(⟨(n:Int),0⟩:au)=z at hy;cases hy with
   |base h=>
    subst hz;cases i with
    |zero=>
     have hK:=(ig hA hq).1
     have e:q.1.2=[⟨0,0⟩]:=by
      have:(fJ g 0).1[0]? =some [⟨0,0⟩]:=rfl
      simp_all
     simp_all
    |succ i=>
     have:=(ML hc hA ω hq h).2.1
     simp_all
   |step hy' h1 u hl'=>
    rename_i y i' J;have e:i'=n:=by grind
    grind[oM]
  grind
end
section
variable{g:ah}{ss:List SQ}
theorem U9{h:Hp}{xs:List au}{a:aiz}{l:Nat}(r:aX h xs a l){i:Nat}(hi:i<l):∃x ad,xs[i]? =some x/\a=some ad/\aq h (ad.add (ff i 2)) (fh x):=by
 obtain⟨x,ad,vs,J,ha,u,e⟩:=r.get hi;rw[show vs=fh x from e] at u;exact⟨x,ad,J,ha,u⟩
end
section
variable{a b c d:aiz}{i j k l m n o p:Nat}{A:Int}{w:aiA}{R:Value->WP}
theorem Bc(h:new w (ψ a i j b k l c m n A d o p) λa b=>χ b (aM a) λc=>rEb 267 [c] b λd c=>br (!d) (R (vU [zS,iI 1]) c) (dW1 c λb c=>∃d e f g h i j k l m n o p,(∀b,c b->rA b (aM a) 5 [vS d e f,vS g h i,vS j k l,iI m,vS n o p])/\dLs c (aM a) λq r s=>rEp 268 [vG [vS d e f,vS g h i,vS j k l,iI m,vS n o p]] b λd b=>∃(a:WP),a b/\(∀b,a b->c b)/\nn d λc=>dLs a (c.add 5) λd e f=>lU d e f (some (r:Int)) none none 1 λ(a:aiz)(c d:Nat)=>R (vU [vS a c d,iI 0]) b)):ρ 179 [φ a i j b k l c m n A d o p] w R:=rv Tryz.func179 h
theorem Ew(h:new w (ψ a i j b k l c m n A d o p) λa b=>χ b (aM a) λc=>rEb 166 [c] b λd c=>br d (R (vB true) c) (χ c (aM a) λa=>rEb 81 [a] c λc b=>R (vB c) b)):ρ 267 [φ a i j b k l c m n A d o p] w R:=rv Tryz.func267 h
theorem MS(h:new w (ψ a i j b k l c m n A d o p) λa b=>cLs b (aM a) λc d e=>cLs b (Addr.add (aM a) 1) λc e f=>aA ((d:Int)+(e:Int))/\dW1 b λc b=>∃f g h i j k l m n o p q r,(∀c,b c->rA c (aM a) 5 [vS f g h,vS i j k,vS l m n,iI o,vS p q r])/\od ((d:Int)+(e:Int)) ((d:Int)+(e:Int)) 1/\new c (Obj.cells (Array.mk (gD (Int.toNat ((d:Int)+(e:Int))) [vB false])) 4) λc s=>b s/\new s (oC [vS f g h,vS i j k,vS l m n,iI o,vS p q r,vS (some (aM c)) (Int.toNat ((d:Int)+(e:Int))) (Int.toNat ((d:Int)+(e:Int))),zS] 422) λc f=>b f/\τ [(24,aN)] λb g=>b 0 f/\∀(_:ν) f h,b f h->bQ (f<(d:Int)+(e:Int)) (dW1 h λd e=>dLs e (Addr.add (aM c) 6) λi j k=>dLs e (aM a) λl m n=>new d (oC [iI f] 3) λa d=>e d/\rEp 102 [iI (m:Int),vS (some (aM a)) 1 1] d λl d=>e d/\new d (oC [vP l] 178) λa d=>e d/\rS (fW1 179 [vS i j k,vS (some (aM a)) 1 1]) d λa d=>∃i j k,a=vS i j k/\e d/\st1 d (Addr.add (aM c) 6) (vS i j k) λa=>aA (f+1)/\nA b g (f+1) a f h) (τ [(6,aN)] λb d=>b 1 h/\∀(_:ν) e f,b e f->bQ (0<e) (cLs f (Addr.add (aM a) 4) λg h i=>τ [(6,aN),(48,aN)] λa i=>a 0 0 f/\∀(_:ν) j k l,a j k l->bQ (k<(h:Int)) (idx g h k 3 λb=>∃d e f g h,rA l b 3 [iI d,vS e f g,iI h]/\new l (oC [iI 0,zS,iI 0] 134) λb m=>bA m (aM b) [iI d,vS e f g,iI h] λd=>dW1 d λe d=>dLs d (Addr.add (aM c) 6) λf g h=>dLi d (aM b) λh=>idx f g h 1 λf=>dLp d f λg=>dLs d (Addr.add (aM b) 1) λf h m=>rE 324 [vP (some (aM c)),vP g,vS f h m] e λe f=>∃g h,e=vU [iI g,vB h]/\d f/\aA (j+g)/\dW1 f λd e=>br h (dLs e (Addr.add (aM c) 5) λf h m=>dLi e (aM b) λm=>idx f h m 1 λf=>dLb e f λh=>br (!h) (dW1 d λe d=>dLs d (Addr.add (aM c) 5) λf h m=>dLi d (aM b) λc=>idx f h c 1 λb=>st1 e b (vB true) λb=>aA (j+g+1)/\aA (k+1)/\nB a i (j+g+1) (k+1) b j k l) (aA (k+1)/\nB a i (j+g) (k+1) d j k l)) (aA (k+1)/\nB a i (j+g) (k+1) d j k l)) (nA b d j l e f)) (R (vP (some (aM c))) f))):ρ 268 [φ a i j b k l c m n A d o p] w R:=rv Tryz.func268 h ⟨[(4,[(24,aN)]),(9,[(6,aN)]),(12,[(6,aN),(48,aN)])],[],[],[]⟩
theorem Be(h:τ [(8,aN),(13,aN)] λd e=>d 0 0 w/\∀(_:ν) f g h,d f g h->bQ (g<(i:Int)) (idx c i g 1 λc=>cLi h c λi=>nn a λc=>cLs h (c.add 6) λj k l=>idx j k i 1 λc=>cLp h c λj=>new h (oC [vP j] 178) λc j=>rEi 349 [vP b,vS (some (aM c)) 1 1] j λj c=>aA (f+j)/\nn a λa=>cLs c (a.add 5) λb k l=>idx b k i 1 λa=>cLb c a λb=>br (!b) (R (vU [iI (f+j),vB false]) c) (aA (g+1)/\nB d e (f+j) (g+1) c f g h)) (R (vU [iI f,vB true]) h)):ρ 324 [.pointer a,.pointer b,vS c i j] w R:=rv Tryz.func324 h ⟨[(3,[(8,aN),(13,aN)])],[],[],[]⟩
end
def pQ(nl:List Bool)(vs:List (List Bool)):List Bool->List Int->List Bool
 |bs,[]=>bs
 |bs,s::r=>if bp nl s.toNat then pQ nl vs (di bs (je (vs.getD s.toNat []))) r else di bs (je (vs.getD s.toNat []))
def Gb(nl:List Bool)(row:List Int):Bool:=row.all λs=>bp nl s.toNat
theorem Pf(nl:List Bool)(vs:List (List Bool))(bs:List Bool):pQ nl vs bs []=bs:=rfl
theorem K6(nl:List Bool)(vs:List (List Bool))(bs:List Bool)(s:Int)(r:List Int):pQ nl vs bs (s::r)=if bp nl s.toNat then pQ nl vs (di bs (je (vs.getD s.toNat []))) r else di bs (je (vs.getD s.toNat [])):=rfl
theorem Ij(nl:List Bool)(vs:List (List Bool)):∀(row:List Int)(bs:List Bool),(pQ nl vs bs row).length=bs.length
 |[],bs=>rfl
 |s::r,bs=>by
  unfold pQ
  split
  ·rw[Ij nl vs r,bu]
  ·rw[bu]
theorem CD(nl:List Bool)(vs:List (List Bool)):∀(row:List Int)(bs:List Bool)(k:Nat),bp bs k=true->bp (pQ nl vs bs row) k=true
 |[],bs,k,h=>h
 |s::r,bs,k,h=>by
  unfold pQ
  have:bp (di bs (je (vs.getD s.toNat []))) k=true:=by simp_all[ia]
  split
  ·exact CD nl vs r _ k this
  omega
theorem K7(nl:List Bool)(vs:List (List Bool)):∀(row:List Int)(bs:List Bool),bJ bs<=bJ (pQ nl vs bs row)
 |[],bs=>agT _
 |s::r,bs=>by
  unfold pQ
  split
  ·exact ahq (sZ _ _) (K7 nl vs r _)
  simp[sZ]
section
variable{w:aiA}{L:List aE}{a an ao:aiz}{l c nl cn ol co ks:Nat}{p:aiz}{bs nulls:List Bool}{row:List Int}{os:List (aiz)}{vss:List (List Bool)}{gs:List Value}
theorem afJ(h:St w (cU p bs::L))(hs:∀h,aF L h->aq h ⟨ks,0,none⟩ (gs++[vS an nl cn,vS ao ol co]))(hgs:gs.length=5)(hn:∀h,aF L h->aX h nulls an nl)(ho:∀h,aF L h->aX h os ao ol)(hv:vss.length=os.length)(hno:nulls.length=os.length)
  (hq:∀h,aF L h->∀(i:Nat) q v,os[i]? =some q->vss[i]? =some v->eV h q v\/(q=p/\v=bs)) (ht:∀h,aF L h->dP h)
  (hr:∀h,aF L h->aX h row a l) (hin:∀s∈row,0<=s/\s.toNat<os.length) (hb:l<=4611686018427387904):
  ρ 324 [.pointer (some ⟨ks,0,none⟩),.pointer p,vS a l c] w λv w'=>v=.tuple #[iI ((bJ (pQ nulls vss bs row):Int)-bJ bs),vB (Gb nulls row)]/\St w' (cU p (pQ nulls vss bs row)::L):=by
 obtain⟨h0,hl,_,Z⟩:=h.freeze;have hs:=hs h0 hl;have hn:=hn h0 hl;have ho:=ho h0 hl;have hq:=hq h0 hl;have ht:dP h0:=ht h0 hl;have hr:=hr h0 hl;have ba:=h.eV.le;have done:∀w' b,St w' (cU p b::[has h0])->St w' (cU p b::L):=λw' b h=>h.eM hl;clear h hl;have c5:∀w',sub h0 (hp w')->w'.cell? ((⟨ks,0,none⟩:Addr).add 5)=some (vS an nl cn):=λw' s=>hs.cell s (j:=5) (by simp_all);have c6:∀w',sub h0 (hp w')->w'.cell? ((⟨ks,0,none⟩:Addr).add 6)=some (vS ao ol co):=λw' s=>hs.cell s (j:=6) (by simp_all);refine Be ?_;refine⟨λn1 n2 w'=>∃(j:Nat)(U:List Bool),n2=j/\j<=l/\n1=(bJ U:Int)-bJ bs/\bJ bs<=bJ U/\U.length=bs.length/\(∀k,bp bs k=true->bp U k=true)/\pQ nulls vss bs row=pQ nulls vss U (row.drop j)/\Gb nulls row=Gb nulls (row.drop j)/\St w' [cU p U,has h0],λ_ n2 _=>l-n2.toNat,⟨0,bs,rfl,ω,ω,agT _,rfl,λ_ h=>h,σ,σ,Z⟩,?_⟩;clear Z;rintro _ _ n2 w1⟨j,U,rfl,hj,rfl,b6,bb,b5,J,X,h⟩;have s1:sub h0 (hp w1):=(h.pick 2 [1]).has;have k1:=iC U
 refine ae (λu=>?_) λu=>?_
 ·have u:j<l:=by simp_all
  obtain⟨y,ad,b3,am,aa⟩:=hr.dQ u;obtain⟨y0,yl⟩:=hin y (agL b3);obtain⟨q,bc,a5,a9,a7⟩:=ho.dQ (i:=y.toNat) (by have:=ho.1;omega);obtain⟨v,a0⟩:∃v,vss[y.toNat]? =some v:=⟨vss[y.toNat]'ω,agM _⟩;obtain⟨z,b7,be,a6,b1⟩:=hn.dQ (i:=y.toNat) (by have:=hn.1;omega);have a4:vss.getD y.toNat []=v:=by simp_all
  have av:bp nulls y.toNat=z:=by grind[bp,List.getD]
  have ed:row.drop j=y::row.drop (j+1):=by grind[List.drop_eq_getElem_cons,List.getElem?_eq_some_iff]
  refine ax am u ⟨y,aa _ s1,_,_,_,c6 _ s1,?_⟩;have ey:y=((y.toNat:Nat):Int):=ω
  rw[ey];refine ax a9 (by have:=ho.1;omega) ⟨q,a7 _ s1,ag h λb2 w2 h2=>?_⟩;have b4:=hq _ _ _ a5 a0
  obtain⟨W,al,a8⟩:∃W,(∀h,aF [az b2 [.pointer q],has h0] h->eV h q W\/(q=p/\W=U))/\di U (je W)=di U (je v):=by
   rcases b4 with hr|⟨rfl,rfl⟩
   ·exact⟨v,λh O=>.inl (hr.mono (ju (A:=has h0) (ahQ _ (List.mem_singleton_self _)) O|>.elim λZ x=>x.2.trans x.1)),rfl⟩
   ·exact⟨U,λh O=>.inr ⟨rfl,rfl⟩,by grind[KQ]⟩
  refine(SV (vss:=[W]) (os:=[q]) (l:=1) (h2.pick 3 [1,0,2]) (λh O=>?_) rfl (λh O i q' w' hi hw=>?_) (λh O=>?_) ω).mono ?_
  ·obtain⟨Z,_,_,s1,_,⟨e,he⟩,_⟩:=O;exact(h_ (xs:=[q]) rfl (.inr ⟨_,rfl,kY ⟨e,he⟩⟩)).mono s1
  ·match i,hi,hw with
   |0,hi,hw=>cases hi;cases hw;exact al h O
   |i+1,hi,_=>grind
  ·exact eE.mono (ju (A:=has h0) (ahQ _ (List.mem_singleton_self _)) O|>.elim λZ x=>x.2.trans x.1) ht
  rintro _ w3⟨rfl,V⟩;have eU:dH U [W]=di U (je v):=a8;rw[eU] at V ⊢;have V:=V.pick 3 [0,2];have s3:sub h0 (hp w3):=(V.pick 2 [1]).has;have k2:=sZ U (je v);have k3:=iC (di U (je v));rw[bu] at k3;rw[ed] at J X;rw[K6,a4,av] at J;rw[show Gb nulls (y::row.drop (j+1))=(z&&Gb nulls (row.drop (j+1))) from by grind[Gb]] at X;refine⟨_,rfl,ξ,_,_,_,c5 _ s3,?_⟩
  refine ax a6 (by have:=hn.1;omega) ⟨z,b1 _ s3,ae (λY=>?_) λY=>?_⟩
  ·have Y:z=false:=by grind
   subst Y;simp only[Bool.false_eq_true,if_false] at J
   refine⟨?_,?_⟩
   ·grind
   ·rw[J];exact done _ _ V
  ·have Y:z=true:=by grind
   subst Y;simp only[if_true] at J;rw[aiv] at X;refine⟨ξ,⟨j+1,di U (je v),σ,ω,ω,ω,by grind[bu],λk hk=>by grind[ia],J,X,V⟩,bR u⟩
 ·have u:j=l:=by grind
  subst u;rw[List.drop_of_length_le (by have:=hr.1;omega)] at J X;rw[Pf] at J
  refine⟨?_,?_⟩
  ·rw[J,X];rfl
  simp_all
end
inductive Ik (g:ah):Int->Prop
 |mk (p:aJ):p∈g.prods->(∀s∈p.right,Ik g s)->Ik g p.left
inductive U_ (g:ah):Int->Nat->Prop
 |tm (t:Nat):t<g.T->U_ g (t:Int) t
 |pr (p:aJ) (i:Nat) (s:Int) (t:Nat):p∈g.prods->p.right[i]? =some s->(∀x∈p.right.take i,Ik g x)->U_ g s t->U_ g p.left t
def MT(g:ah)(row:List Int):Prop:=∀s∈row,Ik g s
def uT(g:ah)(row:List Int)(t:Nat):Prop:=∃(i:Nat)(s:Int),row[i]? =some s/\(∀x∈row.take i,Ik g x)/\U_ g s t
theorem Pg{nl:List Bool}{row:List Int}:Gb nl row=true↔∀s∈row,bp nl s.toNat=true:=by simp[Gb]
theorem CE(nl:List Bool)(vs:List (List Bool)):∀(row:List Int)(bs:List Bool)(k:Nat),bp (pQ nl vs bs row) k=true↔bp bs k=true\/(k<bs.length/\∃(i:Nat)(s:Int),row[i]? =some s/\(∀x∈row.take i,bp nl x.toNat=true)/\bp (vs.getD s.toNat []) k=true)
 |[],bs,k=>by simp[Pf]
 |s::r,bs,k=>by
  rw[K6]
  constructor
  ·intro h
   by_cases hz:bp nl s.toNat=true
   ·rw[ag0 hz,CE nl vs r] at h
    rw[ia,bu,ahz,ag1,ahc] at h
    rcases h with(h|⟨h1,h2⟩)|⟨h1,i,y,h2,h3,h4⟩
    ·simp_all
    ·exact .inr ⟨h1,0,s,rfl,σ,h2⟩
    ·refine .inr ⟨h1,i+1,y,h2,?_,h4⟩
     simp_all
   ·rw[agW hz,ia,ahz,ag1,ahc] at h
    rcases h with h|⟨h1,h2⟩
    ·simp_all
    ·exact .inr ⟨h1,0,s,rfl,σ,h2⟩
  ·intro h
   have hu:(bp bs k=true\/(k<bs.length/\bp (vs.getD s.toNat []) k=true))->bp (di bs (je (vs.getD s.toNat []))) k=true:=λh=>by simp_all[ia]
   by_cases hz:bp nl s.toNat=true
   ·rw[ag0 hz,CE nl vs r,bu]
    rcases h with h|⟨h1,i,y,h2,h3,h4⟩
    ·simp_all
    ·match i,h2,h3 with
     |0,h2,_=>simp_all
     |i+1,h2,h3=>grind
   ·rw[agW hz]
    rcases h with h|⟨h1,i,y,h2,h3,h4⟩
    ·simp_all
    ·match i,h2,h3 with
     |0,h2,_=>simp_all
     |i+1,h2,h3=>simp_all
def Fi(g:ah):Prop:=∀p∈g.prods,((g.T:Int)<=p.left/\p.left<g.T+g.N)/\∀s∈p.right,0<=s/\s<(g.T:Int)+g.N
structure Ph(g:ah)(nl:List Bool)(vs:List (List Bool)):Prop where
 ln:nl.length=g.T+g.N
 lv:vs.length=g.T+g.N
 le:∀v∈vs,v.length=g.T
 sn:∀i,bp nl i=true->Ik g (i:Int)
 sv:∀i t,bp (vs.getD i []) t=true->U_ g (i:Int) t
 tm:∀t,t<g.T->bp (vs.getD t []) t=true
def ClP(nl:List Bool)(vs:List (List Bool))(p:aJ):Prop:=(Gb nl p.right=true->bp nl p.left.toNat=true)/\pQ nl vs (vs.getD p.left.toNat []) p.right=vs.getD p.left.toNat []
theorem j9{s:Int}(h:0<=s):((s.toNat:Nat):Int)=s:=ω
theorem Ph.row{g:ah}{nl:List Bool}{vs:List (List Bool)}(m:Ph g nl vs){row:List Int}(hr:∀s∈row,0<=s/\s<(g.T:Int)+g.N):(Gb nl row=true->MT g row)/\∀bs t,bp (pQ nl vs bs row) t=true->bp bs t=true\/uT g row t:=by
 refine⟨λh s u=>?_,λbs t h=>?_⟩
 ·have:=m.sn _ (Pg.1 h s u)
  grind
 ·rcases(CE nl vs row bs t).1 h with h|⟨_,i,s,V,U,J⟩
  ·simp_all
  ·refine .inr ⟨i,s,V,λx O=>?_,?_⟩
   ·have:=m.sn _ (U x O)
    grind
   ·have:=m.sv _ _ J
    grind
theorem Ik.left{g:ah}(hg:Fi g){s:Int}(h:Ik g s):(g.T:Int)<=s/\s<g.T+g.N:=by
 cases h with|mk p hp _=>exact(hg p hp).1
theorem U_.lt{g:ah}{s:Int}{t:Nat}(h:U_ g s t):t<g.T:=by
 induction h with
 |tm t h=>omega
 |pr p i s t _ _ _ _ ih=>omega
structure afK(g:ah)(nl:List Bool)(vs:List (List Bool)):Prop where
 ln:nl.length=g.T+g.N
 lv:vs.length=g.T+g.N
 le:∀v∈vs,v.length=g.T
 nn:∀i,bp nl i=true↔Ik g (i:Int)
 nv:∀i t,bp (vs.getD i []) t=true↔U_ g (i:Int) t
theorem Ph.Pj{g:ah}{nl:List Bool}{vs:List (List Bool)}(m:Ph g nl vs){i:Nat}(hi:i<g.T+g.N):(vs.getD i []).length=g.T:=by
 have h:vs[i]? =some (vs[i]'(by rw[m.lv];omega)):=agM _;rw[List.getD,h];exact m.le _ (agL h)
theorem Ph.all{g:ah}{nl:List Bool}{vs:List (List Bool)}(hg:Fi g)(m:Ph g nl vs)(hc:∀p∈g.prods,ClP nl vs p):afK g nl vs:=by
 have cn:∀s,Ik g s->bp nl s.toNat=true:=λs h=>by
  induction h with
  |mk p hp _ ih=>exact(hc p hp).1 (Pg.2 ih)
 have cv:∀s t,U_ g s t->bp (vs.getD s.toNat []) t=true:=λs t h=>by
  induction h with
  |tm t h=>exact m.tm t h
  |pr p i s t hp hi hx hs ih=>
   have hl:=(hg p hp).1;rw[<-(hc p hp).2,CE];exact .inr ⟨by rw[m.Pj ω];exact hs.lt,i,s,hi,λx u=>cn x (hx x u),ih⟩
 exact⟨m.ln,m.lv,m.le,λi=>⟨m.sn i,λh=>cn _ h⟩,λi t=>⟨m.sv i t,λh=>cv _ _ h⟩⟩
def Fj(v:List Bool):Nat:=v.length-bJ v
def Bf(nl:List Bool)(vs:List (List Bool)):Nat:=Fj nl+(vs.map Fj).sum
theorem Tj:∀{l:List Nat}{k x y:Nat},l[k]? =some x->(l.set k y).sum+x=l.sum+y
 |[],k,x,y,h=>by grind
 |z::l,0,x,y,h=>by grind
 |z::l,k+1,x,y,h=>by
  have:=Tj (l:=l) (k:=k) (x:=x) (y:=y) (by simp_all)
  grind
theorem X2{nl:List Bool}{vs:List (List Bool)}{k:Nat}{v v':List Bool}(h:vs[k]? =some v)(hl:v'.length=v.length)(hc:bJ v<=bJ v'):Bf nl (vs.set k v')+(bJ v'-bJ v)=Bf nl vs:=by
 have u:=Tj (l:=vs.map Fj) (k:=k) (x:=Fj v) (y:=Fj v') (by simp_all)
 grind[iC,Bf,List.map_set,Fj]
theorem exists_least{P:Nat->Prop}(h:∃m,P m):∃m,P m/\∀k,P k->m<=k:=by
 obtain⟨m,u⟩:=h
 induction m using Nat.strongRecOn with
 |_ m ih=>
  grind
theorem CF{α:Type}(P:α->Nat->Prop):∃μ:α->Nat,(∀x m,P x m->μ x<=m)/\∀x,(∃m,P x m)->P x (μ x):=by
 have h:∀x,∃m,(∀k,P x k->m<=k)/\((∃k,P x k)->P x m):=λx=>by
  by_cases u:∃k,P x k
  ·obtain⟨m,J,O⟩:=exists_least u
   grind
  simp_all
 exact⟨λx=>(h x).choose,λx=>(h x).choose_spec.1,λx=>(h x).choose_spec.2⟩
theorem yI{m m':Nat->Bool}(h:∀k,m k=true->m' k=true):∀n,dp n m<=dp n m'/\(dp n m=dp n m'->∀k,k<n->m k=m' k)
 |0=>⟨agT _,λ_ k hk=>ω⟩
 |n+1=>by
  obtain⟨h1,h2⟩:=yI h n
  rw[wT,wT]
  grind
theorem Il{bs cs:List Bool}(hl:cs.length=bs.length)(hs:∀k,bp bs k=true->bp cs k=true)(hc:bJ cs=bJ bs):cs=bs:=by
 refine k_ hl λk=>?_
 by_cases u:k<bs.length
 ·unfold bJ at hc;rw[hl] at hc;exact((yI hs bs.length).2 hc.symm k u).symm
 simp_all[uo]
theorem CG{nl:List Bool}{k:Nat}(hk:k<nl.length)(j:Nat):bp (nl.set k true) j=(bp nl j||j==k):=by grind[bp]
theorem Tl{nl:List Bool}{k:Nat}(hk:k<nl.length)(hf:bp nl k=false):Fj (nl.set k true)+1=Fj nl:=by
 have u:bJ (nl.set k true)=bJ nl+1:=by
  unfold bJ;rw[ahB,<-SL hk hf]
  grind[KI,CG]
 grind[iC,List.length_set,Fj]
theorem K8{vs:List (List Bool)}{k:Nat}(hk:k<vs.length)(v:List Bool)(j:Nat):(vs.set k v).getD j []=if j=k then v else vs.getD j []:=by grind
theorem Ph.lay{g:ah}(hg:Fi g){nl:List Bool}{vs:List (List Bool)}(m:Ph g nl vs){p:aJ}(hp:p∈g.prods):Ph g nl (vs.set p.left.toNat (pQ nl vs (vs.getD p.left.toNat []) p.right)):=by
 obtain⟨hl,V⟩:=hg p hp;have X:p.left.toNat<g.T+g.N:=ω
 have u:p.left.toNat<vs.length:=by rw[m.lv];omega
 refine⟨m.ln,by rw[ahB];exact m.lv,λv J=>?_,m.sn,λi t h=>?_,λt ht=>?_⟩
 ·rcases List.mem_or_eq_of_mem_set J with J|rfl
  ·exact m.le v J
  ·rw[Ij];exact m.Pj X
 ·rw[K8 u] at h
  split at h
  ·rename_i e;subst e;rw[j9 ω]
   rcases(m.row V).2 _ _ h with h|⟨i,s,W,U,O⟩
   ·have:=m.sv _ _ h;grind
   ·exact .pr p i s t hp W U O
  ·exact m.sv _ _ h
 ·rw[K8 u]
  split
  ·omega
  ·exact m.tm t ht
theorem Ph.van{g:ah}(hg:Fi g){nl:List Bool}{vs:List (List Bool)}(m:Ph g nl vs){p:aJ}(hp:p∈g.prods)(hn:MT g p.right):Ph g (nl.set p.left.toNat true) vs:=by
 obtain⟨hl,J⟩:=hg p hp;have u:p.left.toNat<nl.length:=by rw[m.ln];omega
 refine⟨by rw[ahB];exact m.ln,m.lv,m.le,λi h=>?_,m.sv,m.tm⟩;rw[CG u,ahz,beq_iff_eq] at h
 rcases h with h|rfl
 ·exact m.sn i h
 ·rw[j9 ω];exact .mk p hp hn
theorem aa7{g:ah}{nl:List Bool}{vs:List (List Bool)}(m:Ph g nl vs):Bf nl vs<=(g.T+g.N)+(g.T+g.N)*g.T:=by
 unfold Bf;have O:Fj nl<=g.T+g.N:=by unfold Fj;rw[m.ln];omega
 have J:∀l:List (List Bool),(∀v∈l,v.length=g.T)->(l.map Fj).sum<=l.length*g.T:=λl=>by
  induction l with
  |nil=>simp
  |cons v l ih=>
   grind[List.mem_cons_of_mem,Fj,List.mem_cons_self,List.length_cons,Nat.succ_mul]
 have u:=J vs m.le;rw[m.lv] at u;omega
theorem Gc{g:ah}(h:bM g):Fi g/\g.T<=65/\g.N<=65/\0<g.N/\0<g.T/\g.prods.length<=97:=by
 have X:g.T=g.terms.length:=rfl;have hN:g.N=g.cR.length:=rfl
 rcases h with⟨s,p,_⟩|⟨h0,s,p,q,hq,Z,U,Y⟩
 ·have V:=OB.1 s;have W:0<g.terms.length:=(agN.1 s.1).1;refine⟨λr O=>?_,ω,ω,ω,ω,by have:=p.2.1;omega⟩;have:=p.2.2.1 r O;exact⟨⟨by have:=this.1.1;omega,this.1.2.1⟩,λy u=>by have:=this.2 y u;grind[nV]⟩
 ·have V:=OB.1 s;have W:0<g.terms.length:=(agN.1 s.1).1;refine⟨λr O=>?_,ω,ω,ω,ω,by have:=p.2.1;omega⟩
  have J:r=q\/r∈g.prods.drop 1:=by
   cases hg:g.prods with
   |nil=>simp_all
   |cons a l=>
    simp_all
  rcases J with rfl|J
  ·refine⟨ω,λy u=>?_⟩;rw[U,ag_] at u;subst u;have:=p.2.2.2.2;omega
  ·have:=p.2.2.1 r J;exact⟨⟨by have:=this.1.1;omega,this.1.2.1⟩,λy u=>by have:=this.2 y u;grind[nV]⟩
theorem uU{α:Sort _}(a:α):∃q,q=a:=⟨a,rfl⟩
def FC(x:GA)(k14 n:Nat)(o:aiz)(j c:Nat):List Value:=[vS x.ta x.tl x.tc,vS x.na x.nl x.nc,vS x.la x.ll x.lc,iI x.s,vS x.pa x.pl x.pc,vS (some ⟨k14,0,none⟩) n n,vS o j c]
def pR(T j:Nat):List (List Bool):=(List.range j).map λ(i:Nat)=>yz (T:Int) [(i:Int)]
theorem Rw(T j:Nat):pR T (j+1)=pR T j++[yz (T:Int) [(j:Int)]]:=by simp[pR,ahA]
theorem K9(T j:Nat):(pR T j).length=j:=by simp[pR]
theorem Rx{T i:Nat}(hT:T<=65)(t:Nat):(yz (T:Int) [(i:Int)]).length=T/\(bp (yz (T:Int) [(i:Int)]) t=true↔t=i/\t<T):=by
 have hN:KL (T:Int)=T:=by grind[KL]
 unfold yz;refine⟨by rw[bu,ahX,hN],?_⟩;rw[eR,ahX,hN,gf,oy,Bool.false_or]
 grind
theorem X3{g:ah}(hT:g.T<=65):Ph g (List.replicate (g.T+g.N) false) (pR g.T (g.T+g.N)):=by
 have u:∀i,bp ((pR g.T (g.T+g.N)).getD i [])=if i<g.T+g.N then bp (yz (g.T:Int) [(i:Int)]) else bp []:=λi=>by
  unfold pR
  grind
 refine⟨σ,K9 _ _,λv J=>?_,λi h=>?_,λi t h=>?_,λt ht=>?_⟩
 ·obtain⟨i,_,rfl⟩:=agY.1 J;exact(Rx hT 0).1
 ·simp_all[oy]
 ·rw[u] at h
  split at h
  ·obtain⟨rfl,h'⟩:=((Rx hT t).2).1 h;exact .tm t h'
  simp_all[bp]
 ·rw[u,ag0 ω];exact(Rx hT t).2.2 ⟨rfl,ht⟩
section
variable{w:aiA}{L:List aE}{g:ah}{x:GA}
theorem agy(hg:gR (hp w) g x)(hb:lq g)(he:bM g)(ht:dP (hp w)):ρ 268 [.agg ⟨x.cells⟩] w λv w'=>∃(b k14:Nat)(o:aiz)(c:Nat)(nl:List Bool)(ps:List Nat)(vs:List (List Bool)),v=.pointer (some ⟨b,0,none⟩)/\afK g nl vs/\ps.length=vs.length/\
  St w' (az b (FC x k14 (g.T+g.N) o ps.length c)::az k14 (bv nl)::own 1 o ps.length c (pv (ps.map bk))::aV (c_ ps vs)::all w):=by
 refine MS ?_;refine gi hg λk1 w1 gw hg B=>?_;obtain⟨iG,bT,bN,pN,pT,bP⟩:=Gc he;have tl:g.T=x.tl:=hg.t.1;have nl:g.N=x.nl:=hg.n.1;have pl:=hg.p.1;have ht:=eE.mono gw ht;refine⟨_,_,_,B.c0 sZZ,_,_,_,B.c1 sZZ,ξ,λw2 hd=>?_⟩;have e2:hp w2=hp w1:=m_ hd;have gs:sub (hp w) (hp w1):=gw;generalize hH:hp w1=H at*;have eN:(x.tl:Int)+(x.nl:Int)=((g.T+g.N:Nat):Int):=ω
 rw[eN];have c7:(x.tl:Int)=(g.T:Int):=ω
 rw[agZ,cZ];have h2:St w2 [has H]:=by have:=St.all w2;grind
 refine⟨λw=>sub H (hp w),e2▸sZZ,_,_,_,_,_,_,_,_,_,_,_,_,_,λw s=>B.row s,⟨ω,rfl,ω⟩,ag h2 λk14 w4 h4=>⟨aC 1 h4.l,ag h4 λu w5 h5=>⟨aC 2 h5.l,?_⟩⟩⟩;clear h2 h4;have cc:List.replicate (g.T+g.N) (vB false)=bv (List.replicate (g.T+g.N) false):=by simp[bv]
 rw[cc] at h5
 refine⟨λn w'=>∃(j:Nat)(o:aiz)(c:Nat)(ps:List Nat),n=j/\j<=g.T+g.N/\ps.length=j/\St w' [az u (FC x k14 (g.T+g.N) o j c),az k14 (bv (List.replicate (g.T+g.N) false)),own 1 o j c (pv (ps.map bk)),aV (c_ ps (pR g.T j)),has H],λn _=>g.T+g.N-n.toNat,⟨0,none,0,[],rfl,ω,rfl,?_⟩,?_⟩
 ·have h6:=aI 1 h5;have h7:St w5 (aV (c_ [] (pR g.T 0))::_):=St.flat.2 (show St w5 ([]++_) from h6);exact h7.pick 5 [2,3,1,0,4]
 clear h5;rintro _ n2 w6⟨j,o,c,ps,rfl,hj,a5,h⟩
 refine ae (λJ=>?_) λJ=>?_
 ·have J:j<g.T+g.N:=by grind
  intro w7 hd;have h:=h.drawn hd;have I:∀{w:aiA}{cs},aq (hp w) ⟨u,0,none⟩ cs->sub H (hp w)->aq (hp w) ⟨u,0,none⟩ cs/\sub H (hp w):=λa b=>⟨a,b⟩;refine⟨λw=>aq (hp w) ⟨u,0,none⟩ (FC x k14 (g.T+g.N) o j c)/\sub H (hp w),I (af 0 h.l) (aC 4 h.l),_,_,_,λw h=>h.1.cell sZZ (j:=6) rfl,_,_,_,λw h=>B.c0 h.2,ag h λe9 cN h=>⟨I (af 1 h.l) (aC 5 h.l),?_⟩⟩;refine(UN (xs:=[(j:Int)]) (l:=1) (x.tl:Int) (bt rfl (.inr ⟨_,rfl,af 0 h.l⟩)) ω).mono ?_;rintro _ dF⟨U,rfl,h1⟩;have h:=h1.eM h;refine⟨_,rfl,I (af 2 h.l) (aC 6 h.l),ag h λe5 d8 h=>⟨I (af 3 h.l) (aC 7 h.l),?_⟩⟩;refine(aS aT (rfl:ai Ty _=.slice _) (rfl:ai Ty _=.slice _) rfl rfl rfl (h.pick 8 [0,5,1,2,3,4,6,7]) rfl (by simp[aK]) (by grind) ω).mono ?_;rintro _ c5⟨o',c',rfl,h⟩;refine⟨_,_,_,rfl,I (af 4 h.l) (aC 7 h.l),?_⟩
  show st1 c5 ((⟨u,0,none⟩:Addr).add 6) _ _
  rw[ak];refine aR (h.pick 8 [4,0,2,5,6,7]) (by simp[FC]) λcp h=>⟨ξ,⟨j+1,o',c',ps++[U],σ,ω,by simp_all,?_⟩,bR J⟩;have h:St cp [az u (FC x k14 (g.T+g.N) o' (j+1) c'),own 1 o' (j+1) c' (pv (ps.map bk)++[.pointer (some ⟨U,0,none⟩)]),cU (some ⟨U,0,none⟩) (yz (x.tl:Int) [(j:Int)]),az k14 (bv (List.replicate (g.T+g.N) false)),aV (c_ ps (pR g.T j)),has H]:=h;have e1:pv (ps.map bk)++[.pointer (some ⟨U,0,none⟩)]=pv ((ps++[U]).map bk):=by simp[pv,bk]
  have bi:(c_ ps (pR g.T j)++[cU (some ⟨U,0,none⟩) (yz (x.tl:Int) [(j:Int)])])=c_ (ps++[U]) (pR g.T (j+1)):=by
   rw[Rw,c7];unfold c_;rw[List.zipWith_append (by simp_all[K9])];rfl
  rw[e1] at h;have h:=St.snoc (A:=cU (some ⟨U,0,none⟩) (yz (x.tl:Int) [(j:Int)])) (M:=c_ ps (pR g.T j)) (h.pick 6 [2,4,0,1,3,5]);rw[bi] at h;exact h.pick 5 [1,3,2,0,4]
 have J:j=g.T+g.N:=by grind
 subst J
 obtain⟨Q,hQ⟩:=uU (λ(n:Int)(w:aiA)(m:Nat)=>∃(nl:List Bool)(vs:List (List Bool)),Ph g nl vs/\0<=n/\(m:Int)=Bf nl vs+(if 0<n then 1 else 0)/\(n=0->∀p∈g.prods,ClP nl vs p)/\
  St w [az u (FC x k14 (g.T+g.N) o (g.T+g.N) c),az k14 (bv nl),own 1 o (g.T+g.N) c (pv (ps.map bk)),aV (c_ ps vs),has H])
 obtain⟨μ,ch,bl⟩:=CF (λ(y:Int×aiA) m=>Q y.1 y.2 m)
 refine⟨λn w'=>∃m,Q n w' m,λn w=>μ (n,w),⟨Bf (List.replicate (g.T+g.N) false) (pR g.T (g.T+g.N))+1,?_⟩,?_⟩
 ·rw[hQ]
  grind[X3,absurd]
 clear h;intro _ n3 b5 hP;have hP:=bl (n3,b5) hP;dsimp only at hP;generalize hμ:μ (n3,b5)=μ0 at*;rw[hQ] at hP;obtain⟨a6,Z,a7,e4,ca,al,h⟩:=hP;refine ae (λO=>?_) λO=>?_
 rotate_left
 ·have O:=agO O;have al:=al ω;refine⟨u,k14,o,c,a6,ps,Z,rfl,a7.all iG al,by rw[a5,a7.lv],?_⟩;rw[a5];exact St.on (N:=[_,_,_,_]) h (bF gs)
 have O:=agQ O;rw[ag0 O] at ca;refine⟨_,_,_,B.c4 (aC 4 h.l),λX n5 w'=>∃(j:Nat)(nl:List Bool)(vs:List (List Bool)),n5=j/\j<=x.pl/\0<=X/\X+Bf nl vs=Bf a6 Z/\Ph g nl vs/\(X=0->∀p∈g.prods.take j,ClP nl vs p)/\St w' [az u (FC x k14 (g.T+g.N) o (g.T+g.N) c),az k14 (bv nl),own 1 o (g.T+g.N) c (pv (ps.map bk)),aV (c_ ps vs),has H],λ_ n5 _=>x.pl-n5.toNat,⟨0,a6,Z,rfl,ω,ω,ω,a7,σ,h⟩,?_⟩;clear h;rintro _ X n5 b4⟨j,nl,vs,rfl,hj,d4,d5,mk,b7,h⟩;refine ae (λJ=>?_) λJ=>?_
 rotate_left
 ·have J:j=x.pl:=by grind
  subst J;rw[ag4 ω] at b7
  have key:Q X b4 (Bf nl vs+(if 0<X then 1 else 0)):=by
   rw[hQ];grind
  refine⟨⟨_,key⟩,?_⟩;have:=ch (X,b4) _ key
  grind
 have J:j<x.pl:=by grind
 obtain⟨p,ad,cT,ck,cu,cd,a,l,c3,rfl,ea,bc⟩:=hg.p.get J;have a4:=agL ck;obtain⟨cW,b3⟩:=iG p a4;have et:g.prods.take (j+1)=g.prods.take j++[p]:=by grind[List.take_add_one]
 refine aO cu J ⟨_,_,_,_,_,cd.at (aC 4 h.l) rfl,ag h λa0 e7 h=>aL h rfl (by intro v hv;simp at hv;rcases hv with rfl|rfl|rfl<;>rfl) λd9 h=>?_⟩;intro cC hd;have h:=h.drawn hd;obtain⟨k,hk⟩:∃k:Nat,p.left=k:=⟨p.left.toNat,ω⟩;rw[hk] at h;have be:p.left.toNat=k:=ω
 have W:k<g.T+g.N:=ω
 obtain⟨U,bz⟩:∃U,ps[k]? =some U:=⟨ps[k]'ω,agM _⟩;obtain⟨v,hv⟩:∃v,vs[k]? =some v:=⟨vs[k]'(by rw[mk.lv];omega),agM _⟩;have c6:vs.getD k []=v:=by grind
 have bb:(ps.map bk)[k]? =some (bk U):=by grind
 have rp:aX (hp cC) (ps.map bk) o (g.T+g.N):=UO 3 h.l rfl rfl (by grind);obtain⟨q,d3,b1,b6,d6⟩:=rp.dQ W;rw[bb] at b1;cases b1;refine⟨λw=>aq (hp w) ⟨u,0,none⟩ (FC x k14 (g.T+g.N) o (g.T+g.N) c)/\aq (hp w) ⟨a0,0,none⟩ [iI (k:Int),vS a l c3,iI p.level]/\aX (hp w) (ps.map bk) o (g.T+g.N),⟨af 1 h.l,af 0 h.l,rp⟩,_,_,_,λw h=>h.1.cell sZZ (j:=6) rfl,_,λw h=>h.2.1.cell0 sZZ,?_⟩
 refine ax b6 W ⟨bk U,λw h=>?_,_,_,_,λw h=>h.2.1.cell sZZ (j:=1) rfl,?_⟩
 ·obtain⟨q',e8,e1,e2,e3⟩:=h.2.2.dQ W;rw[bb] at e1;cases e1;rw[b6] at e2;cases e2;exact e3 _ sZZ
 have gS:(c_ ps vs)[k]? =some (cU (bk U) v):=by grind[c_]
 have Qz:∀V,(c_ ps vs).set k (cU (bk U) V)=c_ ps (vs.set k V):=λV=>SY (λp v=>cU (bk p) v) bz;have h:=St.out (h.pick 6 [4,0,1,2,3,5]) gS
 refine(afJ (nulls:=nl) (os:=ps.map bk) (vss:=vs) (row:=p.right) (gs:=x.cells) h (λh Y=>af 2 Y) rfl (λh Y=>Av mk.ln (.inr ⟨_,rfl,af 3 Y⟩)) (λh Y=>UO 4 Y rfl rfl (by grind)) (by simp[a5,mk.lv]) (by simp[a5,mk.ln]) (λh Y i q V hi c8=>?_) (λh Y=>eE.mono (aC 5 Y) ht) (λh Y=>bc.mono (aC 5 Y)) (λs hs=>⟨(b3 s hs).1,?_⟩) ?_).mono ?_
 ·rw[agS] at hi;cases hpi:ps[i]? with
  |none=>grind
  |some pi=>
   rw[hpi] at hi;cases hi
   by_cases ek:i=k
   ·grind
   ·exact .inl (agr 0 Y hpi c8 ek)
 ·grind
 ·have:=bc.1;have:=hb.2.2.2.2.2.2 p a4;omega
 rintro _ d0⟨rfl,h⟩;have am:=mk.lay iG a4;rw[be,c6] at am;have a8:(pQ nl vs v p.right).length=v.length:=Ij _ _ _ _;have cA:=K7 nl vs p.right v;have dk:=X2 (nl:=nl) hv a8 cA;have ci:=CD nl vs p.right v;have d7:=aa7 a7
 have cF:(g.T+g.N)+(g.T+g.N)*g.T<=100000:=by
  have:=ah6 (show g.T+g.N<=130 by omega) bT;omega
 have aa:(Gb nl p.right=true->bp nl k=true)->X+((bJ (pQ nl vs v p.right):Int)-bJ v)=0->∀r∈g.prods.take (j+1),ClP nl (vs.set k (pQ nl vs v p.right)) r:=λba h0 r hr=>by
  have e0:pQ nl vs v p.right=v:=Il a8 ci ω
  have e1:vs.set k v=vs:=by
   apply ahp
   grind
  grind[ClP]
 have h:=St.back h gS;rw[Qz] at h;generalize pQ nl vs v p.right=V at*;refine⟨_,_,rfl,⟨af 2 h.l,af 1 h.l,UO 4 h.l rfl rfl (by grind)⟩,ξ,λb2 hd=>?_⟩;have h:=h.drawn hd
 have a9:∀{w'},St w' [aV (c_ ps (vs.set k V)),az a0 [iI (k:Int),vS a l c3,iI p.level],az u (FC x k14 (g.T+g.N) o (g.T+g.N) c),az k14 (bv nl),own 1 o (g.T+g.N) c (pv (ps.map bk)),has H]->(Gb nl p.right=true->bp nl k=true)->aA ((j:Int)+1)/\(∃(j':Nat)(nl:List Bool)(vs:List (List Bool)),(j:Int)+1=j'/\j'<=x.pl/\0<=X+((bJ V:Int)-bJ v)/\X+((bJ V:Int)-bJ v)+Bf nl vs=Bf a6 Z/\Ph g nl vs/\(X+((bJ V:Int)-bJ v)=0->∀p∈g.prods.take j',ClP nl vs p)/\St w' [az u (FC x k14 (g.T+g.N) o (g.T+g.N) c),az k14 (bv nl),own 1 o (g.T+g.N) c (pv (ps.map bk)),aV (c_ ps vs),has H])/\x.pl-((j:Int)+1).toNat<x.pl-(j:Int).toNat:=λ{w'} h ba=>by
  refine⟨ξ,⟨j+1,nl,vs.set k V,σ,ω,ω,ω,am,aa ba,h.pick 6 [2,3,4,0,5]⟩,bR J⟩
 refine⟨λw=>sub (hp b2) (hp w),sZZ,ae (λh1=>?_) λh1=>a9 h λh2=>by grind⟩;refine⟨_,_,_,λw s=>(af (b:=u) (vs:=FC x k14 (g.T+g.N) o (g.T+g.N) c) 2 h.l).cell s (j:=5) rfl,_,λw s=>(af (b:=a0) (vs:=[iI (k:Int),vS a l c3,iI p.level]) 1 h.l).cell0 s,?_⟩;have rn:aX (hp b2) nl (some ⟨k14,0,none⟩) (g.T+g.N):=Av mk.ln (.inr ⟨_,rfl,af 3 h.l⟩);obtain⟨z,cI,e6,c9,cz⟩:=rn.dQ W;have cx:bp nl k=z:=by grind[bp]
 cases c9;refine ax rfl W ⟨z,λw s=>cz _ s,ae (λh2=>?_) λh2=>a9 h λ_=>by grind⟩;have h2:z=false:=by grind
 subst h2;intro cg hd;have h:=h.drawn hd;refine⟨λw=>sub (hp cg) (hp w),sZZ,_,_,_,λw s=>(af (b:=u) (vs:=FC x k14 (g.T+g.N) o (g.T+g.N) c) 2 h.l).cell s (j:=5) rfl,_,λw s=>(af (b:=a0) (vs:=[iI (k:Int),vS a l c3,iI p.level]) 1 h.l).cell0 s,?_⟩;refine ax rfl W ?_;rw[ak];refine aR (h.pick 6 [3,0,2,4,5]) (by grind[bv]) λdl h=>?_;have eb:(bv nl).set k (vB true)=bv (nl.set k true):=by simp[bv]
 rw[eb] at h;have ho:=Tl (nl:=nl) (k:=k) (by grind) cx;have av:=am.van iG a4 ((mk.row b3).1 h1);rw[be] at av;have dc:Bf (nl.set k true) (vs.set k V)+1=Bf nl (vs.set k V):=by grind[Bf]
 exact⟨ξ,ξ,⟨j+1,nl.set k true,vs.set k V,σ,ω,ω,ω,av,λh0=>ω,h.pick 5 [2,0,3,1,4]⟩,bR J⟩
end
def lE(g:ah)(nn:List Bool):Prop:=nn.length=g.N/\∀i:Nat,bp nn i=true↔Ik g ((g.T+i:Nat):Int)
def SyP(g:ah)(row:List Int):Prop:=∀s∈row,0<=s/\s<(g.T:Int)+g.N
theorem fD(l:List Bool)(k i:Nat):bp (l.drop k) i=bp l (k+i):=by simp[bp]
theorem lE.inj{g:ah}{bs cs:List Bool}(h:lE g bs)(k:lE g cs):bs=cs:=
 k_ (h.1.trans k.1.symm) λi=>by rw[ahN,h.2,k.2]
section
variable{w:aiA}{L:List aE}{g:ah}{x:GA}
theorem X4(hg:gR (hp w) g x)(hb:lq g):ρ 267 [.agg ⟨x.cells⟩] w λv w'=>(∃r:Bool,v=vB r/\(r=true↔bM g))/\Gr w w':=by
 refine Ew ?_;refine gi hg λW Y gw hg B=>?_;refine⟨_,_,_,_,_,_,_,_,_,_,_,_,_,B.row sZZ,(Mb (x:=x) hg hb).mono ?_⟩;rintro _ Z⟨⟨V,rfl,U⟩,g2⟩;unfold bM;rw[<-U];refine⟨_,rfl,ae (λJ=>⟨⟨true,rfl,by grind⟩,gw.trans g2⟩) λJ=>⟨_,_,_,_,_,_,_,_,_,_,_,_,_,B.row g2,(td (x:=x) (hg.mono g2) hb).mono ?_⟩⟩;rintro _ X⟨⟨u,rfl,O⟩,g3⟩;rw[<-O];exact⟨_,rfl,⟨u,rfl,by grind⟩,gw.trans (g2.trans g3)⟩
theorem Im(hg:gR (hp w) g x)(hb:lq g)(ht:dP (hp w)):ρ 179 [.agg ⟨x.cells⟩] w λv w'=>
  (¬bM g/\v=.tuple #[zS,iI 1]/\Gr w w')\/
  (bM g/\∃(k:Nat)(nl nn:List Bool),nl.length=g.T/\lE g nn/\v=.tuple #[vS (some ⟨k,g.T,none⟩) g.N g.N,iI 0]/\St w' (az k (bv (nl++nn))::all w)):=by
 refine Bc ?_;refine gi hg λk1 W gw hg B=>?_;refine⟨_,_,_,_,_,_,_,_,_,_,_,_,_,B.row sZZ,(X4 (x:=x) hg hb).mono ?_⟩;rintro _ w2⟨⟨r,rfl,e⟩,g2⟩
 refine⟨_,rfl,ae (λZ=>.inl ⟨λJ=>?_,rfl,gw.trans g2⟩) λZ=>λO hd=>?_⟩
 ·simp_all
 have J:=e.1 (by simp_all);have g3:Gr W O:=g2.trans (Gr.drawn hd);obtain⟨iG,bT,bN,pN,pT,bP⟩:=Gc J;have tl:g.T=x.tl:=hg.t.1;refine⟨λw=>Gr O w,Gr.refl _,_,_,_,_,_,_,_,_,_,_,_,_,_,λw s=>B.row (g3.trans s),_,_,_,λw s=>B.c0 (g3.trans s),(agy (x:=x) (hg.mono g3) hb J (eE.mono (gw.trans g3) ht)).mono ?_⟩;rintro _ U⟨b,u,o,c,nl,Y,vs,rfl,V,a0,h⟩;have X:sub (hp O) (hp U):=aC 4 h.l;have rb:aq (hp U) ⟨b,0,none⟩ (FC x u (g.T+g.N) o Y.length c):=af 0 h.l
 refine⟨_,rfl,λw=>sub (hp U) (hp w),sZZ,λw s=>sub.trans X s,_,_,_,λw s=>rb.cell s (j:=5) rfl,dy (lo:=x.tl) ω (agT _) (.inr ⟨J,u,nl.take g.T,nl.drop g.T,by rw[ahl,V.ln];omega,⟨by rw[ahZ,V.ln];omega,λi=>?_⟩,?_,?_⟩)⟩
 ·rw[fD];exact V.nn _
 ·rw[<-tl,show g.T+g.N-g.T=g.N from ω]
  have e:fK (some ⟨u,0,none⟩) g.T (g.T+g.N) 1=some ⟨u,g.T,none⟩:=by
   unfold fK;rw[agW ω,aif,show ff g.T 1=g.T from by rfl,ak]
  rw[e]
 ·rw[aha];exact St.on (N:=[_]) (h0:=hp O) (h.pick 5 [1,4]) (bF (gw.trans g3))
end
def dz(n:Nat)(f:Nat->Bool):List Int:=((List.range n).filter f).map Int.ofNat
def pU(l:List Int):Prop:=l.Pairwise (·<·)
theorem MU:∀{l m:List Int},pU l->pU m->(∀z,z∈l↔z∈m)->l=m
 |[],[],_,_,_=>rfl
 |[],b::m,_,_,h=>absurd ((h b).2 σ) σ
 |a::l,[],_,_,h=>absurd ((h a).1 σ) σ
 |a::l,b::m,hl,hm,h=>by
  obtain⟨l1,l2⟩:=ahM.1 hl
  obtain⟨m1,m2⟩:=ahM.1 hm
  have e:a=b:=by
   rcases ag6.1 ((h a).1 σ) with e|ha
   ·omega
   ·rcases ag6.1 ((h b).2 σ) with e|hb
    ·omega
    grind
  subst e
  rw[MU l2 m2 λz=>?_]
  grind
theorem gl{n:Nat}{f:Nat->Bool}{z:Int}:z∈dz n f↔∃k:Nat,z=k/\k<n/\f k=true:=by
 unfold dz
 grind
theorem tU(n:Nat)(f:Nat->Bool):pU (dz n f):=by
 unfold dz pU;rw[ahD];refine List.Pairwise.filter _ ?_;exact List.pairwise_lt_range.imp λh=>by simp_all
theorem pV(n:Nat)(f:Nat->Bool):(dz n f).length<=n:=by grind[dz,List.length_map,List.length_filter_le,List.range,List.length_range]
def dd:List Int->List Int
 |[]=>[]
 |[a]=>[a]
 |a::b::l=>if a=b then dd (b::l) else a::dd (b::l)
theorem MV:∀(l:List Int)(z:Int),z∈dd l↔z∈l
 |[],z=>by rfl
 |[a],z=>by rfl
 |a::b::l,z=>by
  unfold dd
  split
  ·rename_i h;subst h
   rw[MV (a::l)];simp
  ·rw[ag6,MV (b::l),ag6,ag6,ag6]
theorem MW:∀{l:List Int},l.Pairwise (·<=·)->pU (dd l)
 |[],_=>by simp[dd,pU]
 |[a],_=>by simp[dd,pU]
 |a::b::l,h=>by
  obtain⟨h1,h2⟩:=ahM.1 h
  unfold dd
  split
  ·exact MW h2
  ·rename_i hne
   refine ahM.2 ⟨λz hz=>?_,MW h2⟩
   rw[MV] at hz
   have hb:=h1 b σ
   rcases ag6.1 hz with rfl|hz
   ·omega
   grind[List.pairwise_cons]
theorem Ry:∀l:List Int,(dd l).length<=l.length
 |[]=>by simp[dd]
 |[a]=>by simp[dd]
 |a::b::l=>by
  unfold dd
  split
  ·have:=Ry (b::l);grind
  ·have:=Ry (b::l);simp_all
def Bg(g:ah)(ss:List SQ)(t:aG):Int:=if t∈bV g ss then((bV g ss).idxOf t:Int)+1 else 0
def toK(ss:List SQ)(k:aG):Int:=if k.st<0 then 0 else match dh ss k.st.toNat k.sym with
 |some j=>j+1
 |none=>0
def zy(g:ah)(nn:List Bool)(s:Int):Bool:=decide ((g.T:Int)<=s)&&bp nn (s.toNat-g.T)
def Gd(g:ah)(nn:List Bool)(row:List Int):Bool:=row.all (zy g nn)
def lF(g:ah)(nn:List Bool)(ss:List SQ)(i k:Nat):Bool:=match(bV g ss)[i]?,(bV g ss)[k]? with
 |some t,some u=>decide (dh ss t.st.toNat t.sym=some u.st)&&zy g nn u.sym
 |_,_=>false
def CH(g:ah)(nn:List Bool)(ss:List SQ)(n i:Nat):Bool:=match(bV g ss)[i]? with
 |some t=>(List.range g.prods.length).any λm=>decide (m≠0)&&match g.prods[m]? with
  |some p=>decide (p.left=t.sym)&&(List.range p.right.length).any λk=>decide ((bV g ss)[n]? =some ⟨dw ss t.st (p.right.take k),p.right.getD k 0⟩)&&Gd g nn (p.right.drop (k+1))
  |none=>false
 |none=>false
def fe(g:ah)(ss:List SQ)(q m i:Nat):Bool:=match(bV g ss)[i]?,g.prods[m]? with
 |some t,some p=>decide (m≠0)&&decide (p.left=t.sym)&&decide (dw ss t.st p.right=q)
 |_,_=>false
def xY(g:ah)(nn:List Bool)(ss:List SQ):List (List Int):=(List.range (bV g ss).length).map λi=>dz (bV g ss).length (lF g nn ss i)
def Bh(g:ah)(nn:List Bool)(ss:List SQ):List (List Int):=(List.range (bV g ss).length).map λn=>dz (bV g ss).length (CH g nn ss n)
structure np where
 st:Int
 prod:Int
 tr:List Int
deriving DecidableEq
instance:Inhabited np:=⟨⟨0,0,[]⟩⟩
def xZ(g:ah)(ss:List SQ)(q m:Nat):List np:=if dz (bV g ss).length (fe g ss q m)=[] then[] else[⟨q,m,dz (bV g ss).length (fe g ss q m)⟩]
def gm(g:ah)(ss:List SQ)(q j:Nat):List np:=(List.range j).flatMap (xZ g ss q)
def uV(g:ah)(ss:List SQ):List np:=(List.range ss.length).flatMap λq=>gm g ss q g.prods.length
theorem Bi(g:ah)(ss:List SQ)(q j:Nat):gm g ss q (j+1)=gm g ss q j++xZ g ss q j:=by simp[gm,ahA]
def Jq(g:ah)(j:Nat)(s:Int):List Nat:=(Z7 g j s).filter λi=>decide (0<i)
theorem Io{g:ah}{j:Nat}{p:aJ}(h:g.prods[j]? =some p)(s:Int):Jq g (j+1) s=Jq g j s++if s=p.left/\0<j then[j] else[]:=by grind[Jq,HX]
theorem GH(g:ah)(j:Nat)(s:Int):(Jq g j s).length<=j:=ahq (ahs _ _) (MC g j s)
theorem qU{g:ah}{s:Int}{i:Nat}:i∈Jq g g.prods.length s↔0<i/\∃p,g.prods[i]? =some p/\p.left=s:=by
 unfold Jq;rw[ahi,show Z7 g g.prods.length s=Jp g s from rfl,yG,ahc,and_comm]
section
variable{g:ah}{ss:List SQ}
theorem Rz(hA:bC g ss):∀n:Nat,(yH g ss n).Nodup
 |0=>by simp[yH]
 |n+1=>by
  cases hq:ss[n]? with
  |none=>simp only[yH,hq,ahe];exact Rz hA n
  |some q=>
   rw[tP hq,ahx]
   refine⟨Rz hA n,?_,λx hx y hy e=>?_⟩
   ·unfold ij
    have h1:=Ep hA hq
    grind
   ·subst e
    obtain⟨i,_,_,e,hi,_,_,_,rfl⟩:=lD hx
    unfold ij at hy
    grind
theorem X5(hA:bC g ss):(bV g ss).Nodup:=Rz hA _
theorem X6{α:Type}[DecidableEq α]{l:List α}(h:l.Nodup){i:Nat}{x:α}(hx:l[i]? =some x):l.idxOf x=i:=by grind
theorem GI(hA:bC g ss){i:Nat}{t:aG}(h:(bV g ss)[i]? =some t):Bg g ss t=(i:Int)+1:=by
 unfold Bg;rw[ag0 (agL h),X6 (X5 hA) h]
theorem CI(hA:bC g ss){t:aG}(h:0<Bg g ss t):∃i:Nat,Bg g ss t=(i:Int)+1/\(bV g ss)[i]? =some t:=by
 unfold Bg at h ⊢
 grind
end
section
variable{a b c d:aiz}{i j k l m n o p:Nat}{A B:Int}{w:aiA}{R:Value->WP}
theorem zA(h:new w (ψ a i j b k l c m n A d o p) λa b=>χ b (aM a) λc=>rE 195 [c] b λb c=>∃d e,b=vU [vP d,iI e]/\br (e !=0) (R (vU [zS,iI e]) c) (new c (Obj.map (Array.mk []) 0) λb c=>nn d λe=>cLs c (e.add 8) λf g h=>τ [(31,aN)] λe h=>e 0 c/\∀(_:ν) c i,e c i->bQ (c<(g:Int)) (idx f g c 2 λf=>∃g j,rA i f 2 [iI g,iI j]/\new i (oC [iI 0,iI 0] 297) λf k=>bA k (aM f) [iI g,iI j] λg=>dW1 g λj g=>nn d λk=>∃l,(∀a,g a->cL a (k.add 12) (Value.map l))/\dLi g (Addr.add (aM f) 1) λk=>aY Tryz.prog (Instr.lookup 328 (Value.map l) (iI k) false) j λj k=>∃l m n,j=vS l m n/\g k/\τ [(44,aN)] λg j=>g 0 k/\∀(_:ν) k n,g k n->bQ (k<(m:Int)) (idx l m k 1 λe=>cLi n e λh=>dW1 n λe i=>dLi i (aM f) λl=>dLs i (Addr.add (aM a) 4) λf m o=>idx f m h 3 λa=>dLs i (a.add 1) λf m o=>rEi 196 [vP d,iI l,vS f m o,vF1 197 []] e λe d=>i d/\new d (oC [iI 0,iI 0] 297) λa d=>bA d (aM a) [iI e,iI h] λd=>∃e f,rA d (aM a) 2 [iI e,iI f]/\new d (oC [iI c] 3) λa c=>aY Tryz.prog (Instr.mapEntry 346 (Value.map (some b)) (vG [iI e,iI f])) c λc d=>∃e f h i,c=vU [vS e f h,iI i]/\rS (fW1 24 [vS e f h,vS (some (aM a)) 1 1]) d λa c=>∃d e f,a=vS d e f/\aY Tryz.prog (Instr.entryStore 346 (Value.map (some b)) (iI i) (vS d e f)) c λ(_:Unit)(a:aiA)=>aA (k+1)/\nA g j (k+1) a k n) (aA (c+1)/\nA e h (c+1) n c i)) (nn d λc=>cLs i (c.add 5) λd e f=>τ [(13,kT),(77,aN)] λc d=>c none 0 0 0 i/\∀(_:ν) f g h i j,c f g h i j->bQ (i<(e:Int)) (cLs j (Addr.add (aM a) 4) λe k l=>τ [(13,kT),(83,aN)] λa e=>a f g h 0 j/\∀(_:ν) l m n o p,a l m n o p->bQ (o<(k:Int)) (aY Tryz.prog (Instr.lookup 346 (Value.map (some b)) (vG [iI i,iI o]) false) p λb c=>∃d f g,b=vS d f g/\bQ (0<(f:Int)) (rEs 132 [vS d f g] c λd f g c=>new c (oC [iI i,iI o,vS d f g] 212) λb c=>rS (fW1 208 [vS l m n,vS (some (aM b)) 1 1]) c λb c=>∃d f g,b=vS d f g/\aA (o+1)/\nD1 a e d f g (o+1) c l m n o p) (aA (o+1)/\nD1 a e l m n (o+1) c l m n o p)) (aA (i+1)/\nD1 c d l m n (i+1) p f g h i j)) (rEs 198 [vS f g h] j λc d e b=>R (vU [vS c d e,iI 0]) b)))):ρ 101 [φ a i j b k l c m n A d o p] w R:=rv Tryz.func101 h ⟨[(6,[(31,aN)]),(9,[(44,aN)]),(18,[(13,kT),(77,aN)]),(21,[(13,kT),(83,aN)])],[],[],[]⟩
theorem Ka(h:new w (ψ a i j b k l c m n A d o p) λa b=>χ b (aM a) λc=>rE 41 [c] b λb c=>∃d e f g h i,b=vU [vG [vS d e f,iI g,iI h],iI i]/\new c (oC [zS,iI 0,iI 0] 76) λb c=>bA c (aM b) [vS d e f,iI g,iI h] λc=>br (i !=0) (R (vU [vP none,iI i]) c) (∃d e f g h i j k l m n o p,rA c (aM a) 5 [vS d e f,vS g h i,vS j k l,iI m,vS n o p]/\∃q r s t u,rA c (aM b) 3 [vS q r s,iI t,iI u]/\new c (Obj.map (Array.mk []) 0) λc v=>new v (Obj.map (Array.mk []) 0) λv w=>new w (Obj.map (Array.mk []) 0) λw x=>new x (oC [vS d e f,vS g h i,vS j k l,iI m,vS n o p,vS q r s,iI t,iI u,zS,Value.map (some c),Value.map (some v),zS,Value.map (some w)] 349) λc d=>χ d (aM a) λe=>rE 289 [e] d λd e=>∃f g h i,d=vU [vS f g h,iI i]/\st1 e (Addr.add (aM c) 8) (vS f g h) λd=>χ d (aM a) λe=>rE 179 [e] d λd e=>∃f g h i,d=vU [vS f g h,iI i]/\st1 e (Addr.add (aM c) 11) (vS f g h) λd=>cLs d (Addr.add (aM c) 8) λe f g=>τ [(51,aN)] λg h=>g 0 d/\∀(_:ν) d i,g d i->bQ (d<(f:Int)) (idx e f d 2 λa=>∃b e,rA i a 2 [iI b,iI e]/\new i (oC [iI 0,iI 0] 297) λa f=>bA f (aM a) [iI b,iI e] λb=>dW1 b λe b=>∃f,(∀a,b a->cL a (Addr.add (aM c) 9) (Value.map f))/\∃c j,(∀d,b d->rA d (aM a) 2 [iI c,iI j])/\aA (d+1)/\aY Tryz.prog (Instr.mapUpdate 347 (Value.map f) (vG [iI c,iI j]) (iI (d+1))) e λ(_:Unit)(a:aiA)=>aA (d+1)/\nA g h (d+1) a d i) (cLs i (aM b) λd e f=>τ [(67,aN)] λb f=>b 0 i/\∀(_:ν) g h,b g h->bQ (g<(e:Int)) (idx d e g 2 λa=>∃d e i j k l,rA h a 2 [vS d e i,vS j k l]/\new h (oC [zS,zS] 199) λa m=>bA m (aM a) [vS d e i,vS j k l] λd=>cLs d (Addr.add (aM a) 1) λe i j=>τ [(75,aN)] λa j=>a 0 d/\∀(_:ν) d k,a d k->bQ (d<(i:Int)) (idx e i d 2 λb=>∃e f,rA k b 2 [iI e,iI f]/\new k (oC [iI 0,iI 0] 203) λb h=>bA h (aM b) [iI e,iI f] λe=>dW1 e λf e=>∃h,(∀a,e a->cL a (Addr.add (aM c) 10) (Value.map h))/\dLi e (aM b) λc=>dLi e (Addr.add (aM b) 1) λi=>aA (i+1)/\aY Tryz.prog (Instr.mapUpdate 347 (Value.map h) (vG [iI g,iI c]) (iI (i+1))) f λ(_:Unit)(b:aiA)=>aA (d+1)/\nA a j (d+1) b d k) (aA (g+1)/\nA b f (g+1) k g h)) (cLs h (Addr.add (aM a) 4) λb d e=>τ [(95,aN)] λa e=>a 0 h/\∀(_:ν) f g,a f g->bQ (f<(d:Int)) (idx b d f 3 λb=>∃d h i j k,rA g b 3 [iI d,vS h i j,iI k]/\new g (oC [iI 0,zS,iI 0] 134) λb l=>bA l (aM b) [iI d,vS h i j,iI k] λd=>bQ (0<f) (dW1 d λh d=>∃i,(∀a,d a->cL a (Addr.add (aM c) 12) (Value.map i))/\dLi d (aM b) λj=>∃k,(∀a,d a->cL a (Addr.add (aM c) 12) (Value.map k))/\dLi d (aM b) λc=>(aY Tryz.prog (Instr.lookup 328 (Value.map k) (iI c) false) h λb c=>∃h k l,b=vS h k l/\d c/\new c (oC [iI f] 3) λb c=>d c/\rS (fW1 24 [vS h k l,vS (some (aM b)) 1 1]) c λb c=>∃h k l,b=vS h k l/\d c/\aY Tryz.prog (Instr.mapUpdate 328 (Value.map i) (iI j) (vS h k l)) c λ(_:Unit)(b:aiA)=>aA (f+1)/\nA a e (f+1) b f g)/\new h (oC [iI f] 3) λb h=>d h/\aY Tryz.prog (Instr.lookup 328 (Value.map k) (iI c) false) h λc h=>∃k l m,c=vS k l m/\d h/\rS (fW1 24 [vS k l m,vS (some (aM b)) 1 1]) h λb c=>∃h k l,b=vS h k l/\d c/\aY Tryz.prog (Instr.mapUpdate 328 (Value.map i) (iI j) (vS h k l)) c λ(_:Unit)(b:aiA)=>aA (f+1)/\nA a e (f+1) b f g) (aA (f+1)/\nA a e (f+1) d f g)) (R (vU [vP (some (aM c)),iI 0]) g))))):ρ 195 [φ a i j b k l c m n A d o p] w R:=rv Tryz.func195 h ⟨[(8,[(51,aN)]),(13,[(67,aN)]),(16,[(75,aN)]),(22,[(95,aN)])],[],[],[]⟩
theorem uX{f:FuncId}{g:List Value}(h:τ [(1,aN),(13,aN)] λc d=>c A 0 w/\∀(_:ν) e h j,c e h j->bQ (h<(i:Int)) (idx b i h 1 λb=>cLi j b λi=>pj (Fn f) (rE f (iI e::iI h::g) j λb f=>b=vU []/\nn a λa=>∃b,cL f (a.add 10) (Value.map b)/\aY Tryz.prog (Instr.lookup 347 (Value.map b) (vG [iI e,iI i]) false) f λa b=>∃f,a=iI f/\aA (f-1)/\aA (h+1)/\nB c d (f-1) (h+1) b e h j)) (R (iI e) j)):ρ 196 [.pointer a,iI A,vS b i j,(.func (.func f) #[] ⟨g⟩)] w R:=rv Tryz.func196 h ⟨[(2,[(1,aN),(13,aN)])],[],[],[]⟩
theorem uZ(h:R (vU []) w):ρ 197 [iI A,iI B] w R:=rv Tryz.func197 h
abbrev pW:FuncId:=285
theorem Ez(h:new w (ψ a i j b k l c m n A d o p) λa b=>χ b (aM a) λc=>rE 195 [c] b λb c=>∃d e,b=vU [vP d,iI e]/\new c (oC [vP none] 343) λb c=>st1 c (aM b) (vP d) λc=>br (e !=0) (R (vU [zS,iI e]) c) (cLp c (aM b) λd=>rEs 340 [vP d,vF1 341 [vP (some (aM b)),vP (some (aM a))]] c λc d e b=>R (vU [vS c d e,iI 0]) b)):ρ 285 [φ a i j b k l c m n A d o p] w R:=rv Tryz.func285 h
abbrev lH:FuncId:=287
theorem zC(h:new w (ψ a i j b k l c m n A d o p) λa b=>χ b (aM a) λc=>rE 195 [c] b λb c=>∃d e,b=vU [vP d,iI e]/\new c (oC [vP none] 343) λb c=>st1 c (aM b) (vP d) λc=>br (e !=0) (R (vU [zS,iI e]) c) (cLp c (aM b) λd=>rEs 340 [vP d,vF1 342 [vP (some (aM b)),vP (some (aM a))]] c λc d e b=>R (vU [vS c d e,iI 0]) b)):ρ 287 [φ a i j b k l c m n A d o p] w R:=rv Tryz.func287 h
theorem wi{b:FuncId}{c:List Value}(h:nn a λa=>cLs w (a.add 8) λd e f=>od (e:Int) (e:Int) 24/\new w (Obj.cells (Array.mk (gD (Int.toNat (e:Int)) [zS])) 24) λa d=>new d (oC [zS] 71) λd f=>st1 f (aM d) (vS (some (aM a)) (Int.toNat (e:Int)) (Int.toNat (e:Int))) λa=>pj (Fn b) (rE b (vF1 377 [vP (some (aM d))]::c) a λa b=>a=vU []/\cLs b (aM d) λa c e=>τ [(18,aN)] λa e=>a 0 b/\∀(_:ν) b f,a b f->bQ (b<(c:Int)) (cLs f (aM d) λc g h=>idx c g b 1 λc=>cLs f c λg h i=>rE 96 [vS g h i] f λc g=>c=vU []/\dW1 g λc g=>dLs g (aM d) λh i j=>dLs g (aM d) λj k l=>idx j k b 1 λd=>dLs g d λj k l=>rEs 378 [vS j k l] c λj k l d=>g d/\rEs 132 [vS j k l] d λj k l d=>g d/\idx h i b 1 λc=>st1 d c (vS j k l) λc=>aA (b+1)/\nA a e (b+1) c b f) (cLs f (aM d) λa b c=>R (vS a b c) f))):ρ 340 [.pointer a,(.func (.func b) #[] ⟨c⟩)] w R:=rv Tryz.func340 h ⟨[(4,[(18,aN)])],[],[],[]⟩
theorem zF{a:FuncId}{b:List Value}{c:Addr}{d:Addr}(h:cLp w c λe=>nn e λe=>cLs w (e.add 8) λf g h=>τ [(14,aN)] λe h=>e 0 w/\∀(_:ν) i j,e i j->bQ (i<(g:Int)) (idx f g i 2 λf=>∃g k,rA j f 2 [iI g,iI k]/\new j (oC [iI 0,iI 0] 297) λf l=>bA l (aM f) [iI g,iI k] λg=>dW1 g λk g=>dLp g c λl=>nn l λl=>∃m,(∀a,g a->cL a (l.add 10) (Value.map m))/\∃l n,(∀a,g a->rA a (aM f) 2 [iI l,iI n])/\aY Tryz.prog (Instr.lookup 347 (Value.map m) (vG [iI l,iI n]) false) k λf k=>∃l,f=iI l/\g k/\aA (l-1)/\cLp k c λf=>nn f λf=>cLs k (f.add 5) λg m n=>idx g m (l-1) 2 λf=>cLs k (f.add 1) λg m n=>τ [(36,aN)] λf n=>f 0 k/\∀(_:ν) k o,f k o->bQ (k<(m:Int)) (idx g m k 2 λe=>∃g h,rA o e 2 [iI g,iI h]/\new o (oC [iI 0,iI 0] 203) λe j=>bA j (aM e) [iI g,iI h] λg=>dW1 g λh g=>dLi g (aM e) λj=>dLs g d λm p q=>bQ ((p:Int)<=j) (dLp g c λj=>nn j λj=>dLs g (j.add 11) λm p q=>dLi g (aM e) λj=>dLs g d λq r s=>aA (j-(r:Int))/\idx m p (j-(r:Int)) 1 λd=>dLb g d λj=>br j (dW1 h λd g=>dLp g c λh=>nn h λc=>∃h,(∀a,g a->cL a (c.add 9) (Value.map h))/\dLi g (aM e) λc=>aY Tryz.prog (Instr.lookup 347 (Value.map h) (vG [iI (l-1),iI c]) false) d λc d=>∃e,c=iI e/\g d/\aA (e-1)/\pj (Fn a) (rE a (iI i::iI (e-1)::b) d λa b=>a=vU []/\aA (k+1)/\nA f n (k+1) b k o)) (aA (k+1)/\nA f n (k+1) h k o)) (aA (k+1)/\nA f n (k+1) h k o)) (aA (i+1)/\nA e h (i+1) o i j)) (R (vU []) j)):ρ 341 [(.func (.func a) #[] ⟨b⟩),(.pointer (some c)),(.pointer (some d))] w R:=rv Tryz.func341 h ⟨[(1,[(14,aN)]),(5,[(36,aN)])],[],[],[]⟩
theorem u5{a:FuncId}{b:List Value}{c:Addr}{d:Addr}(h:new w (oC [vF1 a b] 351) λa b=>cLp b c λe=>nn e λe=>cLs b (e.add 8) λf g h=>τ [(14,aN)] λe h=>e 0 b/\∀(_:ν) b i,e b i->bQ (b<(g:Int)) (idx f g b 2 λf=>∃g j,rA i f 2 [iI g,iI j]/\new i (oC [iI 0] 3) λf k=>new k (oC [iI 0,iI 0] 297) λk l=>st1 l (aM f) (iI b) λl=>bA l (aM k) [iI g,iI j] λg=>dW1 g λj g=>dLp g c λl=>nn l λl=>∃m,(∀a,g a->cL a (l.add 12) (Value.map m))/\dLi g (Addr.add (aM k) 1) λl=>aY Tryz.prog (Instr.lookup 328 (Value.map m) (iI l) false) j λj l=>∃m n o,j=vS m n o/\g l/\τ [(27,aN)] λg j=>g 0 l/\∀(_:ν) l o,g l o->bQ (l<(n:Int)) (idx m n l 1 λb=>cLi o b λe=>cLs o (d.add 4) λb h i=>idx b h e 3 λb=>cLs o (b.add 1) λd e h=>new o (oC [zS] 24) λb i=>st1 i (aM b) (vS d e h) λd=>cLp d c λe=>cLi d (aM k) λh=>cLs d (aM b) λi k m=>rEi 196 [vP e,iI h,vS i k m,vF1 343 [vP (some c),vP (some (aM b)),vP (some (aM a)),vP (some (aM f))]] d λc b=>aA (l+1)/\nA g j (l+1) b l o) (aA (b+1)/\nA e h (b+1) o b i)) (R (vU []) i)):ρ 342 [(.func (.func a) #[] ⟨b⟩),(.pointer (some c)),(.pointer (some d))] w R:=rv Tryz.func342 h ⟨[(2,[(14,aN)]),(5,[(27,aN)])],[],[],[]⟩
theorem qv{c:Addr}{d:Addr}{e:Addr}{f:Addr}(h:dW1 w λa b=>dLp b c λg=>nn g λg=>∃h,(∀a,b a->cL a (g.add 9) (Value.map h))/\dLs b d λg i j=>idx g i B 1 λg=>dLi b g λi=>aY Tryz.prog (Instr.lookup 347 (Value.map h) (vG [iI A,iI i]) false) a λa g=>∃h,a=iI h/\b g/\dW1 g λa b=>bQ (0<h) (dLp b c λg=>dLs b d λc i j=>aA (B+1)/\lU c i j (some (B+1)) none none 1 λ(c:aiz)(d i:Nat)=>rEb 344 [vP g,vS c d i] a λd c=>b c/\br d (∃a b,cL c e (vF1 a b)/\aA (h-1)/\cLi c f λd=>pj (Fn a) (rE a (iI (h-1)::iI d::b) c λa b=>a=vU []/\R (vU []) b)) (R (vU []) c)) (R (vU []) a)):ρ 343 [iI A,iI B,(.pointer (some c)),(.pointer (some d)),(.pointer (some e)),(.pointer (some f))] w R:=rv Tryz.func343 h
theorem qx(h:new w (oC [vP a] 343) λa c=>rEb 126 [vS b i j,vF1 379 [vP (some (aM a))]] c λc b=>R (vB !c) b):ρ 344 [.pointer a,vS b i j] w R:=rv Tryz.func344 h
abbrev bQq:FuncId:=377
theorem r_{c:Addr}(h:dW1 w λa b=>dLs b c λd e f=>dLs b c λf g h=>idx f g A 1 λc=>dLs b c λf g h=>new a (oC [iI B] 3) λa c=>b c/\rS (fW1 24 [vS f g h,vS (some (aM a)) 1 1]) c λa c=>∃f g h,a=vS f g h/\b c/\idx d e A 1 λa=>st1 c a (vS f g h) λa=>R (vU []) a):ρ 377 [iI A,iI B,(.pointer (some c))] w R:=rv Tryz.func377 h
abbrev im:FuncId:=379
theorem nM{b:Addr}(h:dW1 w λa c=>dLp c b λd=>nn d λd=>dLs c d λe f g=>bQ (A<(f:Int)) (R (vB true) a) (dLp c b λd=>nn d λd=>dLs c (d.add 11) λe f g=>dLp c b λd=>nn d λb=>dLs c b λd g h=>aA (A-(g:Int))/\idx e f (A-(g:Int)) 1 λb=>dLb c b λd=>R (vB !d) a)):ρ 379 [iI A,(.pointer (some b))] w R:=rv Tryz.func379 h
end
theorem Tm:∀(l:List Int)(a b:Int),dd (l++[a,b])=if a=b then dd (l++[a]) else dd (l++[a])++[b]
 |[],a,b=>by simp_all[dd]
 |[x],a,b=>by grind[dd]
 |x::y::l,a,b=>by
  have ih:=Tm (y::l) a b
  have e1:dd (x::y::l++[a,b])=if x=y then dd (y::l++[a,b]) else x::dd (y::l++[a,b]):=rfl
  have e2:dd (x::y::l++[a])=if x=y then dd (y::l++[a]) else x::dd (y::l++[a]):=rfl
  grind
theorem GJ{xs:List Int}{m:Nat}{a b:Int}(ha:xs[m]? =some a)(hb:xs[m+1]? =some b):dd (xs.take (m+2))=if a=b then dd (xs.take (m+1)) else dd (xs.take (m+1))++[b]:=by simp_all[agR,Tm]
theorem X7{xs:List Int}{n:Nat}(h:n<=1):dd (xs.take n)=xs.take n:=by
 match n,h with
 |0,_=>rfl
 |1,_=>cases xs<;>simp[dd]
section
open Go.V Go.Sort Go.Shelf
variable{w:aiA}{L:List aE}{a:aiz}{l c:Nat}{xs:List Int}
theorem RA(h:St w (own 1 a l c (iv xs)::L))(hb:l<4611686018427387904):
  ρ 378 [vS a l c] w λv w'=>∃a' c',v=.slice a' (dd xs).length c'/\St w' (own 1 a' (dd xs).length c' (iv (dd xs))::L):=by
 have a7:=fk h;rw[cf] at a7;have V:=bD h;have hl:xs.length=l:=ω
 refine oJ (ae (λh1=>?_) λh1=>?_)
 ·have h1:l<2:=by grind
  have e:dd xs=xs:=by have:=X7 (xs:=xs) (n:=l) ω;grind
  grind
 have h1:2<=l:=by grind
 refine⟨λz w'=>∃n:Nat,z=((n+1:Nat):Int)/\n+1<=l/\dd (xs.take (n+1))=xs.take (n+1)/\St w' (own 1 a l c (iv xs)::L),λz _=>l-z.toNat,⟨0,rfl,ω,X7 (agT _),h⟩,?_⟩;clear h;rintro _ z w1⟨n,rfl,hn,hS,h⟩;refine ae (λX=>?_) λX=>?_
 rotate_left
 ·grind
 have X:n+1<l:=by grind
 intro w2 hd;have h:=h.eq (aQ hd);have W:aX (hp w2) xs a l:=bt hl (dN 0 h.l);obtain⟨x,ad,hx,rfl,cx⟩:=W.dQ X;obtain⟨z,b2,hz,e2,cz⟩:=W.dQ (by omega:n<l);cases e2;have e1:((n+1:Nat):Int)-1=(n:Int):=ω
 rw[e1];refine⟨λu=>Gr w2 u,Gr.refl _,ax rfl X ⟨x,λu s=>cx u s,ξ,ax rfl ω ⟨z,λu s=>cz u s,ae (λJ=>?_) λJ=>?_⟩⟩⟩
 rotate_left
 ·have J:x≠z:=by simp_all
  refine⟨ξ,⟨n+1,σ,X,?_,h⟩,bR X⟩;rw[GJ hz hx,agW (Ne.symm J),hS,agR (i:=n+1),hx];rfl
 have J:x=z:=by simp_all
 subst J;refine dy ω V ?_
 refine⟨λz y w'=>∃(k t:Nat)(us:List Int),z=(k:Int)/\y=((t+1:Nat):Int)/\n+1<=k/\k<=n+1+t/\n+1+t+1<=l/\us.length=l/\us.drop k=xs.drop k/\us.take k=dd (xs.take (n+1+t+1))/\St w' (own 1 (some ad) l c (iv us)::L),λ_ y _=>l-y.toNat,
  ⟨n+1,0,xs,rfl,rfl,agT _,agT _,ω,hl,rfl,?_,h⟩,?_⟩
 ·rw[show n+1+0+1=n+2 by omega,GJ hz hx,ag0 rfl,hS]
 clear h W cx cz;rintro _ _ _ w3⟨k,t,us,rfl,rfl,a8,am,ht,a0,U,O,h⟩;have al:(iv us).length=l:=by grind[cf]
 refine ae (λJ=>?_) λJ=>?_
 rotate_left
 ·have J:l=n+1+t+1:=by grind
  rw[<-J,ag4 (show xs.length<=l by omega)] at O;have b1:(dd xs).length=k:=by grind
  have hc:=KS (ty:=0) (c2:=c-k) aT (rfl:ai Ty Xa=.slice _) (rfl:Ty dX=some _) rfl rfl (λv hv=>by rcases ag6.1 hv with rfl|hv;rfl;grind) σ h (show k<=l by omega);refine dy ω V (hc.mono ?_);rintro _ w4⟨vs,hv,h⟩;refine iH ω ?_;have h:=qS h (k:=k) ω;have e:vs.take (k*1)=iv (dd xs):=hv.trans (by rw[<-O];simp[iv,List.map_take])
  grind
 have J:t+1<l-(n+1):=by grind
 intro w4 hd;have h:=h.eq (aQ hd);have W:=(bt a0 (dN 0 h.l):aX (hp w4) us (some ad) l).drop (k:=n+1) (m:=c) ω V
 have same:∀j,k<=j->us[j]? =xs[j]?:=λj hj=>by
  have:=congrArg (λl=>l[j-k]?) U;simp only[ahy] at this
  simp_all
 obtain⟨Y,av,a6,e3,cx⟩:=W.dQ J;obtain⟨z2,b3,a9,e4,cz⟩:=W.dQ (by omega:t<l-(n+1));rw[e3] at e4;cases e4;rw[ahy,same _ ω] at a6 a9;have e1:((t+1:Nat):Int)-1=(t:Int):=ω
 have a5:xs[n+1+t+1]? =some Y:=ω
 have a4:xs[n+1+t]? =some z2:=ω
 rw[e1];refine⟨λu=>Gr w4 u,Gr.refl _,ax e3 J ⟨Y,λu s=>cx u s,ξ,ax e3 ω ⟨z2,λu s=>cz u s,ae (λZ=>?_) λZ=>?_⟩⟩⟩
 rotate_left
 ·have Z:Y=z2:=by simp_all
  subst Z;refine⟨ξ,⟨k,t+1,us,rfl,σ,a8,ω,ω,a0,U,?_,h⟩,bR ω⟩;rw[O,show n+1+(t+1)+1=n+1+t+2 by omega,GJ a4 a5,ag0 rfl]
 have Z:Y≠z2:=by simp_all
 refine ax e3 J ⟨Y,cx _ (Gr.refl _),ax rfl ω ?_⟩;refine fX h rfl ω λw5 h=>?_;rw[Gx] at h
 refine⟨ξ,ξ,⟨k+1,t+1,us.set k Y,σ,σ,ω,ω,ω,by simp_all,?_,?_,h⟩,bR ω⟩
 ·rw[List.drop_set_of_lt ω,<-List.drop_drop (i:=1),U,List.drop_drop]
 ·have aa:k<us.length:=ω
  rw[show n+1+(t+1)+1=n+1+t+2 by omega,GJ a4 a5,agW (Ne.symm Z),<-O,agR,aik aa,List.take_set_of_le (agT _)];rfl
end
section
open MapKept
section
variable{κ:Type}[DecidableEq κ][MVal κ]{P:Program}{w:aiA}{L:List aE}{Ty:TypeId->Option dD}
theorem yJ(k:κ)(u v:Value):∀m:List (κ×Value),cV k v (cV k u m)=cV k v m
 |[]=>by simp[cV]
 |(a,x)::m=>by
  unfold cV
  by_cases h:k=a
  ·simp_all[cV]
  ·have e:cV k u ((a,x)::m)=(a,x)::cV k u m:=by show(if k=a then _ else _)=_;simp_all
   rw[e,agW h]
   show(if k=a then _ else(a,x)::cV k v (cV k u m))=_
   rw[agW h,yJ k u v m]
theorem acS{k:κ}{u:Value}:∀{m:List (κ×Value)}{j:Nat},assoc k m=some u->(m[j]?).map (·.1)=some k->(∀v,cV k v m=m.set j (k,v))->m[j]? =some (k,u)
 |[],j,h,_,_=>by grind
 |(a,x)::m,0,h,hk,hp=>by simp_all[assoc]
 |(a,x)::m,j+1,h,hk,hp=>by
  by_cases e:k=a
  ·simp_all[cV]
  ·have e1:assoc k ((a,x)::m)=assoc k m:=by show(if k=a then _ else _)=_;simp_all
   rw[e1] at h
   rw[aic] at hk ⊢
   refine acS h hk λv=>?_
   simp_all[cV]
def adQ(b:Nat)(m:List (κ×Value))(k:κ)(n:Int):aE:=λh=>∃es clock i,h b=some (.map es clock)/\z_ es clock m/\i<m.length/\(∀u,cV k u m=m.set i (k,u))/\(m[i]?).map (·.1)=some k/\(es[i]?).map (λe=>(e.born:Int))=some n
theorem MX{b:Nat}{m:List (κ×Value)}{k:κ}{n:Int}:St w (adQ b m k n::L)↔∃es clock i,z_ es clock m/\i<m.length/\(∀u,cV k u m=m.set i (k,u))/\(m[i]?).map (·.1)=some k/\(es[i]?).map (λe=>(e.born:Int))=some n/\St w (blk b (.map es clock)::L):=
 ⟨λ⟨Y,V,d,s1,s2,⟨es,cl,i,ha,U,W,O,J,X⟩,hl⟩=>⟨es,cl,i,U,W,O,J,X,Y,V,d,s1,s2,ha,hl⟩,λ⟨es,cl,i,U,W,O,J,X,Y,V,d,s1,s2,ha,hl⟩=>⟨Y,V,d,s1,s2,⟨es,cl,i,ha,U,W,O,J,X⟩,hl⟩⟩
theorem RB{b:Nat}{es:Array MapEntry}{cl:Nat}(hg:w.heap[b]? =some (.map es cl))(o:Array MapEntry×Nat):Ev w { w with heap:=w.heap.setIfInBounds b (.map o.1 o.2) }:=by
 refine⟨rfl,rfl,rfl,σ,?_,?_⟩<;>
 ·grind
theorem map_take(hT:ec P Ty){t kt et:TypeId}{i:dD}{z:Value}(hk:ai Ty t=.map kt et)(hkt:wU P kt κ)(hi:Ty et=some i)(hz:i.zero=some z){b:Nat}{m:List (κ×Value)}(h:St w (mapA b m::L))(k:κ):
  aY P (Instr.mapEntry t (.map (some b)) (MVal.val k)) w λv w'=>∃n:Int,v=.tuple #[(assoc k m).getD z,iI n]/\St w' (adQ b (cV k ((assoc k m).getD z) m) k n::L):=by
 obtain⟨d,hd,a6⟩:=dJ hT hk σ;rw[BX a6] at hd;obtain⟨es,cl,⟨Y,a8,a4⟩,h⟩:=mL.1 h;obtain⟨r,hf,q2,q3,q4⟩:=hkt.find w k es.toList m Y;obtain⟨a9,d2,ha⟩:=sE hT hi;have a7:(zeroValue et).run P w=.ok z w:=mR ha.inf (by rw[<-ha.zero,hz]);have J:=h.get;have hc:=λe=>hkt.check w e k;have aa:es.size=m.length:=by have:=congrArg List.length Y;grind
 cases r with
 |none=>
  have Z:assoc k m=none:=by simp_all
  rw[Z]
  refine⟨_,_,?_,RB J (es.push { key:=MVal.val k,val:=z,born:=cl },cl+1),cl,rfl,MX.2 ⟨_,_,m.length,?_,?_,?_,?_,?_,h.setObj _⟩⟩
  ·unfold Instr.mapEntry;simp only[Sem.run_bind,bn hd,Result.andThen_ok,run_getObj_map w b es cl J,hc,hf,a7];rw[run_setObj_map _ J];rfl
  ·refine⟨by simp_all,?_,?_⟩
   ·grind
   grind
  ·simp_all
  ·intro u
   show cV k u (cV k z m)=(cV k z m).set _ _
   rw[yJ,q4 rfl u,q4 rfl z];simp
  ·simp_all
  grind
 |some x=>
  obtain⟨j,u⟩:=x;obtain⟨p2,p3,p4⟩:=q3 j u rfl;have hj:j<es.size:=ω
  have Z:assoc k m=some u:=by simp_all
  have ad:m[j]? =some (k,u):=acS Z p3 p4;have W:cV k u m=m:=by simp_all[B8]
  have U:(es[j]?).map (λe=>(e.key,e.val))=some (MVal.val k,u):=by
   have h1:=congrArg (λl=>l[j]?) Y
   grind
  obtain⟨e,V,a0⟩:=aih.1 U;have O:e.key=MVal.val k:=congrArg Prod.fst a0;have a5:((es[j]?).map (·.key)).getD (MVal.val k)=MVal.val k:=by simp_all
  have X:(es.modify j λe=>{ e with key:=MVal.val k })=es:=by
   apply Array.ext_getElem?;intro i;rw[ah_]
   split
   ·rename_i hji;subst hji;rw[V,<-O];rfl
   rfl
  rw[Z]
  refine⟨_,_,?_,RB J (es,cl),(e.born:Int),rfl,MX.2 ⟨_,_,j,?_,?_,?_,?_,?_,h.setObj _⟩⟩
  ·unfold Instr.mapEntry;simp only[Sem.run_bind,bn hd,Result.andThen_ok,run_getObj_map w b es cl J,hc,hf,a5,Instr.keyThatStays,hkt.bits,if_true,Sem.run_pure,X];rw[run_setObj_map _ J];simp[V,goInt]
  ·show z_ _ _ (cV k u m)
   rw[W];exact⟨Y,a8,a4⟩
  ·simp_all
  ·simp_all
  ·simp_all
  simp_all
theorem Pl{t:TypeId}{b:Nat}{m:List (κ×Value)}{k:κ}{n:Int}(h:St w (adQ b m k n::L))(x:Value):
  aY P (Instr.entryStore t (.map (some b)) (iI n) x) w λ_ w'=>St w' (mapA b (cV k x m)::L):=by
 obtain⟨es,cl,i,⟨O,a0,Y⟩,hi,u,hm,hb,h⟩:=MX.1 h;have W:=h.get;have V:es.size=m.length:=by have:=congrArg List.length O;grind
 obtain⟨e,Z,X⟩:=aih.1 hb
 have U:es.findIdx? (λe=>(e.born:Int)==n)=some i:=by
  rw[Array.findIdx?_eq_some_iff_getElem]
  refine⟨ω,?_,λj hj=>?_⟩
  ·simp_all
  ·intro J;have J:(es[j].born:Int)=n:=by simp_all
   have h1:(es.toList.map (·.born))[j]? =some es[j].born:=by grind
   have h2:(es.toList.map (·.born))[i]? =some e.born:=by simp_all
   grind[List.getElem?_inj]
 refine⟨(),_,?_,RB W (es.modify i λe=>{ e with val:=x },cl),mL.2 ⟨_,_,?_,h.setObj _⟩⟩
 ·unfold Instr.entryStore;simp only[Sem.run_bind,run_getObj_map w b es cl W,Result.andThen_ok]
  show((asInt (iI n)).run P w).andThen _=_
  have ha:(asInt (iI n)).run P w=.ok n w:=rfl
  grind[Result.andThen_ok,run_setObj_map]
 ·refine⟨?_,?_,?_⟩
  rotate_left
  ·have:(es.modify i λe=>{ e with val:=x }).toList.map (·.born)=es.toList.map (·.born):=by
    apply ahp
    grind
   simp_all
  ·grind[List.getElem?_of_mem,List.mem_of_getElem?]
  rw[u x];apply ahp;intro j;have h1:=congrArg (λl=>l[j]?) O
  grind
end
theorem aq.part{h:Hp}{b:Nat}{vs:List Value}(r:aq h ⟨b,0,none⟩ vs)(i n:Nat):aq h ((⟨b,0,none⟩:Addr).add (ff i n)) ((vs.drop (i*n)).take n):=λj v u=>by
 rw[ahJ] at u
 split at u
 ·rw[ahy] at u
  rw[add_add,bh]
  exact r _ v u
 simp_all
theorem afL{h:Hp}{k T:Nat}{nl nn:List Bool}(r:aq h ⟨k,0,none⟩ (bv (nl++nn)))(hl:nl.length=T)(hn:0<nn.length):aX h nn (some ⟨k,T,none⟩) nn.length:=by
 have h0:aX h (nl++nn) (some ⟨k,0,none⟩) (nl.length+nn.length):=Av σ (.inr ⟨_,rfl,r⟩);have u:=h0.drop (k:=T) (m:=nl.length+nn.length) ω (agT _)
 have e:fK (some ⟨k,0,none⟩) T (nl.length+nn.length) 1=some ⟨k,T,none⟩:=by
  unfold fK;rw[agW ω,aif,show ff T 1=T from by rfl,ak]
 have J:(nl++nn).drop T=nn:=by simp_all
 rw[J,show nl.length+nn.length-T=nn.length from ω] at u;exact e▸u
end
section
variable{w:aiA}{L:List aE}{g:ah}{x:GA}
theorem Pm(hg:gR (hp w) g x)(hb:lq g)(ht:dP (hp w)):ρ 179 [.agg ⟨x.cells⟩] w λv w'=>∃(o:aiz)(n c:Nat)(e:Int),v=.tuple #[vS o n c,iI e]/\Gr w w'/\((¬bM g/\e=1/\n=0)\/(bM g/\e=0/\n=g.N/\∃nn,lE g nn/\aX (hp w') nn o n)):=by
 refine(Im hg hb ht).mono ?_
 rintro _ w' (⟨u,rfl,O⟩|⟨u,k,nl,nn,O,J,rfl,U⟩)
 ·exact⟨_,_,_,_,rfl,O,.inl ⟨u,rfl,rfl⟩⟩
 ·have:=afL U.row O (by have:=(Gc u).2.2.2.1;rw[J.1];exact this);rw[J.1] at this;exact⟨_,_,_,_,rfl,U.aP,.inr ⟨u,rfl,rfl,nn,J,this⟩⟩
end
theorem Pn{g:ah}(h:mB g):g.terms.length<=65/\g.cR.length<=64/\g.prods.length<=97/\¬g.cR[0]? =some .empty:=by
 obtain⟨W,J,bN,V,U,u⟩:=Gc (.inl h);refine⟨J,h.1.2.2.2.1,u,λO=>?_⟩;have:=h.1.2.2.2.2.2.2.2.2.2 _ (agL (i:=0) (by simpa using O))
 simp_all[lj]
theorem adR{ms:List Bool}{u:Nat}(h:u<ms.length):(bv ms)[u]? =some (vB (bp ms u)):=by simp_all[bv,qM]
theorem aa8{w:aiA}{k u:Nat}{ms:List Bool}(r:aq (hp w) ⟨k,0,none⟩ (bv ms))(h:u<ms.length):w.cell? ((⟨k,0,none⟩:Addr).add u)=some (vB (bp ms u)):=r.cell sZZ (j:=u) (adR h)
theorem GK(ms:List Bool)(u:Nat)(b:Bool):(bv ms).set u (vB b)=bv (ms.set u b):=by simp[bv]
theorem MY(n:Nat):List.replicate n (vB false)=bv (List.replicate n false):=by simp[bv]
def X8(g:ah)(nn:List Bool)(row:List Int):Prop:=∀s∈row,(g.T:Int)<=s/\bp nn (s.toNat-g.T)=true
def ClN(g:ah)(nn:List Bool)(p:aJ):Prop:=X8 g nn p.right->bp nn (p.left.toNat-g.T)=true
theorem lE.van{g:ah}{nn:List Bool}(h:lE g nn)(iG:Fi g){row:List Int}:X8 g nn row↔MT g row:=by
 refine forall_congr' λs=>imp_congr Iff.rfl ?_
 constructor
 ·rintro⟨J,u⟩;have:=(h.2 _).1 u
  grind
 ·intro hN;have hl:=hN.left iG;refine⟨hl.1,(h.2 _).2 ?_⟩
  grind
theorem adS{g:ah}{nn:List Bool}(iG:Fi g)(hl:nn.length=g.N)(hs:∀i,bp nn i=true->Ik g ((g.T+i:Nat):Int))(hc:∀p∈g.prods,ClN g nn p):lE g nn:=by
 refine⟨hl,λi=>⟨hs i,λh=>?_⟩⟩
 have key:∀s,Ik g s->bp nn (s.toNat-g.T)=true:=λs h=>by
  induction h with
  |mk p hp h1 ih=>exact hc p hp λs hs=>⟨(h1 s hs|>.left iG).1,ih s hs⟩
 have:=key _ h;rwa [show((g.T+i:Nat):Int).toNat-g.T=i from ω] at this
section
variable{w:aiA}{L:List aE}{g:ah}{x:GA}{a an:aiz}{l c nl cn:Nat}{row:List Int}{nn:List Bool}
theorem RC(hg:gR (hp w) g x)(hn:aX (hp w) nn an nl)(hnl:nn.length=g.N)(hr:aX (hp w) row a l)(hs:SyP g row)(hb:l<=4611686018427387904)(hT:g.T<=65)(hN:g.N<=65):ρ 53 [.agg ⟨x.cells⟩,vS an nl cn,vS a l c] w λv w'=>(∃r:Bool,v=vB r/\(r=true↔X8 g nn row))/\Gr w w':=by
 refine qq ?_;refine gi hg λk1 X gw hg B=>?_;have tl:g.T=x.tl:=hg.t.1;have hn:=hn.mono gw;have hr:=hr.mono gw;have a6:=hn.1;refine⟨λn w'=>∃j:Nat,n=j/\j<=l/\X8 g nn (row.take j)/\Gr X w',λn _=>l-n.toNat,⟨0,rfl,ω,λs hs=>by simp_all,Gr.refl _⟩,?_⟩;rintro _ n w2⟨j,rfl,hj,hv,g2⟩
 refine ae (λu=>?_) λu=>?_
 ·have u:j<l:=by simp_all
  obtain⟨y,ad,V,W,U⟩:=hr.dQ u;have O:=agL V;have a5:=hs y O;intro w3 hd;have g3:Gr X w3:=g2.trans (Gr.drawn hd);have no:¬((g.T:Int)<=y/\bp nn (y.toNat-g.T)=true)->(∃r:Bool,vB false=vB r/\(r=true↔X8 g nn row))/\Gr w w3:=λhn=>⟨⟨false,rfl,⟨λh=>absurd h σ,λh=>absurd (h y O) hn⟩⟩,gw.trans g3⟩
  refine⟨λw=>Gr X w,g3,ax W u ⟨y,λw s=>U _ s,_,_,_,λw s=>B.c0 s,ae (λY=>no ?_) λY=>?_⟩⟩
  ·grind
  have Y:=agO Y;have J:y.toNat-g.T<nl:=ω
  obtain⟨b,a7,a4,Z,a0⟩:=hn.dQ J;have eu:y-(x.tl:Int)=((y.toNat-g.T:Nat):Int):=ω
  refine ax W u ⟨y,λw s=>U _ s,_,_,_,λw s=>B.c0 s,ξ,?_⟩;rw[eu]
  refine ax Z J ⟨b,λw s=>a0 _ s,ae (λh3=>no ?_) λh3=>?_⟩
  ·simp_all[qM]
  ·refine⟨ξ,⟨j+1,σ,ω,λs hs=>?_,g3⟩,bR u⟩;rw[b_ V] at hs
   rcases agX.1 hs with hs|hs
   ·exact hv s hs
   simp_all[qM]
 ·have u:j=l:=by grind
  subst u;rw[ag4 (by have:=hr.1;omega)] at hv;exact⟨⟨true,rfl,by grind⟩,gw.trans g2⟩
theorem adT(hg:gR (hp w) g x)(hb:lq g)(he:bM g):ρ 15 [.agg ⟨x.cells⟩] w λv w'=>∃(k:Nat)(nn:List Bool),v=vS (some ⟨k,0,none⟩) g.N g.N/\lE g nn/\St w' (az k (bv nn)::all w):=by
 refine wg ?_;refine gi hg λk1 w1 gw hg B=>?_;obtain⟨iG,bT,bN,pN,pT,bP⟩:=Gc he;have tl:g.T=x.tl:=hg.t.1;have nl:g.N=x.nl:=hg.n.1;have pl:=hg.p.1;have gs:sub (hp w) (hp w1):=gw;have h1:=St.all w1;unfold Proofs.YtaoaemnefghnbaaGreatDoor.all at h1;generalize hH:hp w1=H at*;refine⟨_,_,_,B.c1 (aC 0 h1.l),?_⟩;rw[<-nl];refine⟨⟨ω,rfl,ω⟩,?_⟩;rw[agZ,cZ,MY];refine ag h1 λk4 w2 h2=>?_;obtain⟨Q,hQ⟩:=uU (λ(b:Bool)(w:aiA)(m:Nat)=>∃nn:List Bool,nn.length=g.N/\(∀i,bp nn i=true->Ik g ((g.T+i:Nat):Int))/\m=Fj nn+(if b then 1 else 0)/\(b=false->∀p∈g.prods,ClN g nn p)/\St w [az k4 (bv nn),has H]);obtain⟨μ,b1,al⟩:=CF (λ(y:Bool×aiA) m=>Q y.1 y.2 m)
 refine⟨λb w'=>∃m,Q b w' m,λb w=>μ (b,w),⟨Fj (List.replicate g.N false)+1,?_⟩,?_⟩
 ·rw[hQ];exact⟨List.replicate g.N false,σ,λi h=>(by grind[oy,absurd]),rfl,λh=>absurd h σ,h2⟩
 clear h2;intro _ b w3 hP;have hP:=al (b,w3) hP;dsimp only at hP;generalize hμ:μ (b,w3)=μ0 at*;rw[hQ] at hP;obtain⟨J,a8,a7,av,a6,h⟩:=hP;refine ae (λV=>?_) λV=>?_
 rotate_left
 ·exact⟨k4,J,rfl,adS iG a8 a7 (a6 V),h.eM (bF gs)⟩
 subst V;rw[ag0 rfl] at av;refine⟨λb n w'=>∃(j:Nat)(nn:List Bool),n=j/\j<=g.prods.length/\nn.length=g.N/\(∀i,bp nn i=true->Ik g ((g.T+i:Nat):Int))/\Fj nn+(if b then 1 else 0)<=Fj J/\(b=false->∀p∈g.prods.take j,ClN g nn p)/\St w' [az k4 (bv nn),has H],λ_ n _=>g.prods.length-n.toNat,⟨0,J,rfl,ω,a8,a7,σ,σ,h⟩,?_⟩;clear h a6;rintro _ b n w4⟨j,nn,rfl,hj,hl,Y,hm,hc,h⟩;refine⟨_,_,_,B.c4 (aC 1 h.l),ae (λW=>?_) λW=>?_⟩
 rotate_left
 ·have W:j=g.prods.length:=by grind
  subst W;rw[ag9] at hc
  have key:Q b w4 (Fj nn+(if b then 1 else 0)):=by
   rw[hQ];grind
  refine⟨⟨_,key⟩,?_⟩;have:=b1 (b,w4) _ key
  grind
 have W:j<g.prods.length:=by grind
 obtain⟨p,ad,vs,b2,a9,Z,ra,rl,rc,rfl,bb,aa⟩:=hg.p.get (i:=j) ω;have U:=agL b2;obtain⟨b6,a0⟩:=iG p U;have bc:=hb.2.2.2.2.2.2 p U;have ba:=aa.1;have et:g.prods.take (j+1)=g.prods.take j++[p]:=by grind[List.take_add_one]
 intro w5 hd;have h:=h.drawn hd;have X:p.left.toNat-g.T<g.N:=ω
 have eu:p.left-(x.tl:Int)=((p.left.toNat-g.T:Nat):Int):=ω
 refine⟨λw=>sub H (hp w),aC 1 h.l,_,_,_,λw s=>B.c4 s,aO a9 ω ⟨_,λw s=>Z.cell0 s,_,_,_,λw s=>B.c0 s,ξ,?_⟩⟩;rw[eu]
 have nx:∀{w':aiA}{nn':List Bool}{b':Bool},nn'.length=g.N->(∀i,bp nn' i=true->Ik g ((g.T+i:Nat):Int))->Fj nn'+(if b' then 1 else 0)<=Fj J->(b'=false->(∀p∈g.prods.take j,ClN g nn' p)/\ClN g nn' p)->St w' [az k4 (bv nn'),has H]->aA ((j:Int)+1)/\(∃(j':Nat)(nn:List Bool),(j:Int)+1=j'/\j'<=g.prods.length/\nn.length=g.N/\(∀i,bp nn i=true->Ik g ((g.T+i:Nat):Int))/\Fj nn+(if b' then 1 else 0)<=Fj J/\(b'=false->∀p∈g.prods.take j',ClN g nn p)/\St w' [az k4 (bv nn),has H])/\g.prods.length-((j:Int)+1).toNat<g.prods.length-(j:Int).toNat:=λ{w' nn' b'} a1 a2 a3 a4 a5=>by
  refine⟨ξ,⟨j+1,nn',σ,ω,a1,a2,a3,λu q hq=>?_,a5⟩,bR W⟩
  grind
 refine ax rfl X ⟨_,aa8 (af 0 h.l) ω,ae (λh4=>nx hl Y hm (λu=>⟨hc u,λ_=>h4⟩) h) λh4=>?_⟩;intro w9 am;have h:=h.drawn am;refine⟨λw=>sub H (hp w),aC 1 h.l,_,_,_,_,_,_,_,_,_,_,_,_,_,λw s=>B.row s,_,_,_,λw s=>B.c4 s,aO a9 ω ⟨_,_,_,λw s=>Z.cell s (j:=1) rfl,?_⟩⟩;have rn:aX (hp w9) nn (some ⟨k4,0,none⟩) g.N:=Av hl (.inr ⟨_,rfl,af 0 h.l⟩);refine(RC (x:=x) (hg.mono (aC 1 h.l)) rn hl (aa.mono (aC 1 h.l)) (λs Y=>⟨(a0 s Y).1,(a0 s Y).2⟩) ω bT bN).mono ?_;rintro _ b5⟨⟨r,rfl,hr⟩,b3⟩;have h:=h.gr b3
 refine⟨_,rfl,ae (λh5=>?_) λh5=>nx hl Y hm (λu=>⟨hc u,λhv=>?_⟩) h⟩
 ·have O:p.left.toNat-g.T<nn.length:=ω
  refine ax rfl X ?_;rw[ak];refine aR h (by grind[pz]) λbe h=>?_;rw[GK] at h;have bi:=Tl O h4
  refine nx (by grind) (λi hi=>?_) ?_ (λu=>absurd u σ) h
  ·rw[CG O,ahz,beq_iff_eq] at hi
   rcases hi with hi|rfl
   ·grind
   ·rw[show((g.T+(p.left.toNat-g.T):Nat):Int)=p.left from ω];refine .mk p U λs b4=>?_;obtain⟨v1,v2⟩:=hr.1 h5 s b4
    grind
  grind
 grind
end
end Go.Proofs.YtaoaemnefghnbaaGreatDoor
