/- Texts of this claim, one behind the other. -/
import Derived.Test.YtaoaemnefghnbaaGreatDoorG4
import Derived.Test.YtaoaemnefghnbaaGreatDoorG2
import Derived.Test.YtaoaemnefghnbaaGreatDoorG3
import Derived.LaidEql
set_option linter.unusedVariables false
set_option linter.unusedSectionVars false
set_option maxRecDepth 100000
set_option maxHeartbeats 16000000
namespace Go.V
end Go.V
namespace Go.Proofs.YtaoaemnefghnbaaGreatDoor
end Go.Proofs.YtaoaemnefghnbaaGreatDoor
open Go.V Go.Proofs.YtaoaemnefghnbaaGreatDoor
namespace Go.Proofs.YtaoaemnefghnbaaGreatDoor
def adU(g:ah)(e:Int)(nn:List Bool):Prop:=(¬bM g/\e=1/\nn=[])\/(bM g/\e=0/\lE g nn)
section
variable{w:aiA}{L:List aE}{g:ah}{x:GA}{a a2:aiz}{l l2 c c2:Nat}{bs:List Bool}{row:List Int}
theorem Po(hg:gR (hp w) g x)(hb:lq g)(ht:dP (hp w)):ρ 179 [.agg ⟨x.cells⟩] w λv w'=>∃(o:aiz)(n c:Nat)(e:Int)(nn:List Bool),v=.tuple #[vS o n c,iI e]/\nn.length=n/\adU g e nn/\St w' (own 1 o n c (bv nn)::all w):=by
 refine(Im hg hb ht).mono ?_
 rintro _ w' (⟨J,rfl,U⟩|⟨J,k,nl,nn,U,u,rfl,O⟩)
 ·exact⟨_,_,_,_,[],rfl,rfl,.inl ⟨J,rfl,rfl⟩,aI 1 (bF U)⟩
 ·refine⟨_,_,_,_,nn,rfl,u.1,.inr ⟨J,rfl,u⟩,?_⟩;have e:bv (nl++nn)=bv nl++(bv nn++([]++[])):=by simp[bv]
  rw[e] at O;have:=fp (pre:=bv nl) (vs:=bv nn) (cs:=[]) (post:=[]) (l:=g.N) (c:=g.N) (sz:=1) O (by rw[pz,u.1,ahH]) (by rw[ahe,pz,u.1,ahH]) (agT _)
  simp_all[pz]
end
def MZ(g:ah)(ss:List SQ)(m:List (aG×Value))(i:Nat):Prop:=∀t:aG,assoc t m=if t∈(bV g ss).take i then some (iI (((bV g ss).idxOf t:Int)+1)) else none
def Va(ss:List SQ)(m:List (aG×Value))(i:Nat)(es:List aH):Prop:=∀k:aG,assoc k m=
 if k.st<0 then none else if k.st.toNat<i then(dh ss k.st.toNat k.sym).map (λj=>iI (j+1)) else if k.st.toNat=i then(es.find? λe=>decide (e.sym=k.sym)).map (λe=>iI (e.to+1)) else none
section
variable{g:ah}{ss:List SQ}{m:List (aG×Value)}{i:Nat}
theorem MZ.start:MZ g ss [] 0:=λt=>by rfl
theorem MZ.step(hA:bC g ss)(h:MZ g ss m i){t:aG}(ht:(bV g ss)[i]? =some t):MZ g ss (cV t (iI ((i:Int)+1)) m) (i+1):=λu=>by
 rw[ft,h u,agR,ht]
 by_cases e:u=t
 ·subst e
  rw[ag0 rfl,ag0 σ,X6 (X5 hA) ht]
 simp_all
theorem MZ.all(h:MZ g ss m (bV g ss).length)(t:aG):(assoc t m).getD (iI 0)=iI (Bg g ss t):=by
 rw[h t,ag9]
 grind[Bg]
theorem Va.start:Va ss [] 0 []:=λk=>by simp[assoc]
theorem Va.step{es:List aH}(h:Va ss m i es){e:aH}(hn:e.sym∉es.map (·.sym)):Va ss (cV ⟨(i:Int),e.sym⟩ (iI (e.to+1)) m) i (es++[e]):=λk=>by
 rw[ft,h k,K4 hn]
 by_cases u:k=⟨(i:Int),e.sym⟩
 ·simp_all
 ·rw[agW u]
  split
  ·rfl
  ·split
   ·rfl
   ·split
    ·have:k.sym≠e.sym:=λh=>u (by cases k;grind)
     simp_all
    rfl
theorem Va.next{q:SQ}(hq:ss[i]? =some q)(h:Va ss m i q.2.2):Va ss m (i+1) []:=λk=>by
 rw[h k]
 split
 ·rfl
 ·by_cases J:k.st.toNat<i
  ·grind
  ·rw[agW J]
   by_cases u:k.st.toNat=i
   ·rw[ag0 u,ag0 ω,u,tQ hq,Option.map_map];rfl
   grind
theorem Va.all(h:Va ss m ss.length [])(k:aG):(assoc k m).getD (iI 0)=iI (toK ss k):=by
 rw[h k];unfold toK
 by_cases h0:k.st<0
 ·simp_all
 ·rw[agW h0,agW h0]
  grind[dh,List.getElem?_eq_none]
end
abbrev wrC(x:GA)(o:aiz)(n c:Nat)(a int:Int)(ol:aiz)(nl cl ka kt:Nat)(on:aiz)(nn cn kp:Nat):List Value:=x.cells++[vS o n c,iI a,iI int,vS ol nl cl,.map (some ka),.map (some kt),vS on nn cn,.map (some kp)]
structure X9(h:Hp)(g:ah)(ss:List SQ)(nn:List Bool)(k:Nat):Prop where
 ex:∃(x:GA)(o:aiz)(c:Nat)(a int:Int)(ol:aiz)(cl ka kt:Nat)(on:aiz)(cn kp:Nat)(ma mt:List (aG×Value))(mp:List (Int×Value)),
  aq h (aM k) (wrC x o ss.length c a int ol (bV g ss).length cl ka kt on g.N cn kp)/\gR h g x/\O_ h ss o/\aX h (bV g ss) ol (bV g ss).length/\mapA ka ma h/\MZ g ss ma (bV g ss).length/\mapA kt mt h/\Va ss mt ss.length []/\aX h nn on g.N/\mapA kp mp h/\
  ∀s:Int,∃(a:aiz)(c:Nat),(assoc s mp).getD (zS)=.slice a (Jq g g.prods.length s).length c/\aX h ((Jq g g.prods.length s).map Int.ofNat) a (Jq g g.prods.length s).length
theorem X9.mono{h h':Hp}{g:ah}{ss:List SQ}{nn:List Bool}{k:Nat}(s:sub h h')(r:X9 h g ss nn k):X9 h' g ss nn k:=by
 obtain⟨x,o,c,a,int,ol,cl,W,kt,on,cn,Z,ma,mt,mp,h1,h2,O,U,h5,X,V,Y,h9,u,J⟩:=r.ex;exact⟨x,o,c,a,int,ol,cl,W,kt,on,cn,Z,ma,mt,mp,h1.mono s,h2.mono s,O.mono s,U.mono s,fB s h5,X,fB s V,Y,h9.mono s,fB s u,λz=>by obtain⟨a,c,e,r⟩:=J z;exact⟨a,c,e,r.mono s⟩⟩
section
variable{w:aiA}{L:List aE}{g:ah}{x:GA}
theorem RD(hg:gR (hp w) g x)(hb:lq g)(ht:dP (hp w)):ρ 195 [.agg ⟨x.cells⟩] w λv w'=>∃(ss:List SQ)(ask int f:Int)(p:aiz),v=.tuple #[.pointer p,iI f]/\Fh g ss ask int f/\Gr w w'/\(f=0->∃(k:Nat)(nn:List Bool),p=some (aM k)/\lE g nn/\X9 (hp w') g ss nn k)/\(f≠0->p=none):=by
 refine Ka (gi hg λk1 w1 gw hg B=>?_);refine⟨_,_,_,_,_,_,_,_,_,_,_,_,_,B.row sZZ,(xU hg hb).mono ?_⟩;rintro _ w2⟨o,c,ss,ask,int,f,rfl,hR,h⟩;have b3:Gr w1 w2:=aC 3 h.l;have hs:=GF h.l;clear h
 refine⟨_,_,_,_,_,_,rfl,ag (St.all w2) λc5 w3 h=>aL h rfl (by simp[aK]) λU h=>ae (λJ=>?_) λJ=>?_⟩
 ·have J:f≠0:=by simp_all
  exact⟨ss,ask,int,f,none,rfl,hR,gw.trans (b3.trans h.aP),λh=>absurd h J,λ_=>rfl⟩
 have J:f=0:=by simp_all
 subst J;obtain⟨hc,hA⟩:=hR.Qs rfl;have be:=hA.J9 hc;have d7:=hA.dn.2.1;have cF:=Cz (g:=g) (λq O=>(be q O).2) ss.length;have ba:Gr w2 U:=h.aP;have bl:aq (hp U) (aM c5) [vS o ss.length c,iI ask,iI int]:=af 0 h.l;clear h;have Y:=b3.trans ba;have a9:=hg.mono Y;have cT:dP (hp U):=eE.mono (gw.trans Y) ht;have hs:=hs.mono ba;have B4:∀{u:aiA},sub (hp U) (hp u)->rowAt u ⟨k1,0,none⟩ 0 5=some x.cells:=λs=>B.row (sub.trans Y s);have pl:=hg.p.1;have d3:=hg;obtain⟨_,_,_,b4,_,_,_⟩:=id hb;refine⟨_,_,_,_,_,_,_,_,_,_,_,_,_,B4 sZZ,_,_,_,_,_,bl.at sZZ rfl,?_⟩;refine nS (St.all U) λX w5 h=>?_;have h:=dW (κ:=aG) h;refine nS h λkt w6 h=>?_;have h:=dW (κ:=aG) h;refine nS h λV w7 h=>?_;have h:=dW (κ:=Int) h;refine ag (vs:=wrC x o ss.length c ask int none 0 0 X kt none 0 0 V) h λkm w8 h=>?_;have am:Gr U w8:=aC 4 h.l;refine⟨_,_,_,_,_,_,_,_,_,_,_,_,_,B4 am,(XS (a9.mono am) hb).mono ?_⟩;rintro _ w9⟨d9,d8,d6,f2,ol,cl,rfl,cI,W⟩;obtain⟨_,c7,_,_,rfl,_⟩:=hR.one cI;rw[<-xX c7] at W ⊢;have h:=St.eM W h.l;clear W;have rL:aX (hp w9) (bV g ss) ol (bV g ss).length:=GG rfl (dN 0 h.l);have h:St w9 (az km (wrC x o ss.length c ask int none 0 0 X kt none 0 0 V)::own 2 ol (bV g ss).length cl (K2 (bV g ss))::mapA V ([]:List (Int×Value))::mapA kt ([]:List (aG×Value))::mapA X ([]:List (aG×Value))::all U):=h.pick 2 [1,0];refine⟨_,_,_,_,rfl,aR h (show 8<13 by simp) λal ha=>?_⟩;have h:St al (az km (wrC x o ss.length c ask int ol (bV g ss).length cl X kt none 0 0 V)::own 2 ol (bV g ss).length cl (K2 (bV g ss))::mapA V ([]:List (Int×Value))::mapA kt ([]:List (aG×Value))::mapA X ([]:List (aG×Value))::all U):=ha;clear ha;have a0:Gr U al:=aC 5 h.l;refine⟨_,_,_,_,_,_,_,_,_,_,_,_,_,B4 a0,(Po (a9.mono a0) hb (eE.mono a0 cT)).mono ?_⟩;rintro _ d0⟨on,n1,cn,e1,nn,rfl,b5,cz,W⟩;have h:=St.eM W h.l;clear W
 have bi:lE g nn:=by
  rcases cz with⟨J,_⟩|⟨_,_,J⟩
  ·exact absurd (.inr hc) J
  omega
 have ch:n1=g.N:=by rw[<-b5];exact bi.1
 subst ch;refine⟨_,_,_,_,rfl,aR (h.pick 2 [1,0]) (show 11<13 by simp) λb7 ha=>?_⟩;obtain⟨C,hC⟩:∃C,C=wrC x o ss.length c ask int ol (bV g ss).length cl X kt on g.N cn V:=⟨_,rfl⟩;have h:St b7 (az km C::own 1 on g.N cn (bv nn)::own 2 ol (bV g ss).length cl (K2 (bV g ss))::mapA V ([]:List (Int×Value))::mapA kt ([]:List (aG×Value))::mapA X ([]:List (aG×Value))::all U):=by rw[hC];exact ha
 clear ha;have c8:C[8]? =some (.slice ol (bV g ss).length cl):=by rw[hC];rfl
 have c9:C[9]? =some (.map (some X)):=by rw[hC];rfl
 have ck:C[10]? =some (.map (some kt)):=by rw[hC];rfl
 have bT:C[12]? =some (.map (some V)):=by rw[hC];rfl
 have e8:(bV g ss).length<=ss.length*130:=cF
 refine⟨_,_,_,(af 0 h.l).cell sZZ (j:=8) c8,λz w'=>∃(i:Nat)(ma:List (aG×Value)),z=i/\i<=(bV g ss).length/\MZ g ss ma i/\St w' (mapA X ma::az km C::own 1 on g.N cn (bv nn)::own 2 ol (bV g ss).length cl (K2 (bV g ss))::mapA V ([]:List (Int×Value))::mapA kt ([]:List (aG×Value))::all U),λz _=>(bV g ss).length-z.toNat,
  ⟨0,[],rfl,agP _,.start,h.pick 6 [5,0,1,2,3,4]⟩,?_⟩
 clear h;rintro _ _ a6⟨i,ma,rfl,hi,hN,h⟩
 refine ae (λJ=>?_) λJ=>?_
 ·have J:i<(bV g ss).length:=by simp_all
  have rT:aX (hp a6) (bV g ss) ol (bV g ss).length:=GG rfl (dN 3 h.l);obtain⟨t,e9,ht,c6,rt⟩:=xV rT J;refine aO c6 J ⟨_,_,rt.at sZZ rfl,ag h λcg bc h=>aL h rfl (by simp[aK]) λbb h=>?_⟩;intro a4 hd;have h:=h.eq (aQ hd);have cA:aq (hp a4) (aM cg) [iI t.st,iI t.sym]:=af 0 h.l;have rk:aq (hp a4) (aM km) C:=af 2 h.l;refine⟨λu=>Gr a4 u,Gr.refl _,_,λu s=>rk.cell s (j:=9) c9,_,_,λu s=>cA.at s rfl,ξ,(qO (κ:=aG) aT (rfl:ai Ty _=.map _ _) gC (h.pick 2 [1]) t _).mono ?_⟩;rintro _ ef h;exact⟨ξ,⟨i+1,_,σ,J,hN.step hA ht,h⟩,bR J⟩
 have J:i=(bV g ss).length:=by grind
 subst J;have av:sub (hp U) (hp a6):=aC 6 h.l
 refine⟨_,_,_,bl.cell0 av,λz w'=>∃(i:Nat)(mt:List (aG×Value)),z=i/\i<=ss.length/\Va ss mt i []/\St w' (mapA kt mt::mapA X ma::az km C::own 1 on g.N cn (bv nn)::own 2 ol (bV g ss).length cl (K2 (bV g ss))::mapA V ([]:List (Int×Value))::all U),λz _=>ss.length-z.toNat,
  ⟨0,[],rfl,agP _,.start,h.pick 6 [5,0,1,2,3,4]⟩,?_⟩
 clear h av;rintro _ _ cW⟨i,mt,rfl,hi,hW,h⟩;have aa:sub (hp U) (hp cW):=aC 6 h.l
 refine ae (λJ=>?_) λJ=>?_
 ·have J:i<ss.length:=by simp_all
  obtain⟨q,O⟩:∃q,ss[i]? =some q:=⟨_,agM J⟩;obtain⟨ad,eo,rs,_,re⟩:=hs i q O;have b2:=(be q (agL O)).2;have e3:=Ep hA O;refine aO eo J ⟨_,_,_,_,_,_,rs.at aa rfl,ag h λd5 ei h=>aL h rfl (by simp[aK]) λbz h=>?_⟩;have d4:aq (hp bz) (aM d5) (U5 q):=af 0 h.l
  refine⟨_,_,_,d4.cell sZZ (j:=1) rfl,λz w'=>∃(k:Nat)(mt:List (aG×Value)),z=k/\k<=q.2.2.length/\Va ss mt i (q.2.2.take k)/\St w' (mapA kt mt::mapA X ma::az km C::own 1 on g.N cn (bv nn)::own 2 ol (bV g ss).length cl (K2 (bV g ss))::mapA V ([]:List (Int×Value))::all U),λz _=>q.2.2.length-z.toNat,
   ⟨0,mt,rfl,agP _,hW,h.pick 7 [1,2,3,4,5,6]⟩,?_⟩
  clear h hW;rintro _ _ cu⟨k,mt,rfl,hk,hW,h⟩;have ca:sub (hp U) (hp cu):=aC 6 h.l;refine ae (λW=>?_) λW=>?_
  rotate_left
  ·have W:k=q.2.2.length:=by grind
   subst W;rw[ag9] at hW;exact⟨ξ,⟨i+1,mt,σ,J,hW.next O,h⟩,bR J⟩
  have W:k<q.2.2.length:=by simp_all
  obtain⟨e,ea,he,bP,red⟩:=pM re W;obtain⟨_,_,j,r',hj,dk,cC,_⟩:=dm hc hA O he;have e7:=(agN.1 cC).1;refine aO bP W ⟨_,_,red.at ca rfl,ag h λci d0 h=>aL h rfl (by simp[aK]) λb7 h=>?_⟩;intro a8 hd;have h:=h.eq (aQ hd);have b6:aq (hp a8) (aM ci) [iI e.sym,iI e.to]:=af 0 h.l;have rk:aq (hp a8) (aM km) C:=af 3 h.l;refine⟨λu=>Gr a8 u,Gr.refl _,_,λu s=>rk.cell s (j:=10) ck,_,λu s=>b6.cell0 s,_,λu s=>b6.cell s (j:=1) rfl,ξ,(qO (κ:=aG) aT (rfl:ai Ty _=.map _ _) gC (h.pick 2 [1]) ⟨(i:Int),e.sym⟩ _).mono ?_⟩;rintro _ eb h;have ht:q.2.2.take (k+1)=q.2.2.take k++[e]:=by simp_all[agR]
  have hn:e.sym∉(q.2.2.take k).map (·.sym):=λhm=>by
   have e1:q.2.2.map (·.sym)=(q.2.2.take k).map (·.sym)++e.sym::(q.2.2.drop (k+1)).map (·.sym):=by
    rw[<-ahw,<-ag7];congr 1;have:=aha (k+1) q.2.2
    simp_all
   grind
  have hW:=hW.step hn;rw[<-ht] at hW;exact⟨ξ,⟨k+1,_,σ,W,hW,h⟩,bR W⟩
 have J:i=ss.length:=by grind
 subst J;have h:=h.pick 6 [5,0,1,2,3,4]
 refine⟨_,_,_,B.c4 (sub.trans Y aa),λz w'=>∃(j:Nat)(ps:List (Int×Lq Int)),z=j/\j<=x.pl/\(∀s,j6 s ps=(Jq g j s).map Int.ofNat)/\St w' (az km C::mapA V (mV ps)::aV (mO 1 iv ps)::mapA kt mt::mapA X ma::own 1 on g.N cn (bv nn)::own 2 ol (bV g ss).length cl (K2 (bV g ss))::all U),λz _=>x.pl-z.toNat,
  ⟨0,[],rfl,agP _,λs=>rfl,?_⟩,?_⟩
 ·have h:=(St.flat (M:=[])).2 h;exact h.pick 7 [4,1,0,2,3,5,6]
 clear h;rintro _ _ cc⟨j,ps,rfl,hj,b1,h⟩;have a5:sub (hp U) (hp cc):=aC 7 h.l;refine ae (λJ=>?_) λJ=>?_
 rotate_left
 ·have J:j=x.pl:=by grind
  subst J;rw[<-pl] at b1
  refine⟨ss,ask,int,0,some (aM km),rfl,hR,gw.trans (Y.trans a5),λ_=>⟨km,nn,rfl,bi,x,o,c,ask,int,ol,cl,X,kt,on,cn,V,ma,mt,mV ps,by rw[<-hC];exact af 0 h.l,a9.mono a5,hs.mono a5,GG rfl (dN 6 h.l),?_,hN,?_,hW,Av b5 (dN 5 h.l),?_,λs=>?_⟩,λh=>absurd rfl h⟩
  ·obtain⟨hm,sm,Z⟩:=Az 4 h.l;exact fB sm Z
  ·obtain⟨hm,sm,Z⟩:=Az 3 h.l;exact fB sm Z
  ·obtain⟨hm,sm,Z⟩:=Az 1 h.l;exact fB sm Z
  have e:=b1 s;cases O:fN s ps with
  |none=>
   have e0:j6 s ps=[]:=by simp_all[j6]
   rw[e0] at e;have e1:Jq g g.prods.length s=[]:=List.map_eq_nil_iff.1 e.symm;rw[jD,O,e1];exact⟨none,0,rfl,aX.nil⟩
  |some q=>
   have e0:j6 s ps=q.2:=by simp_all[j6]
   rw[e0] at e;obtain⟨dc,sq,ho⟩:=S_ (aj (aj h.l)) O;have hl:q.2.length=(Jq g g.prods.length s).length:=by simp_all
   refine⟨q.1.1,q.1.2,by simp_all[jD,bX],?_⟩;rw[<-e,<-hl];exact(bt rfl (bH ho)).mono sq
 have J:j<x.pl:=by simp_all
 obtain⟨p,ad,vs,cx,cN,cd,ra,rl,rc,rfl,dF,eg⟩:=d3.p.get J;refine aO cN J ⟨_,_,_,_,_,cd.at (sub.trans Y a5) rfl,ag h λa7 e5 h=>aL h rfl (by simp[aK]) λej h=>ae (λh3=>?_) λh3=>?_⟩
 rotate_left
 ·have h3:¬0<j:=by simp_all
  exact⟨ξ,⟨j+1,ps,σ,J,λs=>by rw[Io cx,agW (λh=>h3 h.2),ahe];simp_all,h.pick 8 [1,2,3,4,5,6,7]⟩,bR J⟩
 have h3:0<j:=by simp_all
 intro e4 hd;have h:=h.eq (aQ hd);have cm:∀{u:aiA}{L':List aE},St u (az km C::L')->u.cell? ((aM km).add 12)=some (.map (some V)):=λh=>(af 0 h.l).cell sZZ (j:=12) bT;have cp:∀{u:aiA}{L':List aE},St u (az a7 [iI p.left,vS ra rl rc,iI p.level]::L')->u.cell? (aM a7)=some (iI p.left):=λh=>(af 0 h.l).cell0 sZZ
 refine⟨λu=>u.cell? ((aM km).add 12)=some (.map (some V))/\u.cell? (aM a7)=some (iI p.left),⟨cm (h.pick 2 [1]),cp h⟩,_,λu hu=>hu.1,_,λu hu=>hu.2,_,λu hu=>hu.1,_,λu hu=>hu.2,?_,?_⟩
 ·refine(cr (κ:=Int) aT (rfl:ai Ty _=.map _ _) bL rfl rfl (h.pick 3 [2]) p.left).mono ?_;rintro _ _⟨rfl,rfl⟩;obtain⟨q,M,e1,e2,O,back⟩:=uP rfl (h.pick 4 [3,0,1,2]) p.left;have b2:q.2.length<=j:=by simp_all[GH]
  refine⟨_,_,_,e1,⟨cm (O.pick 4 [3]),cp (O.pick 3 [2])⟩,ag O λdl a6 h=>⟨⟨cm (h.pick 5 [4]),cp (h.pick 4 [3])⟩,?_⟩⟩;refine(aS (us:=iv q.2) aT (rfl:ai Ty _=.slice _) (rfl:ai Ty _=.slice _) rfl rfl rfl h rfl (by simp[aK]) (by grind) ω).mono ?_;rintro _ bc⟨o,c',rfl,h⟩;refine⟨_,_,_,rfl,⟨cm (h.pick 5 [4]),cp (h.pick 4 [3])⟩,(dr (κ:=Int) aT (rfl:ai Ty _=.map _ _) bL (h.pick 6 [5,0,2,4]) p.left _).mono ?_⟩;rintro _ bb h;have h:=A6 back (q.2++[(j:Int)]) σ (by simp[iv]) h;exact⟨ξ,⟨j+1,_,σ,J,λs=>by grind[nk,Io],h.pick 3 [2,0,1]⟩,bR J⟩
 ·refine ag h λe6 a4 h=>⟨⟨cm (h.pick 3 [2]),cp (h.pick 2 [1])⟩,(cr (κ:=Int) aT (rfl:ai Ty _=.map _ _) bL rfl rfl (h.pick 4 [3]) p.left).mono ?_⟩;rintro _ _⟨rfl,rfl⟩;obtain⟨q,M,e1,e2,O,back⟩:=uP rfl (h.pick 5 [4,0,1,2,3]) p.left;have b2:q.2.length<=j:=by simp_all[GH]
  refine⟨_,_,_,e1,⟨cm (O.pick 5 [4]),cp (O.pick 4 [3])⟩,?_⟩;refine(aS (us:=iv q.2) aT (rfl:ai Ty _=.slice _) (rfl:ai Ty _=.slice _) rfl rfl rfl (O.pick 3 [2,0,1]) rfl (by simp[aK]) (by grind) ω).mono ?_;rintro _ bc⟨o,c',rfl,h⟩;refine⟨_,_,_,rfl,⟨cm (h.pick 5 [4]),cp (h.pick 4 [3])⟩,(dr (κ:=Int) aT (rfl:ai Ty _=.map _ _) bL (h.pick 6 [5,0,2,4]) p.left _).mono ?_⟩;rintro _ bb h;have h:=A6 back (q.2++[(j:Int)]) σ (by simp[iv]) h;exact⟨ξ,⟨j+1,_,σ,J,λs=>by grind[nk,Io],h.pick 3 [2,0,1]⟩,bR J⟩
end
def de(n:Nat)(P:Nat->Int->Prop)(B k:Nat)(L:List aE)(w:aiA):Prop:=∃(o:aiz)(c:Nat)(es:List (Lq Int)),es.length=n/\(∀i q,es[i]? =some q->(∀z,z∈q.2↔P i z)/\q.2.length<=B)/\St w (az k [vS o n c]::own 1 o n c (es.map bX)::aV (es.map (bI 1 iv))::L)
theorem de.iff{n B k:Nat}{P Q:Nat->Int->Prop}{L:List aE}{w:aiA}(h:de n P B k L w)(hpq:∀i z,i<n->(P i z↔Q i z)):de n Q B k L w:=by
 obtain⟨o,c,es,J,U,u⟩:=h;refine⟨o,c,es,J,λi q O=>⟨λz=>?_,(U i q O).2⟩,u⟩
 grind
theorem de.gr{n B k:Nat}{P:Nat->Int->Prop}{L:List aE}{w w':aiA}(h:de n P B k L w)(g:Gr w w'):de n P B k L w':=by
 obtain⟨o,c,es,J,O,u⟩:=h;exact⟨o,c,es,J,O,u.gr g⟩
theorem de.gw{n B k:Nat}{P:Nat->Int->Prop}{w0 w:aiA}(h:de n P B k (all w0) w):Gr w0 w:=by
 obtain⟨o,c,es,J,O,u⟩:=h;exact aC 3 u.l
def X_(n:Nat)(P:Nat->Int->Prop)(ds:List (Lq Int)):Prop:=ds.length=n/\∀i q,ds[i]? =some q->pU q.2/\∀z,z∈q.2↔P i z
section
variable{w:aiA}{L:List aE}{g:ah}{x:GA}
theorem Ya{n a B k:Nat}{b:Int}{P:Nat->Int->Prop}(h:de n P B k L w)(ha:a<n)(hB:(B+1)*8<=140737488355328):ρ bQq [iI (a:Int),iI b,vP (some (aM k))] w λv w'=>v=.tuple (Array.mk [])/\de n (λi z=>P i z\/i=a/\z=b) (B+1) k L w':=by
 refine r_ ?_;intro w1 hd;have h:=h.gr (Gr.drawn hd);obtain⟨o,c,es,a0,W,h⟩:=h;obtain⟨q,hq⟩:∃q,es[a]? =some q:=⟨_,agM ω⟩;have Z:=(W a q hq).2;have hA:(es.map (bI 1 iv))[a]? =some (bI 1 iv q):=by simp_all
 have hV:(es.map bX)[a]? =some (bX q):=by simp_all
 have h:=St.out (h.pick 3 [2,0,1]) hA;have h:St w1 (own 1 q.1.1 q.2.length q.1.2 (iv q.2)::aV ((es.map (bI 1 iv)).eraseIdx a)::az k [vS o n c]::own 1 o n c (es.map bX)::L):=h;obtain⟨U,rfl,X⟩:=cO (h.pick 4 [3]) hV;refine⟨λu=>u.cell? (aM k)=some (vS (some U) n c)/\u.cell? (U.add a)=some (bX q),⟨(af 2 h.l).cell0 sZZ,X⟩,_,_,_,λu V=>V.1,_,_,_,λu V=>V.1,ax rfl ha ⟨_,_,_,λu V=>V.2,ag h λk7 w5 h=>?_⟩⟩;have Y:∀{u:aiA}{L':List aE},St u (own 1 (some U) n c (es.map bX)::L')->u.cell? (U.add a)=some (bX q):=λh=>by grind[cO]
 refine⟨⟨(af 3 h.l).cell0 sZZ,Y (h.pick 5 [4])⟩,?_⟩;refine(aS (us:=iv q.2) aT (rfl:ai Ty _=.slice _) (rfl:ai Ty _=.slice _) rfl rfl rfl h rfl (by simp[aK]) (by grind) ω).mono ?_;rintro _ w6⟨O,J,rfl,h⟩;refine⟨_,_,_,rfl,⟨(af 3 h.l).cell0 sZZ,Y (h.pick 5 [4])⟩,ax rfl ha (fX (h.pick 5 [4,0,2,3]) rfl (by simp_all) λw7 h=>?_)⟩
 refine⟨rfl,some U,c,es.set a ((O,J),q.2++[b]),by simp_all,λi r hr=>?_,?_⟩
 ·grind
 ·have e1:(vS O (q.2.length+1) J:Value)=bX (((O,J),q.2++[b]):Lq Int):=by simp[bX]
  have e2:own 1 O (q.2.length+1) J (iv q.2++[iI b])=bI 1 iv (((O,J),q.2++[b]):Lq Int):=by simp[bI,iv]
  have h:St w7 (own 1 (some U) n c ((es.map bX).set a (vS O (q.2.length+1) J))::own 1 O (q.2.length+1) J (iv q.2++[iI b])::aV ((es.map (bI 1 iv)).eraseIdx a)::az k [vS (some U) n c]::L):=h;rw[e1,<-ahn] at h;have h:=St.back (B:=own 1 O (q.2.length+1) J (iv q.2++[iI b])) (h.pick 4 [1,2,0,3]) hA;rw[e2,<-ahn] at h;exact h.pick 3 [2,1,0]
theorem Tn{n k:Nat}{ss:List SQ}{nn:List Bool}{fg:FuncId}{fc:List Value}{P:Nat->Int->Prop}(hw:X9 (hp w) g ss nn k)(hn:(bV g ss).length=n)(hn2:n<=33280)(hF:Fn fg=true)
  (hE:∀(k4:Nat)(w0:aiA),de n (λ_ _=>False) 0 k4 (all w) w0->ρ fg (.func (.func bQq) (Array.mk []) (Array.mk [vP (some (aM k4))])::fc) w0 λv w'=>v=.tuple (Array.mk [])/\∃B,B<=4611686018427387/\de n P B k4 (all w) w'):
  ρ 340 [vP (some (aM k)),.func (.func fg) (Array.mk []) (Array.mk fc)] w λv w'=>∃(o:aiz)(c:Nat)(ds:List (Lq Int)),v=vS o n c/\X_ n P ds/\St w' (own 1 o n c (ds.map bX)::aV (ds.map (bI 1 iv))::all w):=by
 obtain⟨x,o,c,a,int,ol,cl,ka,kt,on,cn,kp,ma,mt,mp,rk,hg,hs,rT,_,_,_,_,_,_,_⟩:=hw.ex;rw[hn] at rk;refine wi ⟨_,_,_,rk.cell sZZ (j:=8) rfl,⟨ω,rfl,ω⟩,?_⟩;rw[agZ];have e0:gD n [(zS:Value)]=(List.replicate n (((none,0),[]):Lq Int)).map bX:=by simp[cZ,bX]
 rw[e0];refine ag (St.all w) λk3 w1 h=>ag h λk4 w2 h=>aR h σ λZ h=>a_.2 ⟨hF,?_⟩;have h:St Z (az k4 [vS (some (aM k3)) n n]::az k3 ((List.replicate n (((none,0),[]):Lq Int)).map bX)::all w):=h;have h:St Z (own 1 (some (aM k3)) n n ((List.replicate n (((none,0),[]):Lq Int)).map bX)::az k4 [vS (some (aM k3)) n n]::all w):=bg (cs:=[]) (show St Z (az k3 ((List.replicate n (((none,0),[]):Lq Int)).map bX++[])::az k4 [vS (some (aM k3)) n n]::all w) by rw[ahe];exact h.pick 2 [1,0]) σ σ (agT _);have h:=B6 (A:=bI 1 iv ((none,0),[])) (λw L h=>aI 1 h) n h;rw[<-List.map_replicate] at h
 have a0:de n (λ_ _=>False) 0 k4 (all w) Z:=by
  refine⟨_,_,List.replicate n (((none,0),[]):Lq Int),σ,λi q X=>?_,h.pick 3 [2,1,0]⟩
  grind
 clear h;refine(hE k4 Z a0).mono ?_;rintro _ w4⟨rfl,B,hB,o4,c4,es,O,J,h⟩
 refine⟨rfl,_,_,_,(af 0 h.l).cell0 sZZ,λz w'=>∃(i:Nat)(es:List (Lq Int)),z=i/\i<=n/\es.length=n/\(∀j q,es[j]? =some q->(∀z,z∈q.2↔P j z)/\q.2.length<=B/\(j<i->pU q.2))/\St w' (az k4 [vS o4 n c4]::own 1 o4 n c4 (es.map bX)::aV (es.map (bI 1 iv))::all w),λz _=>n-z.toNat,
  ⟨0,es,rfl,agP _,O,λj q X=>⟨(J j q X).1,(J j q X).2,λh=>absurd h ω⟩,h⟩,?_⟩
 clear h J O;rintro _ _ w5⟨i,es,rfl,hi,O,J,h⟩;refine ae (λU=>?_) λU=>?_
 rotate_left
 ·have U:i=n:=by grind
  refine⟨_,_,_,(af 0 h.l).cell0 sZZ,o4,c4,es,rfl,⟨O,λj q X=>?_⟩,h.pick 3 [1,2]⟩
  grind
 have U:i<n:=by simp_all
 obtain⟨q,X⟩:∃q,es[i]? =some q:=⟨_,agM ω⟩;obtain⟨a8,a7,_⟩:=J i q X;have hA:(es.map (bI 1 iv))[i]? =some (bI 1 iv q):=by simp_all
 have hV:(es.map bX)[i]? =some (bX q):=by simp_all
 have h:=St.out (h.pick 3 [2,0,1]) hA;have h:St w5 (own 1 q.1.1 q.2.length q.1.2 (iv q.2)::aV ((es.map (bI 1 iv)).eraseIdx i)::az k4 [vS o4 n c4]::own 1 o4 n c4 (es.map bX)::all w):=h;obtain⟨W,rfl,a5⟩:=cO (h.pick 4 [3]) hV;have cc:∀{u:aiA}{L':List aE},St u (own 1 (some W) n c4 (es.map bX)::L')->u.cell? (W.add i)=some (bX q):=λh=>by grind[cO]
 refine⟨_,_,_,(af 2 h.l).cell0 sZZ,ax rfl U ⟨_,_,_,a5,(S5 h ω).mono ?_⟩⟩;rintro _ w6⟨rfl,h⟩;refine⟨rfl,?_⟩;intro w7 hd;have h:=h.eq (aQ hd);generalize hso:(q.2.mergeSort λx y=>decide (x<=y))=so at h;have a9:∀z,z∈so↔z∈q.2:=λz=>by grind[List.mem_mergeSort]
 have aa:so.Pairwise (·<=·):=by
  have:=List.pairwise_mergeSort (le:=λx y:Int=>decide (x<=y)) (λa b c U h2=>by grind) (λa b=>by grind) q.2
  simp_all
 have al:so.length=q.2.length:=by grind[List.length_mergeSort]
 refine⟨λu=>u.cell? (aM k4)=some (vS (some W) n c4)/\u.cell? (W.add i)=some (bX q),⟨(af 2 h.l).cell0 sZZ,cc (h.pick 4 [3])⟩,_,_,_,λu Y=>Y.1,_,_,_,λu Y=>Y.1,ax rfl U ⟨_,_,_,λu Y=>Y.2,(RA h ω).mono ?_⟩⟩;rintro _ am⟨V,c',rfl,h⟩;refine⟨_,_,_,rfl,⟨(af 2 h.l).cell0 sZZ,cc (h.pick 4 [3])⟩,bm (bS (bD h) ?_)⟩;have h:=cq h;refine⟨_,_,_,rfl,⟨(af 2 h.l).cell0 sZZ,cc (h.pick 4 [3])⟩,ax rfl U (fX (h.pick 4 [3,0,1,2]) rfl (by simp_all) λa4 h=>?_)⟩;have a6:=Ry so
 refine⟨ξ,⟨i+1,es.set i ((fK V 0 (dd so).length 1,(dd so).length),dd so),σ,U,by simp_all,λj r hr=>?_,?_⟩,bR U⟩
 ·grind[List.getElem?_set_self,dd,MW,MV,List.getElem?_set_ne]
 ·have e1:(.slice (fK V 0 (dd so).length 1) (dd so).length (dd so).length:Value)=bX (((fK V 0 (dd so).length 1,(dd so).length),dd so):Lq Int):=rfl;have h:St a4 (own 1 (some W) n c4 ((es.map bX).set i (.slice (fK V 0 (dd so).length 1) (dd so).length (dd so).length))::own 1 (fK V 0 (dd so).length 1) (dd so).length (dd so).length (iv (dd so))::aV ((es.map (bI 1 iv)).eraseIdx i)::az k4 [vS (some W) n c4]::all w):=h;rw[e1,<-ahn] at h;have h:=St.back (B:=own 1 (fK V 0 (dd so).length 1) (dd so).length (dd so).length (iv (dd so))) (h.pick 4 [1,2,0,3]) hA;rw[show own 1 (fK V 0 (dd so).length 1) (dd so).length (dd so).length (iv (dd so))=bI 1 iv (((fK V 0 (dd so).length 1,(dd so).length),dd so):Lq Int) from rfl,<-ahn] at h;exact h.pick 3 [2,1,0]
end
section
variable{g:ah}{ss:List SQ}{nn:List Bool}
theorem M0{s:Int}(h:zy g nn s=true):(g.T:Int)<=s:=by simp_all[zy,agQ]
def V5(g:ah)(nn:List Bool)(ss:List SQ)(j0:Nat)(es:List aH)(z:Int):Prop:=∃e∈es,zy g nn e.sym=true/\Bg g ss ⟨(j0:Int),e.sym⟩=z+1
theorem V5.snoc{j0:Nat}{es:List aH}{e:aH}{z:Int}:V5 g nn ss j0 (es++[e]) z↔V5 g nn ss j0 es z\/(zy g nn e.sym=true/\Bg g ss ⟨(j0:Int),e.sym⟩=z+1):=by
 unfold V5;simp
theorem V5.all(hc:aw g)(hA:bC g ss){i j0:Nat}{t:aG}{r:SQ}(ht:(bV g ss)[i]? =some t)(hnx:dh ss t.st.toNat t.sym=some (j0:Int))(hr:ss[j0]? =some r)(z:Int):V5 g nn ss j0 r.2.2 z↔z∈dz (bV g ss).length (lF g nn ss i):=by
 rw[gl]
 constructor
 ·rintro⟨e,he,Z,h2⟩
  have W:0<Bg g ss ⟨(j0:Int),e.sym⟩:=by
   obtain⟨k,hk⟩:=ahb he;have:=Ru hr hk (M0 Z)
   grind[GI]
  grind[CI,List.getElem?_eq_some_iff,lF]
 ·rintro⟨u,rfl,X,h⟩;unfold lF at h;rw[ht,agM X] at h;simp only[ag1,ahc] at h;obtain⟨Z,h2⟩:=h;have O:(bV g ss)[u]? =some (bV g ss)[u]:=agM X;obtain⟨V,q',k',e',a5,J,U,a4,a0⟩:=lD (agL O);have Y:(V:Int)=j0:=by simp_all
  have Y:V=j0:=ω
  subst Y;rw[hr] at J;cases J;refine⟨e',agL U,by simp_all,?_⟩
  grind[GI]
end
section
variable{w:aiA}{L:List aE}{g:ah}{x:GA}{ss:List SQ}{nn:List Bool}
theorem adV{t:aG}{j0:Nat}(h0:0<=t.st)(h:dh ss t.st.toNat t.sym=some (j0:Int)):toK ss t=(j0:Int)+1:=by simp_all[toK,agW]
theorem Vb{n kw kc k1 k4:Nat}{w0:aiA}(hw:X9 (hp w) g ss nn kw)(hcl:aw g)(hA:bC g ss)(hnn:lE g nn)(hkc:aq (hp w) (aM kc) [vP (some (aM kw))])(B:GB (hp w) k1 x)(hTl:g.T=x.tl)(hn:(bV g ss).length=n)(hn2:n<=33280)
  (hR:de n (λ_ _=>False) 0 k4 (all w) w0):
  ρ 341 [.func (.func bQq) (Array.mk []) (Array.mk [vP (some (aM k4))]),vP (some (aM kc)),vP (some (aM k1))] w0 λv w'=>v=.tuple (Array.mk [])/\∃B,B<=4611686018427387/\de n (λi z=>z∈dz n (lF g nn ss i)) B k4 (all w) w':=by
 obtain⟨x',o,c,a,int,ol,cl,ka,kt,on,cn,kp,ma,mt,mp,rk,hg,hs,rT,c5,hN,b5,b4,rN,_,_⟩:=hw.ex;rw[hn] at rk rT;have bT:=hA.J9 hcl;obtain⟨sT,sN,sP,_,_,_⟩:=hcl.cK;have c7:=hA.dn.2.1;have g0:Gr w w0:=hR.gw
 refine zF ⟨_,hkc.cell0 g0,_,_,_,rk.cell g0 (j:=8) rfl,λz w'=>∃(i B:Nat),z=i/\i<=n/\B<=i*130/\de n (λj z=>j<i/\z∈dz n (lF g nn ss j)) B k4 (all w) w',λz _=>n-z.toNat,
  ⟨0,0,rfl,agP _,agP _,hR.iff λj z _=>⟨λh=>h.elim,λh=>absurd h.1 ω⟩⟩,?_⟩
 clear hR;rintro _ _ w1⟨i,B0,rfl,hi,cd,hR⟩;have g1:Gr w w1:=hR.gw;refine ae (λX=>?_) λX=>?_
 rotate_left
 ·have X:i=n:=by grind
  subst X;exact⟨rfl,B0,ω,hR.iff λj z hj=>⟨λh=>h.2,λh=>⟨hj,h⟩⟩⟩
 have X:i<n:=by simp_all
 obtain⟨t,d6,ht,b6,rt⟩:=xV rT X;obtain⟨i0,q0,k0,e0,d4,d7,cA,cc,d3⟩:=lD (agL ht);have Y:dh ss t.st.toNat t.sym=some e0.to:=by grind[xW]
 obtain⟨c8,a8⟩:=d_ hcl hA Y;obtain⟨J,b7⟩:∃J:Nat,e0.to=J:=⟨e0.to.toNat,ω⟩;rw[b7] at Y a8;have ad:J<ss.length:=ω
 obtain⟨r,hr⟩:∃r,ss[J]? =some r:=⟨_,agM ad⟩;have cg:=(bT r (agL hr)).2;have a7:0<=t.st:=by simp_all
 have hk:toK ss t=(J:Int)+1:=adV a7 Y;obtain⟨o9,c9,es,bc,Z,h⟩:=hR;refine aO b6 X ⟨_,_,rt.at g1 rfl,ag h λk3 w2 h=>aL h rfl (by simp[aK]) λw3 h=>?_⟩;intro w4 hd;have h:=h.eq (aQ hd);have g4:Gr w w4:=aC 4 h.l;have r3:aq (hp w4) (aM k3) [iI t.st,iI t.sym]:=af 0 h.l;refine⟨λu=>Gr w4 u,Gr.refl _,_,λu s=>hkc.cell0 (sub.trans g4 s),_,λu s=>rk.cell (sub.trans g4 s) (j:=10) rfl,_,_,λu s=>r3.at s rfl,(eW (κ:=aG) b5 g4 aT (rfl:ai Ty _=.map _ _) gC rfl rfl t).mono ?_⟩;rintro _ w8⟨rfl,e8⟩;rw[e8,b4.all,hk];obtain⟨cu,eo,rs,_,re⟩:=hs J r hr;have e9:((J:Int)+1)-1=(J:Int):=ω
 refine⟨_,rfl,Gr.refl _,ξ,_,hkc.cell0 g4,_,_,_,rk.cell g4 (j:=5) rfl,?_⟩;rw[e9];have hR:de n (λj z=>j<i/\z∈dz n (lF g nn ss j)) B0 k4 (all w) w4:=⟨o9,c9,es,bc,Z,h.pick 4 [1,2,3]⟩;clear h Z
 refine aO eo ad ⟨_,_,_,rs.cell g4 (j:=1) rfl,λz w'=>∃(k B1:Nat),z=k/\k<=r.2.2.length/\B1<=B0+k/\de n (λj z=>j<i/\z∈dz n (lF g nn ss j)\/j=i/\V5 g nn ss J (r.2.2.take k) z) B1 k4 (all w) w',λz _=>r.2.2.length-z.toNat,
  ⟨0,B0,rfl,agP _,agT _,hR.iff λj z _=>⟨.inl,λh=>h.elim id λh=>by obtain⟨_,e,he,_⟩:=h;simp_all⟩⟩,?_⟩
 clear hR;rintro _ _ w9⟨k,B1,rfl,d5,cT,hR⟩;have g9:Gr w w9:=hR.gw;refine ae (λV=>?_) λV=>?_
 rotate_left
 ·have V:k=r.2.2.length:=by grind
  rw[V,ag9] at hR;refine⟨ξ,⟨i+1,B1,σ,X,ω,hR.iff λj z _=>?_⟩,bR X⟩;rw[V5.all hcl hA ht Y hr,hn]
  grind
 have V:k<r.2.2.length:=by simp_all
 obtain⟨e,d8,he,b3,red⟩:=pM re V;have b2:r.2.2.take (k+1)=r.2.2.take k++[e]:=by simp_all[agR]
 obtain⟨cp,cI,_⟩:=dm hcl hA hr he;obtain⟨be,bz,am,a0,W,h⟩:=hR;refine aO b3 V ⟨_,_,red.at g9 rfl,ag h λk8 ch h=>aL h rfl (by simp[aK]) λcW h=>?_⟩;intro U ba;have h:=h.eq (aQ ba);have O:Gr w U:=aC 4 h.l;have r8:aq (hp U) (aM k8) [iI e.sym,iI e.to]:=af 0 h.l;have hR:de n (λj z=>j<i/\z∈dz n (lF g nn ss j)\/j=i/\V5 g nn ss J (r.2.2.take k) z) B1 k4 (all w) U:=⟨be,bz,am,a0,W,h.pick 4 [1,2,3]⟩
 have skip:zy g nn e.sym≠true->aA ((k:Int)+1)/\(∃(k' aa:Nat),(k:Int)+1=k'/\k'<=r.2.2.length/\aa<=B0+k'/\de n (λj z=>j<i/\z∈dz n (lF g nn ss j)\/j=i/\V5 g nn ss J (r.2.2.take k') z) aa k4 (all w) U)/\r.2.2.length-((k:Int)+1).toNat<r.2.2.length-(k:Int).toNat:=λhv=>by
  refine⟨ξ,⟨k+1,B1,σ,V,ω,hR.iff λj z _=>?_⟩,bR V⟩
  grind[V5.snoc]
 refine⟨λu=>Gr U u,Gr.refl _,_,λu s=>r8.cell0 s,_,_,_,λu s=>B.c0 (sub.trans O s),ae (λh3=>?_) λh3=>skip λhv=>?_⟩
 rotate_left
 ·grind[M0,of_decide_eq_false]
 have h3:(g.T:Int)<=e.sym:=by grind
 obtain⟨m,hm⟩:∃m:Nat,e.sym-(x.tl:Int)=m:=⟨(e.sym-(x.tl:Int)).toNat,ω⟩;have a6:m<g.N:=ω
 have ca:zy g nn e.sym=bp nn m:=by
  unfold zy;rw[aht h3,aiv,show e.sym.toNat-g.T=m by omega]
 obtain⟨bb,bi⟩:∃bb,nn[m]? =some bb:=⟨_,agM (by rw[hnn.1];omega)⟩;have ci:bp nn m=bb:=by grind[bp]
 obtain⟨cF,d0,av,bP,c6⟩:=rN.dQ a6;rw[bi] at av;cases av;refine⟨_,λu s=>hkc.cell0 (sub.trans O s),_,_,_,λu s=>rk.cell (sub.trans O s) (j:=11) rfl,_,λu s=>r8.cell0 s,_,_,_,λu s=>B.c0 (sub.trans O s),ξ,?_⟩;rw[hm];refine ax bP a6 ⟨bb,λu s=>c6 _ (sub.trans O s),ae (λh4=>?_) λh4=>skip (by grind)⟩;subst h4;have cN:=Ru hr he h3;obtain⟨u0,al,cC⟩:=CI hA (t:=⟨(J:Int),e.sym⟩) (by grind[GI]);have cx:u0<n:=by grind
 intro a4 a9;have h:=h.eq (aQ a9);have a5:Gr w a4:=aC 4 h.l;have r8:aq (hp a4) (aM k8) [iI e.sym,iI e.to]:=af 0 h.l;have hR:=hR.gr (Gr.drawn a9);refine⟨λu=>Gr a4 u,Gr.refl _,_,λu s=>hkc.cell0 (sub.trans a5 s),_,λu s=>rk.cell (sub.trans a5 s) (j:=9) rfl,_,λu s=>r8.cell0 s,(eW (κ:=aG) c5 a5 aT (rfl:ai Ty _=.map _ _) gC rfl rfl ⟨(J:Int),e.sym⟩).mono ?_⟩;rintro _ ck⟨rfl,bl⟩;rw[bl,hN.all,al];have b1:((u0:Int)+1)-1=(u0:Int):=ω
 refine⟨_,rfl,Gr.refl _,ξ,a_.2 ⟨rfl,?_⟩⟩;rw[b1];refine(Ya (a:=i) hR X ω).mono ?_;rintro _ cz⟨rfl,hR⟩;refine⟨rfl,ξ,⟨k+1,B1+1,σ,V,ω,hR.iff λj z _=>?_⟩,bR V⟩;rw[b2,V5.snoc,al]
 grind
end
theorem X_.list{n:Nat}{f:Nat->Nat->Bool}{ds:List (Lq Int)}(h:X_ n (λi z=>z∈dz n (f i)) ds):ds.map (·.2)=(List.range n).map λi=>dz n (f i):=by
 obtain⟨V,U⟩:=h;apply ahp;intro i;rw[agS,agS]
 by_cases hi:i<n
 ·have u:ds[i]? =some ds[i]:=agM ω;rw[u,ahV hi];obtain⟨O,J⟩:=U i _ u;exact congrArg some (MU O (tU n (f i)) J)
 simp_all
theorem de.has{n B k:Nat}{P:Nat->Int->Prop}{h0 h1:Hp}{w:aiA}(h:de n P B k [Proofs.YtaoaemnefghnbaaGreatDoor.has h1] w)(s:sub h0 h1):de n P B k [Proofs.YtaoaemnefghnbaaGreatDoor.has h0] w:=by
 obtain⟨o,c,es,U,u,J⟩:=h;exact⟨o,c,es,U,u,Fc (L:=[_,_,_]) (M:=[Proofs.YtaoaemnefghnbaaGreatDoor.has h1]) (N:=[Proofs.YtaoaemnefghnbaaGreatDoor.has h0]) (λh O=>bF (sub.trans s (oX O))) J⟩
theorem de.frz{n B k:Nat}{P:Nat->Int->Prop}{L:List aE}{w:aiA}(h:de n P B k L w):∃h0,aF L h0/\sub h0 (hp w)/\de n P B k [Proofs.YtaoaemnefghnbaaGreatDoor.has h0] w:=by
 obtain⟨o,c,es,W,q2,h1,Z,d1,s1,s2,ha,U,V,d2,s3,u,hb,Y,J,X,s5,O,hc,hl⟩:=h;exact⟨J,hl,O.trans (u.trans s2),o,c,es,W,q2,h1,Z,d1,s1,s2,ha,U,V,d2,s3,u,hb,Y,J,X,s5,O,hc,bF sZZ⟩
theorem de.sb{n B k:Nat}{P:Nat->Int->Prop}{h0:Hp}{w:aiA}(h:de n P B k [Proofs.YtaoaemnefghnbaaGreatDoor.has h0] w):sub h0 (hp w):=by
 obtain⟨o,c,es,J,O,u⟩:=h;exact aC 3 u.l
section
variable{g:ah}{ss:List SQ}
theorem K_(hc:aw g)(hA:bC g ss){i m:Nat}{q:SQ}{p:aJ}(hq:ss[i]? =some q)(hp:g.prods[m]? =some p)(hy:vF g q.1.2 ⟨(m:Int),0⟩):p.right.length<=256:=by
 obtain⟨j,r,_,J,O⟩:=Ba hc hA hp p.right.length 0 ω i q hq ω;obtain⟨_,_,_,U,_,_⟩:=hc.cK;have V:=(gN (g:=g) ω j).dots j _ (ig hA J).1;have W:=(agN.1 J).1;have u:=hA.dn.2.1;have:=O.dot (d:=j) V (ahu _)
 grind
theorem Pp(hc:aw g)(hA:bC g ss){i:Nat}{t:aG}(ht:(bV g ss)[i]? =some t){m:Nat}{p:aJ}(hp:g.prods[m]? =some p)(hl:p.left=t.sym):∃(i0:Nat)(q:SQ),t.st=i0/\ss[i0]? =some q/\vF g q.1.2 ⟨(m:Int),0⟩:=by
 obtain⟨i0,X,k0,e0,W,u,O,V,U⟩:=lD (agL ht);obtain⟨_,_,j,r,_,_,hr,Y,J⟩:=dm hc hA u O;obtain⟨x,hx⟩:=ahR _ J;obtain⟨y,Z,h2,_⟩:=dj.1 hx;refine⟨i0,X,by grind,u,.step Z ω hp ?_⟩
 simp_all
theorem Yb(hc:aw g)(hA:bC g ss){q:Int}{row:List Int}{k:Nat}{s:Int}(h0:0<=q)(h1:q<ss.length)(hs:row[k]? =some s):toK ss ⟨dw ss q (row.take k),s⟩-1=dw ss q (row.take (k+1)):=by
 have hn:∀i s j,dh ss i s=some j->0<=j/\j<ss.length:=λi s j h=>d_ hc hA h;rw[b_ hs,CC hn _ _ _ h0 h1];unfold toK
 rcases CB hn (row.take k) q h0 h1 with e|⟨J,u⟩
 ·simp_all
 ·rw[agW (by simp_all),agW ω,mD]
  grind[dh,dw]
end
section
variable{w:aiA}{L:List aE}{g:ah}{x:GA}{ss:List SQ}{nn:List Bool}
theorem yb(hc:aw g)(hA:bC g ss):(bV g ss).length<=33280:=by
 have J:∀q∈ss,q.2.2.length<=130:=λq u=>(hA.J9 hc q u).2;have O:=Cz (g:=g) J ss.length;have U:=hA.dn.2.1
 show(yH g ss ss.length).length<=_
 omega
theorem aa9(hg:gR (hp w) g x)(hb:lq g)(ht:dP (hp w)):ρ pW [.agg ⟨x.cells⟩] w λv w'=>∃(ss:List SQ)(ask int f:Int)(nn:List Bool)(o:aiz)(c:Nat)(ds:List (Lq Int)),v=.tuple #[vS o ds.length c,iI f]/\Fh g ss ask int f/\(f=0->lE g nn)/\ds.map (·.2)=xY g nn ss/\St w' (own 1 o ds.length c (ds.map bX)::aV (ds.map (bI 1 iv))::all w):=by
 refine Ez (gi hg λk1 w1 gw hg B=>?_);refine⟨_,_,_,_,_,_,_,_,_,_,_,_,_,B.row sZZ,(RD hg hb (eE.mono gw ht)).mono ?_⟩;rintro _ w2⟨ss,ask,int,f,p,rfl,Y,g2,h0,hn⟩;refine⟨_,_,rfl,ag (St.all w2) λa5 w3 h=>aR h σ λw4 h=>?_⟩;have J:Gr w2 w4:=h.aP;have X:aq (hp w4) (aM a5) [.pointer p]:=af 0 h.l;clear h;have u:=g2.trans J
 refine ae (λV=>?_) λV=>?_
 ·have V:f≠0:=by simp_all
  have hz:ss=[]:=by rcases Y with⟨_,e,_⟩|⟨_,_,e,_⟩|⟨_,_,_,_,e⟩<;>first|omega|omega
  subst hz;exact⟨[],ask,int,f,[],none,0,[],rfl,Y,λh=>absurd h V,rfl,aI 1 ((St.flat (M:=[])).2 (St.here (gw.trans u)))⟩
 have V:f=0:=by simp_all
 subst V;obtain⟨hc,hA⟩:=Y.Qs rfl;obtain⟨k,nn,rfl,U,Z⟩:=h0 rfl;have Z:=Z.mono J;have B4:GB (hp w4) k1 x:=⟨λs=>B.c0 (sub.trans u s),λs=>B.c1 (sub.trans u s),λs=>B.c2 (sub.trans u s),λs=>B.c3 (sub.trans u s),λs=>B.c4 (sub.trans u s),λs=>B.row (sub.trans u s)⟩;have O:=yb hc hA;refine⟨_,X.cell0 sZZ,(Tn (P:=λi z=>z∈dz (bV g ss).length (lF g nn ss i)) Z rfl O rfl λk4 w0 a4=>Vb Z hc hA U X B4 hg.t.1 rfl O a4).mono ?_⟩;rintro _ w5⟨o,c,ds,rfl,W,h⟩;have a0:=W.1;refine⟨_,_,_,rfl,ss,ask,int,0,nn,o,c,ds,by grind,Y,λ_=>U,W.list,?_⟩;rw[a0];exact St.Oo h (bF (gw.trans u))
theorem aa_{kw k1:Nat}{s:Int}(hw:X9 (hp w) g ss nn kw)(hnn:lE g nn)(hc:aw g)(r1:aq (hp w) (aM k1) [vP (some (aM kw))])(hs0:0<=s)(hs1:s<g.T+g.N):ρ im [iI s,vP (some (aM k1))] w λv w'=>v=vB (!zy g nn s)/\Gr w w':=by
 obtain⟨X,o,c,a,int,ol,cl,ka,kt,on,cn,kp,ma,mt,mp,U,hg,hs,rT,a4,hN,a7,a6,rN,_,_⟩:=hw.ex;obtain⟨sT,sN,sP,_,_,_⟩:=hc.cK;have a5:g.T=X.tl:=hg.t.1;refine nM ?_;intro Y hd;have g1:Gr w Y:=Gr.drawn hd
 refine⟨λu=>Gr Y u,Gr.refl _,_,λu s=>r1.cell0 (sub.trans g1 s),_,_,_,λu s=>U.cell0 (sub.trans g1 s),ae (λO=>⟨?_,g1⟩) λO=>?_⟩
 ·have O:¬(g.T:Int)<=s:=by simp_all
  simp_all[zy,ahf]
 have O:(g.T:Int)<=s:=by simp_all
 obtain⟨m,hm⟩:∃m:Nat,s-(X.tl:Int)=m:=⟨(s-(X.tl:Int)).toNat,ω⟩;have J:m<g.N:=ω
 obtain⟨bb,Z,a0,V,W⟩:=rN.dQ J;refine⟨_,λu s=>r1.cell0 (sub.trans g1 s),_,_,_,λu s=>U.cell (sub.trans g1 s) (j:=11) rfl,_,λu s=>r1.cell0 (sub.trans g1 s),_,_,_,λu s=>U.cell0 (sub.trans g1 s),ξ,?_⟩;rw[hm];refine ax V J ⟨bb,λu s=>W _ (sub.trans g1 s),?_,g1⟩;unfold zy;rw[aht O,aiv,show s.toNat-g.T=m by omega]
 simp_all[bp]
theorem RE{kw l c:Nat}{a:aiz}{row:List Int}(hw:X9 (hp w) g ss nn kw)(hnn:lE g nn)(hc:aw g)(hr:aX (hp w) row a l)(hl:l<=4611686018427387904)(hrow:∀s∈row,0<=s/\s<g.T+g.N):ρ 344 [vP (some (aM kw)),vS a l c] w λv w'=>v=vB (Gd g nn row)/\Gr w w':=by
 refine qx (ag (St.all w) λX J h=>?_);have g1:Gr w J:=h.aP;have r1:aq (hp J) (aM X) [vP (some (aM kw))]:=af 0 h.l;clear h;have hr:=hr.mono g1;have hw:=hw.mono g1;refine bZ ?_
 have key:ρ 90 [vS a l c,.func (.func im) #[] #[vP (some (aM X))]] J λv w'=>(∃n:Int,v=iI n/\(decide (0<=n)= !Gd g nn row))/\Gr J w':=by
  refine bK ?_;refine⟨λn w'=>∃j:Nat,n=j/\j<=l/\Gd g nn (row.take j)=true/\Gr J w',λn _=>l-n.toNat,⟨0,rfl,ω,rfl,Gr.refl _⟩,?_⟩;rintro _ n Y⟨j,rfl,hj,ha,g2⟩
  refine ae (λu=>?_) λu=>?_
  ·have u:j<l:=by simp_all
   obtain⟨y,ad,V,W,U⟩:=hr.dQ u;have O:=agL V;refine ax W u ⟨y,U _ g2,a_.2 ⟨rfl,(aa_ (hw.mono g2) hnn hc (r1.mono g2) (hrow y O).1 (hrow y O).2).mono ?_⟩⟩;rintro _ w3⟨rfl,g3⟩
   refine⟨_,rfl,ae (λZ=>⟨⟨_,rfl,?_⟩,g2.trans g3⟩) λZ=>⟨ξ,⟨j+1,σ,ω,?_,g2.trans g3⟩,bR u⟩⟩
   ·have hv:zy g nn y=false:=by simp_all
    have:Gd g nn row=false:=by
     unfold Gd
     grind
    simp_all
   simp_all[Gd,b_,List.all_append]
  ·have u:j=l:=by grind
   subst u;rw[ag4 (by have:=hr.1;omega)] at ha
   simp_all
 refine key.mono ?_;rintro _ Y⟨⟨n,rfl,hn⟩,g2⟩;refine⟨n,rfl,_,rfl,?_,g1.trans g2⟩
 simp_all
theorem To{J:Nat->aiA->Prop}{H:Hp}{kw l c:Nat}{a:aiz}{row:List Int}{q:Int}{fg:FuncId}{fc:List Value}(hw:X9 H g ss nn kw)(hc:aw g)(hA:bC g ss)(hr:aX H row a l)(hl:l<=4611686018427387904)(h0:0<=q)(h1:q<ss.length)(hF:Fn fg=true)
  (hJ0:J 0 w) (hJs:∀k u,J k u->sub H (hp u)) (hst:∀(k:Nat)(u:aiA)(s:Int),row[k]? =some s->J k u->ρ fg (iI (dw ss q (row.take k))::iI (k:Int)::fc) u λv u'=>v=.tuple (Array.mk [])/\J (k+1) u'):
  ρ 196 [vP (some (aM kw)),iI q,vS a l c,.func (.func fg) (Array.mk []) (Array.mk fc)] w λv w'=>v=iI (dw ss q row)/\J l w':=by
 obtain⟨x',o,c',a',int,ol,cl,ka,kt,on,cn,kp,ma,mt,mp,rk,hg,hs,rT,a4,hN,Y,X,rN,_,_⟩:=hw.ex;have a6:=hr.1;have a0:=hA.dn.2.1;have hn:∀i s j,dh ss i s=some j->0<=j/\j<ss.length:=λi s j h=>d_ hc hA h;refine uX ⟨λst z w'=>∃k:Nat,z=k/\k<=l/\st=dw ss q (row.take k)/\J k w',λ_ z _=>l-z.toNat,⟨0,rfl,agP _,rfl,hJ0⟩,?_⟩;rintro _ _ _ w1⟨k,rfl,hk,rfl,U⟩;refine ae (λO=>?_) λO=>?_
 rotate_left
 ·grind
 have O:k<l:=by simp_all
 have s1:=hJs _ _ U;obtain⟨y,ad,V,Z,W⟩:=hr.dQ O;refine ax Z O ⟨y,W _ s1,a_.2 ⟨hF,(hst k w1 y V U).mono ?_⟩⟩;rintro _ w2⟨rfl,U⟩;have s2:=hJs _ _ U;refine⟨rfl,_,rk.cell s2 (j:=10) rfl,(eW (κ:=aG) Y s2 aT (rfl:ai Ty _=.map _ _) gC rfl rfl ⟨dw ss q (row.take k),y⟩).mono ?_⟩;rintro _ w3⟨rfl,rfl⟩;rw[X.all];have e:=Yb hc hA h0 h1 V;have a5:=CB hn (row.take (k+1)) q h0 h1;refine⟨_,rfl,ξ,ξ,⟨k+1,σ,O,e,U⟩,bR O⟩
end
section
variable{g:ah}{ss:List SQ}{nn:List Bool}
def Pq(g:ah)(nn:List Bool)(ss:List SQ)(t:aG)(p:aJ)(k j:Nat):Prop:=∃(k':Nat)(s:Int),k'<k/\p.right[k']? =some s/\Bg g ss ⟨dw ss t.st (p.right.take k'),s⟩=(j:Int)+1/\Gd g nn (p.right.drop (k'+1))=true
def CM(g:ah)(nn:List Bool)(ss:List SQ)(t:aG)(ms:List Nat)(j:Nat):Prop:=∃m∈ms,∃p,g.prods[m]? =some p/\Pq g nn ss t p p.right.length j
theorem Pq.succ{t:aG}{p:aJ}{k j:Nat}{s:Int}(hs:p.right[k]? =some s):Pq g nn ss t p (k+1) j↔Pq g nn ss t p k j\/(Bg g ss ⟨dw ss t.st (p.right.take k),s⟩=(j:Int)+1/\Gd g nn (p.right.drop (k+1))=true):=by grind[Pq]
theorem CM.snoc{t:aG}{ms:List Nat}{m j:Nat}{p:aJ}(hp:g.prods[m]? =some p):CM g nn ss t (ms++[m]) j↔CM g nn ss t ms j\/Pq g nn ss t p p.right.length j:=by
 unfold CM
 simp_all
theorem Pr(hA:bC g ss){t:aG}{j:Nat}:Bg g ss t=(j:Int)+1↔(bV g ss)[j]? =some t:=by
 constructor
 ·intro h;obtain⟨u,O,J⟩:=CI hA (t:=t) ω
  grind
 grind[GI]
theorem CM.iff(hA:bC g ss){i j:Nat}{t:aG}(ht:(bV g ss)[i]? =some t):CM g nn ss t (Jq g g.prods.length t.sym) j↔CH g nn ss j i=true:=by
 unfold CH;rw[ht];simp only[List.any_eq_true,ahd,ag1,ahc]
 constructor
 ·rintro⟨m,U,p,hp,k,s,J,O,hn,V⟩;obtain⟨h0,W,u,hl⟩:=qU.1 U;rw[hp] at u;cases u;refine⟨m,(agN.1 hp).1,ω,?_⟩;rw[hp];simp only[ag1,ahc,List.any_eq_true,ahd]
  grind[Pr]
 ·rintro⟨m,U,h0,h⟩;cases hp:g.prods[m]? with
  |none=>simp_all
  |some p=>
   rw[hp] at h;simp only[ag1,ahc,List.any_eq_true,ahd] at h;obtain⟨hl,k,J,hn,V⟩:=h;have O:p.right[k]? =some p.right[k]:=agM J;refine⟨m,qU.2 ⟨ω,p,hp,hl⟩,p,hp,k,_,J,O,?_,V⟩
   simp_all[Pr]
def EA(g:ah)(nn:List Bool)(ss:List SQ)(i:Nat)(j:Nat)(z:Int):Prop:=∃(i':Nat)(t:aG),i'<i/\z=i'/\(bV g ss)[i']? =some t/\CM g nn ss t (Jq g g.prods.length t.sym) j
theorem EA.succ{i j:Nat}{z:Int}{t:aG}(ht:(bV g ss)[i]? =some t):EA g nn ss (i+1) j z↔EA g nn ss i j z\/(z=i/\CM g nn ss t (Jq g g.prods.length t.sym) j):=by grind[EA]
theorem EA.all(hA:bC g ss){j:Nat}{z:Int}:EA g nn ss (bV g ss).length j z↔z∈dz (bV g ss).length (CH g nn ss j):=by
 rw[gl]
 constructor
 ·rintro⟨i,t,J,U,u,O⟩
  grind[CM.iff]
 ·rintro⟨i,U,J,O⟩;have u:(bV g ss)[i]? =some (bV g ss)[i]:=agM J;exact⟨i,_,J,U,u,(CM.iff hA u).2 O⟩
end
section
variable{w:aiA}{L:List aE}{g:ah}{x:GA}{ss:List SQ}{nn:List Bool}
theorem Yc{H:Hp}{n kw kc kr ke ki k4 i k rl rc B:Nat}{ra:aiz}{row:List Int}{st s:Int}{P:Nat->Int->Prop}(hw:X9 H g ss nn kw)(hnn:lE g nn)(hc:aw g)(hA:bC g ss)(r1:aq H (aM kc) [vP (some (aM kw))])(r2:aq H (aM kr) [vS ra rl rc])(r3:aq H (aM ke) [.func (.func bQq) (Array.mk []) (Array.mk [vP (some (aM k4))])])(r4:aq H (aM ki) [iI (i:Int)])
  (hr:aX H row ra rl) (hlc:rl<=rc) (hl:rl<=4611686018427387904) (hrow:∀s∈row,0<=s/\s<g.T+g.N) (hs:row[k]? =some s) (hn:(bV g ss).length=n) (hn2:n<=33280) (hB:B<=4611686018427) (hR:de n P B k4 [has H] w):
  ρ 343 [iI st,iI (k:Int),vP (some (aM kc)),vP (some (aM kr)),vP (some (aM ke)),vP (some (aM ki))] w λv w'=>v=.tuple (Array.mk [])/\∃B',B'<=B+1/\de n (λj z=>P j z\/z=i/\Bg g ss ⟨st,s⟩=(j:Int)+1/\Gd g nn (row.drop (k+1))=true) B' k4 [has H] w':=by
 obtain⟨x',o,c',a',int,ol,cl,ka,kt,on,cn,kp,ma,mt,mp,rk,hg,aa,rT,Y,hN,al,a9,rN,_,_⟩:=hw.ex;have O:k<rl:=by have:=hr.1;grind
 have s0:=hR.sb;refine qv ?_;intro w1 hd;have hR:=hR.gr (Gr.drawn hd);have s1:=hR.sb;obtain⟨y,ad,W,a5,a4⟩:=hr.dQ O;rw[hs] at W;cases W;refine⟨λu=>Gr w1 u,Gr.refl _,_,λu g=>r1.cell0 (sub.trans s1 g),_,λu g=>rk.cell (sub.trans s1 g) (j:=9) rfl,_,_,_,λu g=>r2.cell0 (sub.trans s1 g),ax a5 O ⟨s,λu g=>a4 _ (sub.trans s1 g),(eW (κ:=aG) Y s1 aT (rfl:ai Ty _=.map _ _) gC rfl rfl ⟨st,s⟩).mono ?_⟩⟩;rintro _ w6⟨rfl,e6⟩;rw[hN.all];refine⟨_,rfl,by simp_all[Gr.refl],?_⟩;intro w7 a6;have hR:=hR.gr (by simp_all[Gr.drawn]:Gr w1 w7);have X:=hR.sb;refine⟨λu=>Gr w7 u,Gr.refl _,ae (λU=>?_) λU=>?_⟩
 rotate_left
 ·refine⟨rfl,B,ω,hR.iff λj z _=>⟨.inl,λh=>h.elim id λh=>?_⟩⟩;have:=agO U;omega
 have U:=agQ U;obtain⟨Z,am,a7⟩:=CI hA U;have a0:Z<n:=by grind
 have ek:(k:Int)+1=((k+1:Nat):Int):=by rfl
 refine⟨_,λu g=>r1.cell0 (sub.trans X g),_,_,_,λu g=>r2.cell0 (sub.trans X g),ξ,?_⟩;rw[ek];refine dy ω hlc ((RE (hw.mono X) hnn hc ((hr.drop (k:=k+1) (m:=rc) ω hlc).mono X) ω λs hs=>hrow s (List.mem_of_mem_drop hs)).mono ?_);rintro _ a8⟨rfl,J⟩;have hR:=hR.gr J;have V:=hR.sb;refine⟨_,rfl,J,ae (λh2=>?_) λh2=>?_⟩
 rotate_left
 ·exact⟨rfl,B,ω,hR.iff λj z _=>⟨.inl,λh=>h.elim id λh=>by rw[h.2.2] at h2;cases h2⟩⟩
 have eu:Bg g ss ⟨st,s⟩-1=(Z:Int):=ω
 refine⟨_,_,r3.cell0 V,ξ,_,r4.cell0 V,a_.2 ⟨rfl,?_⟩⟩;rw[eu];refine(Ya (a:=Z) hR a0 ω).mono ?_;rintro _ av⟨rfl,hR⟩;refine⟨rfl,rfl,B+1,ω,hR.iff λj z _=>?_⟩
 grind
theorem aba{n kw kc k1 k4:Nat}{w0:aiA}(hw:X9 (hp w) g ss nn kw)(hc:aw g)(hA:bC g ss)(hnn:lE g nn)(hkc:aq (hp w) (aM kc) [vP (some (aM kw))])(B:GB (hp w) k1 x)(hgx:gR (hp w) g x)(hn:(bV g ss).length=n)(hn2:n<=33280)
  (hR:de n (λ_ _=>False) 0 k4 (all w) w0):
  ρ 342 [.func (.func bQq) (Array.mk []) (Array.mk [vP (some (aM k4))]),vP (some (aM kc)),vP (some (aM k1))] w0 λv w'=>v=.tuple (Array.mk [])/\∃B,B<=4611686018427387/\de n (λj z=>z∈dz n (CH g nn ss j)) B k4 (all w) w':=by
 obtain⟨x',o,c,a,int,ol,cl,ka,kt,on,cn,kp,ma,mt,mp,rk,hg,hs,rT,d8,hN,cC,cA,rN,ca,bb⟩:=hw.ex;rw[hn] at rk rT;have c6:=hA.J9 hc;obtain⟨sT,sN,sP,_,_,_⟩:=hc.cK;have cg:=hA.dn.2.1;have pl:=hgx.p.1;refine u5 ?_;obtain⟨oo,co,es,q1,q2,h⟩:=hR;refine ag h λke w1 h=>?_;have hR:de n (λ_ _=>False) 0 k4 (az ke [.func (.func bQq) (Array.mk []) (Array.mk [vP (some (aM k4))])]::all w) w1:=⟨oo,co,es,q1,q2,h.pick 4 [1,2,3,0]⟩;clear h q1 q2;obtain⟨he,aa,_,hR⟩:=hR.frz;have rE:aq he (aM ke) [.func (.func bQq) (Array.mk []) (Array.mk [vP (some (aM k4))])]:=af 0 aa;have U:sub (hp w) he:=aC 1 aa;have s1:=sub.trans U hR.sb
 refine⟨_,hkc.cell0 s1,_,_,_,rk.cell s1 (j:=8) rfl,λz w'=>∃(i B:Nat),z=i/\i<=n/\B<=i*30000/\de n (EA g nn ss i) B k4 [has he] w',λz _=>n-z.toNat,
  ⟨0,0,rfl,agP _,agP _,hR.iff λj z _=>⟨λh=>h.elim,λh=>by obtain⟨_,_,h,_⟩:=h;omega⟩⟩,?_⟩
 clear hR s1;rintro _ _ w2⟨i,B0,rfl,hi,ck,hR⟩;have s2:=sub.trans U hR.sb;refine ae (λh1=>?_) λh1=>?_
 rotate_left
 ·have h1:i=n:=by grind
  subst h1;refine⟨rfl,B0,ω,(hR.has U).iff λj z _=>?_⟩
  grind[EA.all]
 have h1:i<n:=by simp_all
 obtain⟨t,dc,ht,be,rt⟩:=xV rT h1;obtain⟨i0,q0,k0,e0,O,dk,cT,ch,d7⟩:=lD (agL ht);have ad:0<=t.st:=by simp_all
 have b4:t.st<ss.length:=by simp_all
 obtain⟨oo,co,es,q1,q2,h⟩:=hR;refine aO be h1 ⟨_,_,rt.at s2 rfl,ag h λki w3 h=>ag h λk5 w4 h=>aR (h.pick 2 [1,0]) σ λw5 h=>aL (h.pick 2 [1,0]) rfl (by simp[aK]) λw6 h=>?_⟩;have h:St w6 (az k5 [iI t.st,iI t.sym]::az ki [iI (i:Int)]::az k4 [vS oo n co]::own 1 oo n co (es.map bX)::aV (es.map (bI 1 iv))::[has he]):=h;have hR:de n (EA g nn ss i) B0 k4 (az k5 [iI t.st,iI t.sym]::az ki [iI (i:Int)]::[has he]) w6:=⟨oo,co,es,q1,q2,h.pick 5 [2,3,4,0,1]⟩;clear h q1 q2;intro w7 hd;have hR:=hR.gr (Gr.drawn hd);obtain⟨O,a6,_,hR⟩:=hR.frz;have r5:aq O (aM k5) [iI t.st,iI t.sym]:=af 0 a6;have rI:aq O (aM ki) [iI (i:Int)]:=af 1 a6;have X:sub he O:=aC 2 a6;have s7:=hR.sb;have a0:=sub.trans U (sub.trans X s7);refine⟨λu=>Gr w7 u,Gr.refl _,_,λu g=>hkc.cell0 (sub.trans a0 g),_,λu g=>rk.cell (sub.trans a0 g) (j:=12) rfl,_,λu g=>r5.cell (sub.trans s7 g) (j:=1) rfl,(eW (κ:=Int) ca a0 aT (rfl:ai Ty _=.map _ _) (wU.Hy bL) rfl rfl t.sym).mono ?_⟩;rintro _ d4⟨rfl,av⟩;obtain⟨ba,bc,c9,cc⟩:=bb t.sym;rw[c9];generalize hbs:Jq g g.prods.length t.sym=bys at*;have d0:bys.length<=97:=by grind[Nat.le_trans,GH]
 refine⟨_,_,_,rfl,by simp_all[Gr.refl],λz w'=>∃(m B:Nat),z=m/\m<=bys.length/\B<=B0+m*300/\de n (λj z=>EA g nn ss i j z\/z=i/\CM g nn ss t (bys.take m) j) B k4 [has O] w',λz _=>bys.length-z.toNat,
  ⟨0,B0,rfl,agP _,ω,by rw[av];exact hR.iff λj z _=>⟨.inl,λh=>h.elim id λh=>by obtain⟨_,m,hm,_⟩:=h;simp_all⟩⟩,?_⟩
 clear hR av hd s7 a0;rintro _ _ cN⟨m,B1,rfl,hm,d3,hR⟩;have b6:=hR.sb;have W:=sub.trans U (sub.trans X b6);refine ae (λZ=>?_) λZ=>?_
 rotate_left
 ·have Z:m=bys.length:=by grind
  rw[Z,ag9] at hR;refine⟨ξ,⟨i+1,B1,σ,h1,ω,(hR.has X).iff λj z _=>?_⟩,bR h1⟩
  simp_all[EA.succ]
 have Z:m<bys.length:=by simp_all
 obtain⟨pm,al⟩:∃pm,bys[m]? =some pm:=⟨_,agM Z⟩;obtain⟨_,p,hp,b7⟩:=qU.1 (hbs▸agL al);have a4:pm<x.pl:=by grind
 have bP:=agL hp;obtain⟨cF,q',d9,cd,b2⟩:=Pp hc hA ht hp b7;have cp:=K_ hc hA cd hp b2;obtain⟨bv,d5,am,c5,c7⟩:=cc.dQ Z;rw[agS,al] at am;cases am;obtain⟨p',cx,cz,b3,c8,bi,ra,rl,rc,rfl,bl,a8⟩:=hgx.p.get a4;rw[hp] at b3;cases b3;have cI:=a8.1;refine ax c5 Z ⟨_,c7 _ W,_,_,_,B.c4 W,aO c8 a4 ⟨_,_,_,bi.cell W (j:=1) rfl,?_⟩⟩;obtain⟨oo,co,es,q1,q2,h⟩:=hR;refine ag h λkr cu h=>aR h σ λbT h=>?_;have hR:de n (λj z=>EA g nn ss i j z\/z=i/\CM g nn ss t (bys.take m) j) B1 k4 (az kr [vS ra rl rc]::[has O]) bT:=⟨oo,co,es,q1,q2,h.pick 4 [1,2,3,0]⟩;clear h q1 q2;obtain⟨a5,b1,_,hR⟩:=hR.frz;have rR:aq a5 (aM kr) [vS ra rl rc]:=af 0 b1;have Y:sub O a5:=aC 1 b1;have a7:=hR.sb;have V:=sub.trans U (sub.trans X Y);have a9:=sub.trans V a7;have b5:∀s∈p.right,0<=s/\s<g.T+g.N:=λs hs=>by have:=hc.sym bP hs;omega
 refine⟨_,hkc.cell0 a9,_,r5.cell0 (sub.trans Y a7),_,_,_,rR.cell0 a7,(To (J:=λk u=>∃B',B'<=B1+k/\de n (λj z=>(EA g nn ss i j z\/z=i/\CM g nn ss t (bys.take m) j)\/z=i/\Pq g nn ss t p k j) B' k4 [has a5] u) (hw.mono V) hc hA (a8.mono V) ω ad b4 rfl
  ⟨B1,ω,hR.iff λj z _=>⟨.inl,λh=>h.elim id λh=>by obtain⟨_,_,_,h,_⟩:=h;omega⟩⟩ (λk u ⟨_,_,h⟩=>h.sb) λk u s hs ⟨B',bz,h⟩=>?_).mono ?_⟩
 ·have c6:k<p.right.length:=(agN.1 hs).1;refine(Yc (hw.mono V) hnn hc hA (hkc.mono V) rR (rE.mono (sub.trans X Y)) (rI.mono Y) (a8.mono V) bl ω b5 hs hn hn2 ω h).mono ?_;rintro _ u'⟨rfl,B2,d6,h⟩;refine⟨rfl,B2,ω,h.iff λj z _=>?_⟩
  grind[Pq.succ]
 rintro _ cW⟨rfl,B',bz,hR⟩;have ci:bys.take (m+1)=bys.take m++[pm]:=by simp_all[agR]
 refine⟨_,rfl,ξ,⟨m+1,B',σ,Z,ω,(hR.has Y).iff λj z _=>?_⟩,bR Z⟩
 grind[CM.snoc]
end
section
variable{κ α:Type}[DecidableEq κ]{sz:Nat}{f:List α->List Value}{s t:κ}
theorem Yd{q:Lq α}:∀{ps:List (κ×Lq α)},(ps.map Prod.fst).Nodup->fN s ps=some q->(mO sz f ps).Perm (bI sz f q::mO sz f (ps.filter λe=>decide (e.1≠s)))
 |[],_,h=>by cases h
 |(a,u)::m,hn,h=>by
  rw[ahw,ahE] at hn
  unfold fN at h
  by_cases e:s=a
  ·subst e
   rw[ag0 rfl] at h
   cases h
   have e2:((s,q)::m).filter (λe=>decide (e.1≠s))=m:=by
    rw[List.filter_cons,agW σ]
    refine List.filter_eq_self.2 λx hx=>?_
    grind
   rw[e2];rfl
  ·rw[agW e] at h
   have e2:((a,u)::m).filter (λe=>decide (e.1≠s))=(a,u)::m.filter λe=>decide (e.1≠s):=by grind
   rw[e2]
   exact(List.Perm.cons _ (Yd hn.2 h)).trans (.swap _ _ _)
theorem Ps(h:t≠s)(ps:List (κ×Lq α)):fN t (ps.filter λe=>decide (e.1≠s))=fN t ps:=by
 induction ps with
 |nil=>rfl
 |cons x m ih=>
  obtain⟨a,u⟩:=x;rw[List.filter_cons]
  by_cases e:a=s
  ·simp_all[fN]
  ·rw[ag0 (by simp_all)]
   simp_all[fN,decide]
end
section
variable{g:ah}{ss:List SQ}
theorem Vc(i:Nat)(f:Nat->Bool):dz (i+1) f=dz i f++if f i=true then[(i:Int)] else[]:=by grind[dz,List.range_succ]
theorem yK{q m i:Nat}{t:aG}(ht:(bV g ss)[i]? =some t):fe g ss q m i=true↔m∈Jq g g.prods.length t.sym/\∃p,g.prods[m]? =some p/\dw ss t.st p.right=q:=by
 rw[qU];unfold fe
 grind
def BkI(g:ah)(ss:List SQ)(ps:List (aG×Lq Int))(i:Nat)(t:aG)(ms:List Nat):Prop:=(ps.map Prod.fst).Nodup/\(∀k,(j6 k ps).length<=i+1)/\∀q m:Nat,j6 ⟨(q:Int),(m:Int)⟩ ps=dz i (fe g ss q m)++if m∈ms/\(∃p,g.prods[m]? =some p/\dw ss t.st p.right=q) then[(i:Int)] else[]
abbrev pX:=(Int×Int)×Lq Int
def bkE(b:pX):List Value:=[iI b.1.1,iI b.1.2,bX b.2]
def gG(bs:List pX):List Value:=bs.flatMap bkE
def Bz(bs:List pX):List aE:=bs.map λb=>bI 1 iv b.2
def RF(b:pX):np:=⟨b.1.1,b.1.2,b.2.2⟩
theorem Tp(bs:List pX):(gG bs).length=bs.length*3:=pJ (f:=bkE) (n:=3) (λ_=>rfl) bs
theorem Tq(xs ys:List pX):gG (xs++ys)=gG xs++gG ys:=ahh
theorem EB(g:ah)(ss:List SQ)(q:Nat):∀j,(gm g ss q j).length<=j
 |0=>by simp[gm]
 |j+1=>by
  have:=EB g ss q j
  grind[Bi,List.length_append,xZ]
def Ip(g:ah)(ss:List SQ)(q:Nat):List np:=(List.range q).flatMap λq=>gm g ss q g.prods.length
theorem EC(g:ah)(ss:List SQ)(q:Nat):Ip g ss (q+1)=Ip g ss q++gm g ss q g.prods.length:=by simp[Ip,ahA]
theorem CN(g:ah)(ss:List SQ):∀q,(Ip g ss q).length<=q*g.prods.length
 |0=>by simp[Ip]
 |q+1=>by
  have:=CN g ss q
  grind[EB,EC,List.length_append,Nat.succ_mul]
end
section
variable{w:aiA}{L:List aE}{g:ah}{x:GA}{ss:List SQ}{nn:List Bool}
theorem RG(hg:gR (hp w) g x)(hb:lq g)(ht:dP (hp w)):ρ lH [.agg ⟨x.cells⟩] w λv w'=>∃(ss:List SQ)(ask int f:Int)(nn:List Bool)(o:aiz)(c:Nat)(ds:List (Lq Int)),v=.tuple #[vS o ds.length c,iI f]/\Fh g ss ask int f/\(f=0->lE g nn)/\ds.map (·.2)=Bh g nn ss/\St w' (own 1 o ds.length c (ds.map bX)::aV (ds.map (bI 1 iv))::all w):=by
 refine zC (gi hg λk1 w1 gw hg B=>?_);refine⟨_,_,_,_,_,_,_,_,_,_,_,_,_,B.row sZZ,(RD hg hb (eE.mono gw ht)).mono ?_⟩;rintro _ w2⟨ss,ask,int,f,p,rfl,Y,g2,h0,hn⟩;refine⟨_,_,rfl,ag (St.all w2) λa5 w3 h=>aR h σ λw4 h=>?_⟩;have J:Gr w2 w4:=h.aP;have X:aq (hp w4) (aM a5) [.pointer p]:=af 0 h.l;clear h;have u:=g2.trans J
 refine ae (λV=>?_) λV=>?_
 ·have V:f≠0:=by simp_all
  have hz:ss=[]:=by rcases Y with⟨_,e,_⟩|⟨_,_,e,_⟩|⟨_,_,_,_,e⟩<;>first|omega|omega
  subst hz;exact⟨[],ask,int,f,[],none,0,[],rfl,Y,λh=>absurd h V,rfl,aI 1 ((St.flat (M:=[])).2 (St.here (gw.trans u)))⟩
 have V:f=0:=by simp_all
 subst V;obtain⟨hc,hA⟩:=Y.Qs rfl;obtain⟨k,nn,rfl,U,Z⟩:=h0 rfl;have Z:=Z.mono J;have B4:GB (hp w4) k1 x:=⟨λs=>B.c0 (sub.trans u s),λs=>B.c1 (sub.trans u s),λs=>B.c2 (sub.trans u s),λs=>B.c3 (sub.trans u s),λs=>B.c4 (sub.trans u s),λs=>B.row (sub.trans u s)⟩;have O:=yb hc hA;refine⟨_,X.cell0 sZZ,(Tn (P:=λi z=>z∈dz (bV g ss).length (CH g nn ss i)) Z rfl O rfl λk4 w0 a4=>aba Z hc hA U X B4 (hg.mono u) rfl O a4).mono ?_⟩;rintro _ w5⟨o,c,ds,rfl,W,h⟩;have a0:=W.1;refine⟨_,_,_,rfl,ss,ask,int,0,nn,o,c,ds,by grind,Y,λ_=>U,W.list,?_⟩;rw[a0];exact St.Oo h (bF (gw.trans u))
theorem RH(hg:gR (hp w) g x)(hb:lq g)(htb:dP (hp w)):ρ 101 [.agg ⟨x.cells⟩] w λv w'=>∃(ss:List SQ)(ask int f:Int)(o:aiz)(c:Nat)(ds:List pX),v=.tuple #[vS o ds.length c,iI f]/\Fh g ss ask int f/\ds.map RF=uV g ss/\St w' (own 3 o ds.length c (gG ds)::aV (Bz ds)::all w):=by
 refine zA (gi hg λk1 w1 gw hg B=>?_);refine⟨_,_,_,_,_,_,_,_,_,_,_,_,_,B.row sZZ,(RD hg hb (eE.mono gw htb)).mono ?_⟩;rintro _ X⟨ss,ask,int,f,p,rfl,hR,a5,h0,hn⟩
 refine⟨_,_,rfl,ae (λV=>?_) λV=>?_⟩
 ·have V:f≠0:=by simp_all
  have hz:ss=[]:=by rcases hR with⟨_,e,_⟩|⟨_,_,e,_⟩|⟨_,_,_,_,e⟩<;>first|omega|omega
  subst hz;exact⟨[],ask,int,f,none,0,[],rfl,hR,rfl,aI 3 ((St.flat (M:=[])).2 (St.here (gw.trans a5)))⟩
 have V:f=0:=by simp_all
 subst V;obtain⟨hc,hA⟩:=hR.Qs rfl;obtain⟨kw,nn,rfl,eX,hw⟩:=h0 rfl;have eo:=yb hc hA;obtain⟨x',o,c,a,dl,ol,cl,ka,kt,on,cn,kp,ma,mt,mp,rk,f5,hs,rT,eN,hN,ek,ei,rN,d6,ch⟩:=hw.ex;have eD:=hA.J9 hc;obtain⟨sT,sN,sP,_,_,_⟩:=hc.cK;have dk:=hA.dn.2.1;have pl:=hg.p.1;have cC:=hg.mono a5;refine nS (St.all X) λkb w3 h=>?_;have h:=dW (κ:=aG) h;have cN:Gr X w3:=aC 1 h.l
 refine⟨_,_,_,rk.cell cN (j:=8) rfl,λz w'=>∃(i:Nat)(U:List (aG×Lq Int)),z=i/\i<=(bV g ss).length/\BkI g ss U i ⟨0,0⟩ []/\St w' (mapA kb (mV U)::aV (mO 1 iv U)::all X),λz _=>(bV g ss).length-z.toNat,
  ⟨0,[],rfl,agP _,⟨σ,λk=>agP _,λq m=>by rfl⟩,?_⟩,?_⟩
 ·exact((St.flat (M:=[])).2 h).swap
 clear h;rintro _ _ w4⟨i,U,rfl,hi,O,h⟩;have s4:sub (hp X) (hp w4):=aC 2 h.l
 refine ae (λV=>?_) λV=>?_
 ·have V:i<(bV g ss).length:=by simp_all
  obtain⟨t,eU,ht,ci,rt⟩:=xV rT V;obtain⟨i0,q0,k0,e0,eT,eY,eA,e5,eL⟩:=lD (agL ht);have b5:0<=t.st:=by simp_all
  have c7:t.st<ss.length:=by simp_all
  refine aO ci V ⟨_,_,rt.at s4 rfl,ag h λb2 w5 h=>aL h rfl (by simp[aK]) λw6 h=>?_⟩;intro w7 hd;have h:=h.eq (aQ hd);have s7:sub (hp X) (hp w7):=aC 3 h.l;have a8:aq (hp w7) (aM b2) [iI t.st,iI t.sym]:=af 0 h.l;refine⟨λu=>Gr w7 u,Gr.refl _,_,λu g=>rk.cell (sub.trans s7 g) (j:=12) rfl,_,λu g=>a8.cell g (j:=1) rfl,(eW (κ:=Int) d6 s7 aT (rfl:ai Ty _=.map _ _) (wU.Hy bL) rfl rfl t.sym).mono ?_⟩;rintro _ eb⟨rfl,bT⟩;obtain⟨ba,bc,d4,d8⟩:=ch t.sym;rw[d4]
  have ez:(Jq g g.prods.length t.sym).Nodup:=by
   unfold Jq Z7;exact(List.nodup_range.filter _).filter _
  have b3:∀m,m∈Jq g g.prods.length t.sym↔0<m/\∃p,g.prods[m]? =some p/\p.left=t.sym:=λm=>qU;have et:∀q m:Nat,fe g ss q m i=true↔m∈Jq g g.prods.length t.sym/\∃p,g.prods[m]? =some p/\dw ss t.st p.right=q:=λq m=>yK ht;generalize a0:Jq g g.prods.length t.sym=bys at*;have b1:bys.length<=97:=by grind[Nat.le_trans,GH]
  refine⟨_,_,_,rfl,by simp_all[Gr.refl],λz w'=>∃(M:Nat)(U:List (aG×Lq Int)),z=M/\M<=bys.length/\BkI g ss U i t (bys.take M)/\St w' (mapA kb (mV U)::aV (mO 1 iv U)::az b2 [iI t.st,iI t.sym]::all X),λz _=>bys.length-z.toNat,
   ⟨0,U,rfl,agP _,⟨O.1,O.2.1,λq m=>by rw[O.2.2 q m];simp⟩,by rw[bT];exact h.pick 3 [1,2,0]⟩,?_⟩
  clear h O bT hd a8 s7;rintro _ _ d3⟨M,U,rfl,hM,O,h⟩;have d9:sub (hp X) (hp d3):=aC 3 h.l;refine ae (λW=>?_) λW=>?_
  rotate_left
  ·have W:M=bys.length:=by grind
   rw[W,ag9] at O;refine⟨ξ,⟨i+1,U,σ,V,⟨O.1,λk=>by have:=O.2.1 k;omega,λq m=>?_⟩,h.pick 3 [0,1]⟩,bR V⟩;rw[O.2.2 q m,Vc]
   simp_all
  have W:M<bys.length:=by simp_all
  obtain⟨Z,b7⟩:∃Z,bys[M]? =some Z:=⟨_,agM W⟩;obtain⟨_,p,a7,cd⟩:=(b3 Z).1 (agL b7);have ad:Z<x.pl:=by grind
  obtain⟨cp,q',d5,c9,bz⟩:=Pp hc hA ht a7 cd;have ea:=K_ hc hA c9 a7 bz;obtain⟨bv,eK,be,cI,cT⟩:=d8.dQ W;rw[agS,b7] at be;cases be;obtain⟨p',ef,eg,bP,d0,cu,ra,rl,rc,rfl,eu,c8⟩:=cC.p.get ad;rw[a7] at bP;cases bP;have ep:=c8.1;obtain⟨jw,_,ca,_,_⟩:=Ba hc hA a7 p.right.length 0 ω cp q' c9 ω;rw[List.drop_zero,<-d5] at ca;refine ax cI W ⟨_,cT _ d9,?_⟩;intro aa hd;have h:=h.eq (aQ hd);have b4:sub (hp X) (hp aa):=aC 3 h.l;have a8:aq (hp aa) (aM b2) [iI t.st,iI t.sym]:=af 2 h.l
  refine⟨λu=>Gr aa u,Gr.refl _,_,λu g=>a8.cell0 g,_,_,_,λu g=>B.c4 (sub.trans a5 (sub.trans b4 g)),aO d0 ad ⟨_,_,_,λu g=>cu.cell (sub.trans b4 g) (j:=1) rfl,(To (J:=λk u=>hp u=hp aa) (H:=hp X) hw hc hA c8 ω b5 c7 rfl rfl (λk u e=>by simp_all) λk u s hs e=>?_).mono ?_⟩⟩
  ·exact uZ ⟨rfl,e⟩
  rintro _ eC⟨rfl,bb⟩;have h:=h.eq bb;refine⟨_,rfl,Gr.of_eq bb,ag h λf6 f2 h=>aL h rfl (by simp[aK]) λey h=>?_⟩;refine⟨_,_,(af 0 h.l).at sZZ rfl,ag h λeS f3 h=>?_⟩;refine(map_take (κ:=aG) aT (rfl:ai Ty _=.map _ _) gC rfl rfl (h.pick 3 [2,0,1]) ⟨dw ss t.st p.right,(Z:Int)⟩).mono ?_;rintro _ eI⟨n,rfl,h⟩;obtain⟨q,M',e1,e2,hq,back⟩:=uP rfl (h.pick 4 [3,0,1,2]) ⟨dw ss t.st p.right,(Z:Int)⟩;have el:q.2.length<=i+1:=by rw[e2];exact O.2.1 _
  rw[e1] at hq ⊢;refine⟨_,_,_,_,rfl,?_⟩;refine(aS (us:=iv q.2) aT (rfl:ai Ty _=.slice _) (rfl:ai Ty _=.slice _) rfl rfl rfl (hq.pick 5 [3,0,1,2,4]) rfl (by simp[aK]) (by grind) ω).mono ?_;rintro _ f4⟨o',c',rfl,h⟩;refine⟨_,_,_,rfl,(Pl (h.pick 5 [3,0,2]) _).mono ?_⟩;rintro _ e6 h;rw[yJ] at h;have h:=A6 back (q.2++[(i:Int)]) σ (by simp[iv]) h;have cc:bys.take (M+1)=bys.take M++[Z]:=by simp_all[agR]
  have al:Z∉bys.take M:=λhm=>by
   obtain⟨M2,c5⟩:=ahb hm;have ck:=(agN.1 c5).1;rw[ahl] at ck;rw[ahJ,ag0 ω] at c5
   grind[List.getElem?_inj]
  refine⟨ξ,⟨M+1,pI ⟨dw ss t.st p.right,(Z:Int)⟩ ((o',c'),q.2++[(i:Int)]) U,σ,W,⟨MB _ O.1,λk=>?_,λq2 m=>?_⟩,?_⟩,bR W⟩
  ·rw[nk]
   by_cases e:k=(⟨dw ss t.st p.right,(Z:Int)⟩:aG)
   ·rw[ag0 e]
    show(q.2++[(i:Int)]).length<=i+1
    have h5:q.2.length<=i:=by
     rw[e2];rw[ca,O.2.2 jw Z,agW (λh=>al h.1),ahe];simp[pV]
    simp_all
   ·rw[agW e];exact O.2.1 k
  ·rw[nk,cc]
   by_cases e:(⟨(q2:Int),(m:Int)⟩:aG)=⟨dw ss t.st p.right,(Z:Int)⟩
   ·rw[ag0 e];have e3:(q2:Int)=dw ss t.st p.right:=congrArg aG.st e;have e4:m=Z:=by grind
    subst e4
    show q.2++[(i:Int)]=_
    rw[e2,<-e,O.2.2 q2 m,agW (λh=>al h.1),ahe,ag0 ⟨σ,p,a7,e3.symm⟩]
   ·rw[agW e,O.2.2 q2 m];congr 1
    by_cases h5:m∈bys.take M/\∃p,g.prods[m]? =some p/\dw ss t.st p.right=q2
    ·grind
    grind
  ·exact h
 have V:i=(bV g ss).length:=by grind
 subst V;have b6:∀q m:Nat,j6 ⟨(q:Int),(m:Int)⟩ U=dz (bV g ss).length (fe g ss q m):=λq m=>by rw[O.2.2 q m];simp
 have d7:=O.1;clear O;have ej:∀q,q<=ss.length->q*g.prods.length<=256*97:=λq hq=>ah6 ω sP
 refine⟨_,_,_,rk.cell s4 (j:=5) rfl,λo n c z w'=>∃(q:Nat)(bs:List pX)(rs:List (aG×Lq Int)),z=q/\q<=ss.length/\n=bs.length/\bs.map RF=Ip g ss q/\(rs.map Prod.fst).Nodup/\(∀k:aG,(q:Int)<=k.st->fN k rs=fN k U)/\St w' (own 3 o n c (gG bs)::aV (Bz bs)::mapA kb (mV U)::aV (mO 1 iv rs)::all X),λ_ _ _ z _=>ss.length-z.toNat,
  ⟨0,[],U,rfl,agP _,rfl,rfl,d7,λ_ _=>rfl,aI 3 ((St.flat (M:=[])).2 h)⟩,?_⟩
 clear h s4;rintro _ e8 _ e9 _ cA⟨q,bs,rs,rfl,hq,rfl,a0,Y,a6,h⟩;have bi:sub (hp X) (hp cA):=aC 4 h.l;have b1:bs.length<=24832:=by grind[CN,List.length_map]
 refine ae (λV=>?_) λV=>?_
 rotate_left
 ·have V:q=ss.length:=by grind
  subst V;refine j8 (bS (bD h) ⟨_,_,_,rfl,ss,ask,int,0,_,_,bs,rfl,hR,a0,?_⟩);have h:=cq h;exact St.Oo (h.pick 5 [0,1,4]) (bF (gw.trans a5))
 have V:q<ss.length:=by simp_all
 refine⟨_,_,_,B.c4 (sub.trans a5 bi),λo n c z w'=>∃(m:Nat)(bs:List pX)(rs:List (aG×Lq Int)),z=m/\m<=x.pl/\n=bs.length/\bs.map RF=Ip g ss q++gm g ss q m/\(rs.map Prod.fst).Nodup/\(∀k:aG,((q:Int)<k.st\/(k.st=q/\(m:Int)<=k.sym))->fN k rs=fN k U)/\St w' (own 3 o n c (gG bs)::aV (Bz bs)::mapA kb (mV U)::aV (mO 1 iv rs)::all X),λ_ _ _ z _=>x.pl-z.toNat,
  ⟨0,bs,rs,rfl,agP _,rfl,by simp_all[gm],Y,λk hk=>a6 k ω,h⟩,?_⟩
 clear h bi a0 Y a6 b1;rintro _ c6 _ bl _ cg⟨m,bs,rs,rfl,hm,rfl,a0,Y,a6,h⟩
 have b1:bs.length<=25000:=by
  have V:=CN g ss q;have W:=EB g ss q m;have h3:=congrArg List.length a0
  grind
 refine ae (λW=>?_) λW=>?_
 rotate_left
 ·have W:m=x.pl:=by grind
  subst W;refine⟨ξ,⟨q+1,bs,rs,σ,V,rfl,?_,Y,λk hk=>a6 k (.inl ω),h⟩,bR V⟩
  simp_all[EC]
 have W:m<x.pl:=by simp_all
 have eG:=b6 q m;refine(qN (κ:=aG) aT (rfl:ai Ty _=.map _ _) gC rfl rfl (h.pick 3 [2]) ⟨(q:Int),(m:Int)⟩).mono ?_;rintro _ am⟨rfl,e7⟩;rw[jD];have dF:gm g ss q (m+1)=gm g ss q m++xZ g ss q m:=Bi g ss q m
 have a4:dz (bV g ss).length (fe g ss q m)=[]->aA ((m:Int)+1)/\(∃(m':Nat)(a9:List pX)(av:List (aG×Lq Int)),(m:Int)+1=m'/\m'<=x.pl/\bs.length=a9.length/\a9.map RF=Ip g ss q++gm g ss q m'/\(av.map Prod.fst).Nodup/\(∀k:aG,((q:Int)<k.st\/(k.st=q/\(m':Int)<=k.sym))->fN k av=fN k U)/\St am (own 3 c6 bs.length bl (gG a9)::aV (Bz a9)::mapA kb (mV U)::aV (mO 1 iv av)::all X))/\x.pl-((m:Int)+1).toNat<x.pl-(m:Int).toNat:=λe=>by
  refine⟨ξ,⟨m+1,bs,rs,σ,W,rfl,?_,Y,λk hk=>a6 k (hk.elim .inl λhk=>.inr ⟨hk.1,ω⟩),by simp_all⟩,bR W⟩
  simp_all[xZ]
 cases hgq:fN (⟨(q:Int),(m:Int)⟩:aG) U with
 |none=>
  have e:dz (bV g ss).length (fe g ss q m)=[]:=by simp_all[j6]
  exact⟨_,_,_,rfl,bB σ (a4 e)⟩
 |some r=>
  have er:r.2=dz (bV g ss).length (fe g ss q m):=by simp_all[j6]
  refine⟨_,_,_,rfl,ae (λh3=>?_) λh3=>?_⟩
  rotate_left
  ·refine a4 ?_
   simp_all
  have h3:0<r.2.length:=by simp_all
  have eP:dz (bV g ss).length (fe g ss q m)≠[]:=by grind
  have cW:fN (⟨(q:Int),(m:Int)⟩:aG) rs=some r:=by simp_all
  have h:=h.eq (by grind:hp am=hp cg);have h4:=(St.flat.1 (h.pick 4 [3,0,1,2])).perm ((Yd (sz:=1) (f:=iv) Y cW).append_right _);have h:St am (own 1 r.1.1 r.2.length r.1.2 (iv r.2)::aV (mO 1 iv (rs.filter λe=>decide (e.1≠(⟨(q:Int),(m:Int)⟩:aG))))::own 3 c6 bs.length bl (gG bs)::aV (Bz bs)::mapA kb (mV U)::all X):=(St.flat.2 (h4.perm ahG.symm)).swap;clear h4;refine bm (bS (bD h) ⟨_,_,_,rfl,?_⟩);have h:=cq h;refine ag h λeB em h=>?_;have z1:(bs.length+1)*40<=140737488355328/\bs.length<9223372036854775807:=ω
  refine(aS (us:=gG bs) aT (rfl:ai Ty _=.slice _) (rfl:ai Ty _=.slice _) rfl rfl rfl (h.pick 6 [0,3,1,2,4,5]) rfl (by simp[aK]) z1.1 z1.2).mono ?_;rintro _ cF⟨cx,cz,rfl,h⟩;have dc:RF (((q:Int),(m:Int)),((fK r.1.1 0 r.2.length 1,r.2.length),r.2))=⟨(q:Int),(m:Int),dz (bV g ss).length (fe g ss q m)⟩:=by simp_all[RF]
  refine⟨_,_,_,rfl,ξ,⟨m+1,bs++[(((q:Int),(m:Int)),((fK r.1.1 0 r.2.length 1,r.2.length),r.2))],rs.filter λe=>decide (e.1≠(⟨(q:Int),(m:Int)⟩:aG)),σ,W,σ,?_,(Y.sublist (List.Sublist.map _ List.filter_sublist)),λk hk=>?_,?_⟩,bR W⟩
  ·simp_all[xZ]
  ·rw[Ps (s:=(⟨(q:Int),(m:Int)⟩:aG)) ?_]
   ·grind
   grind
  ·have h:=St.snoc (h.pick 6 [2,4,0,5,3]);have h3:St cF (own 3 cx (bs.length+1) cz (gG bs++[iI (q:Int),iI (m:Int),vS (fK r.1.1 0 r.2.length 1) r.2.length r.2.length])::aV (Bz bs++[own 1 (fK r.1.1 0 r.2.length 1) r.2.length r.2.length (iv r.2)])::mapA kb (mV U)::aV (mO 1 iv (rs.filter λe=>decide (e.1≠(⟨(q:Int),(m:Int)⟩:aG))))::all X):=h.pick 2 [1,0];rw[Tq,show Bz (bs++[(((q:Int),(m:Int)),((fK r.1.1 0 r.2.length 1,r.2.length),r.2))])=Bz bs++[own 1 (fK r.1.1 0 r.2.length 1) r.2.length r.2.length (iv r.2)] by unfold Bz;rw[ag7];rfl];exact h3
end
instance:uj np:={ n:=3,rd:=λh x vs=>∃(a:aiz)(c:Nat),vs=[iI x.st,iI x.prod,vS a x.tr.length c]/\aX h x.tr a x.tr.length,mono:=λs ⟨a,c,e,r⟩=>⟨a,c,e,r.mono s⟩,len:=λ⟨_,_,e,_⟩=>by simp_all }
section
variable{w:aiA}{L:List aE}{o:aiz}{c:Nat}
theorem adW{ds:List (Lq Int)}(h:St w (own 1 o ds.length c (ds.map bX)::aV (ds.map (bI 1 iv))::L)):aX (hp w) (ds.map (·.2)) o ds.length:=by
 have V:=dN 0 h.l;refine⟨σ,λi x hi=>?_⟩;rw[agS] at hi;cases hd:ds[i]? with
 |none=>simp_all
 |some p=>
  rw[hd] at hi;simp only[aif,Option.some.injEq] at hi;subst hi;have hA:(ds.map (bI 1 iv))[i]? =some (bI 1 iv p):=by simp_all
  have O:=St.out (h.pick 2 [1]) hA;have u:p.2.length<=p.1.2:=bD O;have W:aX (hp w) p.2 p.1.1 p.2.length:=bt rfl (dN 0 O.l)
  rcases V with e|⟨U,e,hc⟩
  ·simp_all
  ·refine⟨U,[bX p],e,λj v J=>?_,p.1.1,p.2.length,p.1.2,rfl,u,W⟩;cases j with
   |zero=>
    simp at J;subst J;rw[add_add,bh];have:=hc i (bX p) (by simp_all)
    simp_all[uj.n]
   |succ j=>simp_all
theorem Ye{h:Hp}{xss:List (List Int)}{i l:Nat}(r:aX h xss o l)(hi:i<l):∃x ad a c,xss[i]? =some x/\o=some ad/\(∀u:aiA,sub h (hp u)->u.cell? (ad.add i)=some (vS a x.length c))/\aX h x a x.length:=by
 obtain⟨x,ad,vs,O,ha,V,a,l',U,rfl,W,J⟩:=r.get hi;have hl:=J.1;subst hl;refine⟨x,ad,a,U,O,ha,λu s=>?_,J⟩;have:=V.cell0 s
 simp_all[bh,uj.n]
theorem agz{ds:List pX}(h:St w (own 3 o ds.length c (gG ds)::aV (Bz ds)::L)):aX (hp w) (ds.map RF) o ds.length:=by
 have J:=dN 0 h.l;refine⟨σ,λi x hi=>?_⟩;rw[agS] at hi;cases hd:ds[i]? with
 |none=>simp_all
 |some p=>
  rw[hd] at hi;simp only[aif,Option.some.injEq] at hi;subst hi;have hA:(Bz ds)[i]? =some (bI 1 iv p.2):=by simp_all[Bz]
  have U:=St.out (h.pick 2 [1]) hA;have O:aX (hp w) p.2.2 p.2.1.1 p.2.2.length:=bt rfl (dN 0 U.l)
  rcases J with e|⟨u,e,hc⟩
  ·have V:=congrArg List.length e
   grind[Tp,List.length_nil,List.getElem?_eq_some_iff]
  ·exact⟨u,bkE p,e,cJ (n:=3) (λ_=>rfl) ds u hc i p hd,p.2.1.1,p.2.1.2,rfl,O⟩
theorem Yf{h:Hp}{xs:List np}{l i:Nat}(r:aX h xs o l)(hi:i<l):∃x ad a c,xs[i]? =some x/\o=some ad/\aq h (ad.add (ff i 3)) [iI x.st,iI x.prod,vS a x.tr.length c]/\aX h x.tr a x.tr.length:=by
 obtain⟨x,ad,vs,O,ha,U,a,J,rfl,u⟩:=r.get hi;exact⟨x,ad,a,J,O,ha,U,u⟩
end
section
variable{g:ah}{nn:List Bool}{ss ss':List SQ}
theorem Yg(h:cD ss=cD ss')(i k:Nat):lF g nn ss i k=lF g nn ss' i k:=by grind[lF,xX,dh,Ih]
theorem abb(h:cD ss=cD ss')(i k:Nat):CH g nn ss i k=CH g nn ss' i k:=by
 unfold CH;rw[xX h];have e:∀q l,dw ss q l=dw ss' q l:=λq l=>MQ h l q
 simp_all
theorem Yh(h:cD ss=cD ss')(q m i:Nat):fe g ss q m i=fe g ss' q m i:=by grind[fe,xX,dw,MQ]
theorem Ts(h:cD ss=cD ss'):xY g nn ss=xY g nn ss':=by
 unfold xY;rw[xX h];refine ah0 λi _=>?_;rw[show lF g nn ss i=lF g nn ss' i from funext λk=>Yg h i k]
theorem Tt(h:cD ss=cD ss'):Bh g nn ss=Bh g nn ss':=by
 unfold Bh;rw[xX h];refine ah0 λi _=>?_;rw[show CH g nn ss i=CH g nn ss' i from funext λk=>abb h i k]
theorem abc(h:cD ss=cD ss')(q m:Nat):xZ g ss q m=xZ g ss' q m:=by
 unfold xZ;rw[xX h,show fe g ss q m=fe g ss' q m from funext λk=>Yh h q m k]
theorem Tu(h:cD ss=cD ss'):uV g ss=uV g ss':=by
 unfold uV;rw[MP h];have e:∀q j,gm g ss q j=gm g ss' q j:=λq j=>by unfold gm;rw[show xZ g ss q=xZ g ss' q from funext λm=>abc h q m]
 simp_all
end
def sc(es:List (List Int)):Bool:=!es.any λl=>l.any λx=>decide (x<0)||decide ((es.length:Int)<=x)
theorem Iq{es:List (List Int)}:sc es=true↔HQ es:=by simp[sc,HQ,List.any_eq_false]
section
variable{w:aiA}{a:aiz}{l c:Nat}{d:FuncId}{e:List Value}
theorem acT{xs:List Int}{p:Int->Bool}(hfl:Fn d=true)(hr:aX (hp w) xs a l)(hb:l<=4611686018427387904)
  (hP:∀x∈xs,∀u,hp u=hp w->ρ d (iI x::e) u λv u'=>v=vB (p x)/\hp u'=hp w):
  ρ 126 [vS a l c,.func (.func d) (Array.mk []) ⟨e⟩] w λv w'=>v=vB (xs.any p)/\hp w'=hp w:=by
 refine bZ ?_
 have key:ρ 90 [vS a l c,.func (.func d) (Array.mk []) ⟨e⟩] w λv w'=>∃n:Int,v=iI n/\(xs.any p=decide (0<=n))/\hp w'=hp w:=by
  refine bK ?_;have X:=hr.1;refine⟨λz w'=>∃j:Nat,z=j/\j<=l/\(∀k∈xs.take j,p k=false)/\hp w'=hp w,λz _=>l-z.toNat,⟨0,rfl,agP _,λk O=>by simp_all,rfl⟩,?_⟩;rintro _ z V⟨j,rfl,hj,Z,W⟩;refine ae (λJ=>?_) λJ=>?_
  rotate_left
  ·grind
  have J:j<l:=by simp_all
  obtain⟨k,O⟩:∃k,xs[j]? =some k:=⟨xs[j]'ω,agM _⟩;obtain⟨ad,U,hc⟩:=hr.at O;refine ax U J ⟨k,hc V (Gr.of_eq W),a_.2 ⟨hfl,(hP k (agL O) V W).mono ?_⟩⟩;rintro _ w2⟨rfl,Y⟩
  refine⟨_,rfl,ae (λhb=>?_) λhb=>?_⟩
  ·grind
  ·refine⟨ξ,⟨j+1,σ,ω,λy hy=>?_,Y⟩,bR J⟩
   grind[List.take_add_one]
 refine key.mono ?_
 simp_all
theorem afM{xs:List (List Int)}{p:List Int->Bool}(hfl:Fn d=true)(hr:aX (hp w) xs a l)(hb:l<=4611686018427387904)
  (hP:∀x∈xs,∀u o l c,hp u=hp w->aX (hp w) x o l->ρ d (vS o l c::e) u λv u'=>v=vB (p x)/\hp u'=hp w):
  ρ 380 [vS a l c,.func (.func d) (Array.mk []) ⟨e⟩] w λv w'=>v=vB (xs.any p)/\hp w'=hp w:=by
 refine jS ?_
 have key:ρ 394 [vS a l c,.func (.func d) (Array.mk []) ⟨e⟩] w λv w'=>∃n:Int,v=iI n/\(xs.any p=decide (0<=n))/\hp w'=hp w:=by
  refine lZ ?_;have a0:=hr.1;refine⟨λz w'=>∃j:Nat,z=j/\j<=l/\(∀k∈xs.take j,p k=false)/\hp w'=hp w,λz _=>l-z.toNat,⟨0,rfl,agP _,λk W=>by simp_all,rfl⟩,?_⟩;rintro _ z Z⟨j,rfl,hj,a4,Y⟩;refine ae (λO=>?_) λO=>?_
  rotate_left
  ·grind
  have O:j<l:=by simp_all
  obtain⟨k,ad,vs,W,V,J,o,X,c1,rfl,a5,U⟩:=hr.get O;rw[bh,show j*uj.n (List Int)=j from ahH j] at J;refine ax V O ⟨o,X,c1,J.cell0 (Gr.of_eq Y),a_.2 ⟨hfl,(hP k (agL W) Z o X c1 Y U).mono ?_⟩⟩;rintro _ w2⟨rfl,e2⟩
  refine⟨_,rfl,ae (λhb=>?_) λhb=>?_⟩
  ·grind
  ·refine⟨ξ,⟨j+1,σ,ω,λy hy=>?_,e2⟩,bR O⟩
   grind[List.take_add_one]
 refine key.mono ?_
 simp_all
theorem abd{es:List (List Int)}(hr:aX (hp w) es a l)(hb:l<=4611686018427387904)(hB:∀x∈es,x.length<=4611686018427387904):
  ρ 345 [vS a l c] w λv w'=>v=vB (sc es)/\Gr w w':=by
 refine Cf ?_;have hl:=hr.1;refine ag (St.all w) λV Y X=>?_;have g1:Gr w Y:=X.aP;have J:=(af 0 X.l).cell0 sZZ
 refine⟨_,_,_,J,(afM (p:=λl=>l.any λx=>decide (x<0)||decide ((es.length:Int)<=x)) (d:=AK) (e:=[vP (some (aM V))]) rfl (hr.mono g1) hb ?_).mono ?_⟩
 ·intro x hx u o l' c' W U
  refine xt ((acT (p:=λx=>decide (x<0)||decide ((es.length:Int)<=x)) (d:=vM) (e:=[vP (some (aM V))]) rfl (by rw[W];exact U) (by have:=U.1;grind) ?_).mono ?_)
  ·intro y hy u2 O
   refine tj (ae (λh=>?_) λh=>?_)
   ·simp_all
   ·refine⟨_,_,_,by rw[cG (O.trans W)];exact J,by grind,O⟩
  simp_all
 ·rintro _ w2⟨rfl,Z⟩;exact⟨_,rfl,rfl,g1.trans (Gr.of_eq Z)⟩
end
theorem Vd{P:Program}{w:aiA}(d:Nat){t e:TypeId}{a b:Addr}{q:Bool}{i:TypeInfo}(h:P.underlying t=some (.pointer e))(hi:P.info? e=some i)(hz:i.size≠0)(hs:(sameAddr a b).run P w=.ok q w):
  (Op.equalIn (d+1) t (.pointer (some a)) (.pointer (some b))).run P w=.ok q w:=by
 simp[Op.equalIn,bn h,sizeOf,typeInfo,hi,hz,hs]
theorem RI{P:Program}{w:aiA}{t e:TypeId}{a b:Addr}{q:Bool}{i:TypeInfo}(h:P.underlying t=some (.pointer e))(hi:P.info? e=some i)(hz:i.size≠0)(hs:(sameAddr a b).run P w=.ok q w):
  (Op.equal t (.pointer (some a)) (.pointer (some b))).run P w=.ok q w:=Vd 9999 h hi hz hs
theorem Fk{P:Program}{w:aiA}{t e:TypeId}{xo yo:Operand}{a b:Addr}{q:Bool}{i:TypeInfo}(h:P.underlying t=some (.pointer e))(hi:P.info? e=some i)(hz:i.size≠0)(hs:(sameAddr a b).run P w=.ok q w):
  (q9 .neq t xo yo (.pointer (some a)) (.pointer (some b))).run P w=.ok (vB (!q)) w:=by simp_all[q9,eqGuard,Go.binOp,RI]
theorem Ve{P:Program}{w:aiA}{L:List aE}{Ty:TypeId->Option dD}(hT:ec P Ty){t e:TypeId}{i:dD}{xo yo:Operand}{k1 k2:Nat}{v1 v2:List Value}(hk:ai Ty t=.ptr e)(hi:Ty e=some i)(hz:i.size≠0)(h:St w (az k1 v1::az k2 v2::L)):
  (q9 .neq t xo yo (.pointer (some ⟨k1,0,none⟩)) (.pointer (some ⟨k2,0,none⟩))).run P w=.ok (vB true) w:=by
 obtain⟨d,U,J⟩:=dJ hT hk σ;rw[QI J] at U;obtain⟨O,d2,ha⟩:=sE hT hi;obtain⟨e1,W⟩:=jM.1 h;obtain⟨e2,V⟩:=jM.1 h.swap
 have u:(⟨k1,0,none⟩:Addr)≠⟨k2,0,none⟩:=by
  intro e;cases e;obtain⟨g1,g2,dd,s1,s2,⟨_,x1⟩,g3,g4,Y,X,s4,⟨_,Z⟩,_⟩:=h
  rcases dd k1 with h|h
  ·simp_all
  ·rw[X k1 _ Z] at h;grind
 exact Fk U ha.inf (by rw[<-ha.size];omega) (run_sameAddr_other w u W.get V.get)
theorem Vf{P:Program}{w:aiA}{Ty:TypeId->Option dD}(hT:ec P Ty){t e:TypeId}{i:dD}{xo yo:Operand}{a:Addr}(hk:ai Ty t=.ptr e)(hi:Ty e=some i)(hz:i.size≠0):
  (q9 .neq t xo yo (.pointer (some a)) (.pointer (some a))).run P w=.ok (vB false) w:=by
 obtain⟨d,O,u⟩:=dJ hT hk σ;rw[QI u] at O;obtain⟨J,d2,ha⟩:=sE hT hi;exact Fk O ha.inf (by rw[<-ha.size];omega) (run_sameAddr_same w a)
def iq(es ow:List (List Int))(v:Nat)(x:Nat):Prop:=∃u,cX.Rc (En es) v u/\(x:Int)∈ow.getD u []
structure Yi(es ow:List (List Int))(v:Nat)(bs:List Bool):Prop where
 ln:bs.length=1024
 fn:∀x,bp bs x=true↔x<1024/\iq es ow v x
theorem iq.mutual{es ow:List (List Int)}{v u x:Nat}(h:cX.Rc (En es) v u)(hx:iq es ow u x):iq es ow v x:=by
 obtain⟨y,J,O⟩:=hx;exact⟨y,h.trans J,O⟩
theorem iq.step{es ow:List (List Int)}{g:List Nat}{v:Nat}(hv:v∈g)(hg:∀a∈g,∀b∈g,cX.Rc (En es) a b){x:Nat}:
  iq es ow v x↔(∃n∈g,(x:Int)∈ow.getD n [])\/∃n∈g,∃m∈En es n,m∉g/\iq es ow m x:=by
 constructor
 ·rintro⟨u,V,W⟩
  have key:∀a b,cX.Rc (En es) a b->a∈g->(x:Int)∈ow.getD b []->(∃n∈g,(x:Int)∈ow.getD n [])\/∃n∈g,∃m∈En es n,m∉g/\iq es ow m x:=by
   intro a b h
   induction h with
   |refl a=>grind
   | @step a m b U hr ih=>
    intro ha J
    by_cases O:m∈g
    ·simp_all
    ·exact .inr ⟨a,ha,m,U,O,b,hr,J⟩
  grind
 ·rintro(⟨n,hn,J⟩|⟨n,hn,m,U,_,J⟩)
  ·exact⟨n,hg v hv n hn,J⟩
  ·exact((hg v hv n hn).trans (cX.Rc.one U)) |> λh=>J.mutual h
def Tv(l:List (aiz)):List Value:=l.map λp=>Value.pointer p
theorem abe(l:List (aiz))(i:Nat)(p:aiz):(Tv l).set i (.pointer p)=Tv (l.set i p):=by simp[Tv]
theorem M1{l:List (aiz)}{i:Nat}{p:aiz}(h:l[i]? =some p):(Tv l)[i]? =some (.pointer p):=by grind[Tv]
def Bj(p:aiz)(l:List (aiz))(g:List Nat):List (aiz):=g.foldl (λl m=>l.set m p) l
theorem Ir(p:aiz):∀(g:List Nat)(l:List (aiz)),(Bj p l g).length=l.length
 |[],_=>rfl
 |m::g,l=>by show(Bj p (l.set m p) g).length=_;rw[Ir p g];simp
theorem Vg(p:aiz)(l:List (aiz))(g:List Nat)(m:Nat):Bj p l (g++[m])=(Bj p l g).set m p:=by simp[Bj]
theorem Pt(p:aiz):∀(g:List Nat)(l:List (aiz)),(∀m∈g,m<l.length)->∀v,(Bj p l g)[v]? =if v∈g then some p else l[v]?
 |[],l,_,v=>by rfl
 |m::g,l,h,v=>by
  have:=Pt p g (l.set m p) (λy hy=>by simp_all) v
  show(Bj p (l.set m p) g)[v]? =_
  grind
theorem Yj{L:List aE}{h:Hp}{A:aE}(i:Nat)(hl:aF L h)(e:vv L i=A:=by rfl)(hi:Nat.blt i (DT L)=true:=by rfl):∃h1,sub h1 h/\A h1:=by
 have:=eO i (by simp_all[lh]) hl
 simp_all
structure afN(es ow:List (List Int))(N:Nat)(gs:List (List Nat))(sets:List (aiz))(ps:List Go.Proofs.YtaoaemnefghnbaaGreatDoor.Ls)(gr:List (Nat×List Bool)):Prop where
 ls:sets.length=N
 lp:ps.length=N
 lg:gr.length=gs.length
 st:∀(i:Nat) g b B,gs[i]? =some g->gr[i]? =some (b,B)->∀v∈g,sets[v]? =some (some ⟨b,0,none⟩)/\Yi es ow v B/\∃p,ps[v]? =some p/\p.2=je B
section
variable{w:aiA}{L:List aE}{a oa:aiz}{N c oc l ks bs ko bo ke kn:Nat}{es ow:List (List Int)}{h0:Hp}
def ED(gr:List (Nat×List Bool)):List aE:=gr.map λp=>cU (some ⟨p.1,0,none⟩) p.2
def Vh(es ow:List (List Int))(ks bs ko bo N:Nat)(gs:List (List Nat)):aE:=Proofs.YtaoaemnefghnbaaGreatDoor.ex λy:List (aiz)×List Ls×List (Nat×List Bool)=>
 aV [Proofs.YtaoaemnefghnbaaGreatDoor.pu (afN es ow N gs y.1 y.2.1 y.2.2),az ks [vS (some ⟨bs,0,none⟩) N N],az bs (Tv y.1),az ko [vS (some ⟨bo,0,none⟩) N N],az bo (y.2.1.map HN),aV (y.2.1.map D6),aV (ED y.2.2)]
theorem CO{gs:List (List Nat)}:St w (Vh es ow ks bs ko bo N gs::L)↔∃(sets:List (aiz))(ps:List Ls)(gr:List (Nat×List Bool)),afN es ow N gs sets ps gr/\
  St w (az ks [vS (some ⟨bs,0,none⟩) N N]::az bs (Tv sets)::az ko [vS (some ⟨bo,0,none⟩) N N]::az bo (ps.map HN)::aV (ps.map D6)::aV (ED gr)::L):=by simp[Vh,St.ex,St.pu,St.flat]
theorem Yk{k1 k2:Nat}{B1 B2:List Bool}{xo yo:Operand}(h:St w (cU (some ⟨k1,0,none⟩) B1::cU (some ⟨k2,0,none⟩) B2::L)):
  (q9 .neq rr xo yo (.pointer (some ⟨k1,0,none⟩)) (.pointer (some ⟨k2,0,none⟩))).run Tryz.prog w=.ok (vB true) w:=by
 rcases mz h with⟨e,_⟩|⟨b,a,c,ws,e,_,h⟩
 ·grind
 ·cases e
  rcases mz (h.pick 3 [2,0,1]) with⟨e,_⟩|⟨U,J,O,u,e,_,h⟩
  ·grind
  ·cases e;exact Ve aT (rfl:ai Ty rr=.ptr _) rfl σ (h.pick 4 [2,0,1,3])
structure afO(es ow:List (List Int))(h0:Hp)(ke kn N:Nat)(a oa:aiz)(c oc:Nat):Prop where
 ce:aq h0 ⟨ke,0,none⟩ [vS a N c]
 cn:aq h0 ⟨kn,0,none⟩ [vS oa N oc]
 re:aX h0 es a N
 rn:aX h0 ow oa N
 Wa:dP h0
 bE:∀x∈es,x.length*8<=140737488355328
 bO:∀x∈ow,x.length*8<=140737488355328
 bN:N*24<=140737488355328
 rO:∀x∈ow,∀y∈x,0<=y/\y<1024
theorem adX(hR:HQ es)(C:afO es ow h0 ke kn N a oa c oc):acQ AJ [vP (some (aM ks)),vP (some (aM kn)),vP (some (aM ke)),vP (some (aM ko))] es λgs=>[Vh es ow ks bs ko bo N gs,has h0]:=by
 intro gs g F w o gc hG d9 h;have hN:es.length=N:=C.re.1;have b6:∀v∈g,v<N:=λv V=>by simp_all
 have ef:g.length<=N:=(hG.len d9).2 g σ |> λh=>ω
 have d0:∀x∈g,∀y∈g,cX.Rc (En es) x y:=(hG.2 gs g [] rfl).2.1;have ch:∀x∈g,∀y∈En es x,y∈g\/y∈gs.flatten:=(hG.2 gs g [] rfl).2.2;have dc:∀x∈g,x∉gs.flatten:=λx hx=>(cX.OM hG.1 rfl hx).1;have bN:=C.bN;obtain⟨J,ps,gr,hF,h⟩:=CO.1 (h.pick 3 [1,0,2]);refine xq ((UN 1024 (xs:=[]) aX.nil σ).mono ?_);rintro _ w1⟨b,rfl,U⟩;have h:=U.eM h
 --[0 set,1 ks,2 bs,3 ko,4 bo,5 lists,6 J,7 group,8 has]
 refine⟨_,rfl,λz w'=>∃i:Nat,z=i/\i<=g.length/\St w' (cU (some ⟨b,0,none⟩) (yz 1024 [])::az ks [vS (some ⟨bs,0,none⟩) N N]::az bs (Tv (Bj (some ⟨b,0,none⟩) J (g.take i)))::az ko [vS (some ⟨bo,0,none⟩) N N]::az bo (ps.map HN)::aV (ps.map D6)::aV (ED gr)::own 1 o g.length gc (dS g)::has h0::F),
  λz _=>g.length-z.toNat,⟨0,rfl,agP _,h⟩,?_⟩
 rintro _ z w2⟨i,rfl,hi,h⟩
 refine ae (λU=>?_) λU=>?_
 ·have U:i<g.length:=by simp_all
  obtain⟨v,V⟩:∃v,g[i]? =some v:=⟨g[i],agM _⟩;have b4:=b6 v (agL V);obtain⟨c8,a7,a4⟩:=cO (h.pick 9 [7,0,1,2,3,4,5,6,8]) (lr V);refine ax a7 U ⟨_,a4,_,_,_,(af 1 h.l).cell0 sZZ,ax rfl b4 ?_⟩;rw[ak];refine aR (h.pick 9 [2,0,1,3,4,5,6,7,8]) (by simp[Tv,Ir,hF.ls];omega) λw3 h=>⟨ξ,⟨i+1,rfl,U,?_⟩,bR U⟩;rw[abe] at h;rw[agR,V,ahS,Vg];exact h.pick 9 [1,2,0,3,4,5,6,7,8]
 have U:i=g.length:=by grind
 subst U;rw[ag9] at h;have c7:∀x:Nat,(yz 1024 []).length=1024/\bp (yz 1024 []) x=false:=λx=>⟨by unfold yz;rw[bu,ahX];rfl,by simp[yz,eR,gf,oy]⟩;have d4:∀v,(Bj (some ⟨b,0,none⟩) J g)[v]? =if v∈g then some (some (⟨b,0,none⟩:Addr)) else J[v]?:=Pt _ g J λm hm=>by rw[hF.ls];simp_all
 --the numbers come together
 let a6:Nat->Nat->Prop:=λi x=>(∃n∈g.take i,(x:Int)∈ow.getD n [])\/∃n∈g.take i,∃m∈En es n,m∉g/\iq es ow m x
 refine⟨λz w'=>∃(i:Nat)(B:List Bool),z=i/\i<=g.length/\B.length=1024/\(∀x,bp B x=true↔x<1024/\a6 i x)/\St w' (cU (some ⟨b,0,none⟩) B::az ks [vS (some ⟨bs,0,none⟩) N N]::az bs (Tv (Bj (some ⟨b,0,none⟩) J g))::az ko [vS (some ⟨bo,0,none⟩) N N]::az bo (ps.map HN)::aV (ps.map D6)::aV (ED gr)::own 1 o g.length gc (dS g)::has h0::F),
  λz _=>g.length-z.toNat,⟨0,_,rfl,agP _,(c7 0).1,λx=>?_,h⟩,?_⟩
 ·grind
 rintro _ z w4⟨i,B,rfl,hi,bb,c9,h⟩
 refine ae (λU=>?_) λU=>?_
 ·have U:i<g.length:=by simp_all
  obtain⟨n,hn⟩:∃n,g[i]? =some n:=⟨g[i],agM _⟩;have bz:=agL hn;have al:=b6 n bz;have s0:=aC 8 h.l;obtain⟨c8,a7,a4⟩:=cO (h.pick 9 [7,0,1,2,3,4,5,6,8]) (lr hn);obtain⟨xo,e7,ov,cW,cF,a9,o4,l4,c4,rfl,e0,b1⟩:=C.rn.get (i:=n) al;rw[bh,show n*uj.n (List Int)=n from ahH n] at a9;obtain⟨xe,eg,ev,ba,ci,Z,o6,l6,c6,rfl,e4,am⟩:=C.re.get (i:=n) al;rw[bh,show n*uj.n (List Int)=n from ahH n] at Z;have ei:=b1.1;have e9:=am.1;have dF:=C.bO xo (agL cW);have e5:=C.bE xe (agL ba);refine ax a7 U ⟨_,a4,_,_,_,C.cn.cell0 s0,ax cF al ⟨o4,l4,c4,a9.cell0 s0,(z7 (xs:=xo) h (λhh hl=>b1.mono (aC 7 hl)) ω).mono ?_⟩⟩;rintro _ w5⟨rfl,h⟩;have s0:=aC 8 h.l;refine⟨_,rfl,_,_,_,C.ce.cell0 s0,ax ci al ⟨o6,l6,c6,Z.cell0 s0,?_⟩⟩;have ek:=XB ba;have ej:ow.getD n []=xo:=by simp_all
  refine⟨λz w'=>∃(j:Nat)(Y:List Bool),z=j/\j<=l6/\Y.length=1024/\(∀x,bp Y x=true↔x<1024/\(a6 i x\/(x:Int)∈xo\/∃m∈(En es n).take j,m∉g/\iq es ow m x))/\St w' (cU (some ⟨b,0,none⟩) Y::az ks [vS (some ⟨bs,0,none⟩) N N]::az bs (Tv (Bj (some ⟨b,0,none⟩) J g))::az ko [vS (some ⟨bo,0,none⟩) N N]::az bo (ps.map HN)::aV (ps.map D6)::aV (ED gr)::own 1 o g.length gc (dS g)::has h0::F),
   λz _=>l6-z.toNat,⟨0,_,rfl,agP _,by simp_all[bu],λx=>?_,h⟩,?_⟩
  ·rw[eR,gf,bb,ahz,c9,ag1,ahc,List.contains_iff_mem]
   grind
  rintro _ z w6⟨j,Y,rfl,hj,a0,av,h⟩;have s0:=aC 8 h.l
  refine ae (λh2=>?_) λh2=>?_
  ·have h2:j<l6:=by simp_all
   obtain⟨mI,bT⟩:∃mI,xe[j]? =some mI:=⟨xe[j]'ω,agM _⟩
   obtain⟨m,b7,rfl⟩:∃m:Nat,(En es n)[j]? =some m/\mI=(m:Int):=by
    refine⟨mI.toNat,by simp_all,?_⟩;have:=hR xe (agL ba) mI (agL bT);omega
   have bc:m<N:=by have:=acP hR (agL b7);omega
   have be:∀{b5:List Bool},(∀x,bp b5 x=true↔bp Y x=true\/(x<1024/\m∉g/\iq es ow m x))->∀x,bp b5 x=true↔x<1024/\(a6 i x\/(x:Int)∈xo\/∃m∈(En es n).take (j+1),m∉g/\iq es ow m x):=by
    intro b5 hB x;rw[hB,av,agR,b7,ahS]
    constructor
    ·rintro(⟨p1,p2|p2|⟨y,q1,q2⟩⟩|⟨p1,p2⟩)
     ·simp_all
     ·simp_all
     ·grind
     simp_all
    ·rintro⟨p1,p2|p2|⟨y,q1,q2⟩⟩
     ·simp_all
     ·simp_all
     grind
   obtain⟨dl,bl,cx⟩:=am.at bT;have a8:=(af 2 h.l);refine ax bl h2 ⟨(m:Int),cx w6 s0,_,_,_,(af 1 h.l).cell0 sZZ,ax rfl bc ?_⟩
   by_cases bP:m∈g
   ·have ad:(Bj (some ⟨b,0,none⟩) J g)[m]? =some (some (⟨b,0,none⟩:Addr)):=by simp_all
    refine⟨some ⟨b,0,none⟩,a8.cell sZZ (M1 ad),⟨_,Vf aT (rfl:ai Ty rr=.ptr _) rfl σ,false,rfl,?_⟩⟩;refine⟨ξ,⟨j+1,Y,rfl,h2,a0,be λx=>⟨.inl,λh=>h.resolve_right λh=>h.2.1 bP⟩,h⟩,bR h2⟩
   ·have cz:m∈gs.flatten:=(ch n bz m (agL b7)).resolve_left bP;obtain⟨g2,d6,cg⟩:=List.mem_flatten.1 cz;obtain⟨k2,d8⟩:=ahb d6;obtain⟨⟨b2,B2⟩,dk⟩:∃y,gr[k2]? =some y:=⟨gr[k2]'(by rw[hF.lg];grind),agM _⟩;obtain⟨f1,f2,_⟩:=hF.st k2 g2 b2 B2 d8 dk m cg;have ad:(Bj (some ⟨b,0,none⟩) J g)[m]? =some (some (⟨b2,0,none⟩:Addr)):=by grind
    have ca:(ED gr)[k2]? =some (cU (some ⟨b2,0,none⟩) B2):=by grind[ED]
    have bi:=Yk (xo:=Operand.tmp 52) (yo:=Operand.tmp 53) ((St.Q6 (h.pick 9 [6,0,1,2,3,4,5,7,8]) ca).pick 3 [0,2]);refine⟨some ⟨b2,0,none⟩,a8.cell sZZ (M1 ad),⟨_,bi,true,rfl,?_⟩⟩;refine⟨_,_,_,(af 1 h.l).cell0 sZZ,ax rfl bc ⟨some ⟨b2,0,none⟩,a8.cell sZZ (M1 ad),ag h λcI w7 h=>?_⟩⟩;have h:=h.pick 10 [1,0,2,3,4,5,6,7,8,9]
    refine(SV (os:=[some ⟨b2,0,none⟩]) (vss:=[B2]) h (λhh hl=>h_ rfl (.inr ⟨_,rfl,(show aq hh ⟨cI,0,none⟩ [.pointer (some ⟨b2,0,none⟩)] from af 0 hl)⟩)) rfl (λhh hl y q v hq V=>?_) (λhh hl=>eE.mono (aC 8 hl) C.Wa) σ).mono ?_
    ·obtain⟨U,s1,ha⟩:=Yj 6 hl (A:=aV (ED gr));obtain⟨h3,s3,h4⟩:=ju (agL ca) ha;cases y with
     |zero=>cases hq;cases V;exact .inl ((DR h4).mono (s3.trans s1))
     |succ y=>grind
    rintro _ w8⟨rfl,h⟩;refine⟨_,rfl,ξ,⟨j+1,dH Y [B2],rfl,h2,by grind[Aw],be λx=>?_,h.pick 10 [0,2,3,4,5,6,7,8,9]⟩,bR h2⟩
    show bp (di Y (je B2)) x=true↔_
    rw[ia,a0,ahz,ag1,ahc,f2.fn]
    constructor
    ·grind
    grind
  ·have h2:j=l6:=by grind
   subst h2;refine⟨ξ,⟨i+1,Y,rfl,U,a0,λx=>?_,h⟩,bR U⟩;have cT:(En es n).take j=En es n:=ag4 (by simp_all);rw[av,cT];refine and_congr_right λ_=>?_
   show _↔(∃n∈g.take (i+1),_)\/∃n∈g.take (i+1),_
   rw[agR,hn,ahS]
   constructor
   ·rintro((⟨y,q1,q2⟩|⟨y,q1,q2⟩)|q|q)
    ·grind
    ·grind
    ·simp_all
    simp_all
   ·rintro(⟨y,q1,q2⟩|⟨y,q1,q2⟩)
    ·grind
    grind
 have U:i=g.length:=by grind
 subst U
 have e3:∀v∈g,Yi es ow v B:=λv V=>⟨bb,λx=>by
  rw[c9];refine and_congr_right λ_=>?_
  show(∃n∈g.take g.length,_)\/(∃n∈g.take g.length,_)↔_
  rw[ag9,iq.step V d0]⟩
 refine(DS (h.eV) (eE.mono (aC 8 h.l) C.Wa)).mono ?_;rintro _ w9⟨a5,c5,rfl,h5⟩;have h:=h5.eM h;have cA:(je B).length=bJ B:=BV B;have e6:bJ B<=1024:=by grind[iC]
 refine⟨_,_,_,rfl,λz w'=>∃(i:Nat)(O:List Ls),z=i/\i<=g.length/\O.length=N/\(∀v∈g.take i,∃p,O[v]? =some p/\p.2=je B)/\(∀v,v∉g->O[v]? =ps[v]?)/\
   St w' (own 1 a5 (bJ B) c5 (iv (je B))::cU (some ⟨b,0,none⟩) B::az ks [vS (some ⟨bs,0,none⟩) N N]::az bs (Tv (Bj (some ⟨b,0,none⟩) J g))::az ko [vS (some ⟨bo,0,none⟩) N N]::az bo (O.map HN)::aV (O.map D6)::aV (ED gr)::own 1 o g.length gc (dS g)::has h0::F),
  λz _=>g.length-z.toNat,⟨0,ps,rfl,agP _,hF.lp,λv V=>by simp_all,λ_ _=>rfl,h⟩,?_⟩
 rintro _ z cp⟨i,O,rfl,hi,cu,cN,e8,h⟩
 refine ae (λU=>?_) λU=>?_
 ·have U:i<g.length:=by simp_all
  obtain⟨v,V⟩:∃v,g[i]? =some v:=⟨g[i],agM _⟩;have b4:=b6 v (agL V);obtain⟨c8,a7,a4⟩:=cO (h.pick 10 [8,0,1,2,3,4,5,6,7,9]) (lr V);refine ax a7 U ⟨_,a4,λcc hd=>?_⟩;have h:=h.eq (aQ hd);have d3:=af 4 h.l;refine⟨λu=>Gr cc u,Gr.refl _,_,_,_,λu hu=>d3.cell0 hu,(OR (xs:=je B) (bt cA (dN 0 h.l)) ω ω).mono ?_⟩;rintro _ ck⟨X,W,rfl,cd⟩;have d5:Gr cc ck:=cd.aP;have h:=cd.eM h;refine⟨_,_,_,rfl,d5,ax rfl b4 ?_⟩;rw[ak]
  refine aR (h.pick 11 [6,0,1,2,3,4,5,7,8,9,10]) (by simp_all) λeb h=>⟨ξ,⟨i+1,O.set v ((X,W),je B),rfl,U,by simp_all,λu hu=>?_,λu hu=>?_,?_⟩,bR U⟩
  ·by_cases e:u=v
   ·grind
   ·rw[agR,V,ahS] at hu
    grind
  ·grind
  ·have h:=St.Xg (A:=own 1 X (je B).length W (iv (je B))) (M:=O.map D6) (h.pick 11 [1,7,0,2,3,4,5,6,8,9,10]) (n:=v) (by simp_all);have e1:(O.map HN).set v (.slice X (je B).length W)=(O.set v ((X,W),je B)).map HN:=by rw[ahn];rfl
   have e2:(O.map D6).set v (own 1 X (je B).length W (iv (je B)))=(O.set v ((X,W),je B)).map D6:=by rw[ahn];rfl
   rw[e1,e2] at h;exact h.pick 10 [2,3,4,5,6,1,0,7,8,9]
 have U:i=g.length:=by grind
 subst U;rw[ag9] at cN;refine⟨rfl,?_⟩
 show St cp (Vh es ow ks bs ko bo N (gs++[g])::has h0::F)
 refine CO.2 ⟨Bj (some ⟨b,0,none⟩) J g,O,gr++[(b,B)],⟨by rw[Ir];exact hF.ls,cu,by simp[hF.lg],λi g' b' Y aa b3 v V=>?_⟩,?_⟩
 ·by_cases e:i<gs.length
  ·rw[ag8 e] at aa;rw[ag8 (by rw[hF.lg];omega)] at b3;have d7:v∈gs.flatten:=List.mem_flatten.2 ⟨g',agL aa,V⟩;have ea:v∉g:=λh=>dc v h d7;obtain⟨q1,q2,q3⟩:=hF.st i g' b' Y aa b3 v V
   grind
  ·have cC:=(agN.1 aa).1;simp at cC;have e:i=gs.length:=ω
   subst e;rw[ahg (agT _),ah2] at aa;rw[ahg (by rw[hF.lg];omega),hF.lg,ah2] at b3
   grind
 ·have e1:ED (gr++[(b,B)])=ED gr++[cU (some ⟨b,0,none⟩) B]:=by simp[ED]
  rw[e1];exact(St.snoc (h.pick 10 [1,7,2,3,4,5,6,9])).pick 7 [1,2,3,4,5,0,6]
end
def Vi(l:List Int):Bool:=!l.any λx=>decide (x<0)||decide (1024<=x)
theorem Pu{l:List Int}:Vi l=true↔∀x∈l,0<=x/\x<1024:=by simp[Vi,List.any_eq_false]
def Fl(es ow:List (List Int)):Bool:=sc es&&ow.length==es.length&&ow.all Vi
section
variable{w:aiA}{L:List aE}{a oa:aiz}{N M c oc l:Nat}{es ow:List (List Int)}
def Tw(es ow:List (List Int))(ps:List Ls):Prop:=ps.length=es.length/\∀v,v<es.length->∃B p,Yi es ow v B/\ps[v]? =some p/\p.2=je B
theorem abf(hr:aX (hp w) es a N)(ho:aX (hp w) ow oa M)(ht:dP (hp w))(hB:∀l∈es,l.length*8<=140737488355328)(hO:∀l∈ow,l.length*8<=140737488355328)(hb:N*24<=140737488355328)(hM:M*24<=140737488355328):
  ρ 288 [vS a N c,vS oa M oc] w λv w'=>(Fl es ow=false/\v=.tuple (Array.mk [zS,iI 1])/\Gr w w')\/
   (Fl es ow=true/\∃(bo:Nat)(ps:List Ls),Tw es ow ps/\v=.tuple (Array.mk [vS (some ⟨bo,0,none⟩) N N,iI 0])/\St w' (own 1 (some ⟨bo,0,none⟩) N N (ps.map HN)::aV (ps.map D6)::all w)):=by
 have hN:=hr.1;have bl:=ho.1;refine Cd ?_;refine ag (St.all w) λke w1 h=>ag h λkn w2 h=>?_;have g2:Gr w w2:=h.tail.aP
 refine⟨λb w'=>b= !(sc es&&M==N)/\Gr w2 w',⟨_,_,_,(af 1 h.l).cell0 sZZ,(abd (hr.mono g2) ω λx hx=>by grind).mono ?_⟩,?_⟩
 ·rintro _ w3⟨rfl,g3⟩;have h:=h.gr g3
  refine⟨_,rfl,ae (λh1=>?_) λh1=>?_⟩
  ·simp_all
  ·have h1:sc es=true:=by simp_all
   refine⟨_,_,_,(af 0 h.l).cell0 sZZ,_,_,_,(af 1 h.l).cell0 sZZ,?_,g3⟩
   grind
 rintro _ b2 w4⟨rfl,X⟩
 refine ae (λh1=>?_) λh1=>?_
 ·refine .inl ⟨?_,rfl,g2.trans X⟩
  grind[sc,Fl]
 have h1:(sc es&&M==N)=true:=by simp_all
 obtain⟨h2,h3⟩:=Bool.and_eq_true_iff.1 h1;have h3:M=N:=by simp_all
 subst h3;have h:=h.gr X;have bc:=hr.mono (g2.trans X);have al:=ho.mono (g2.trans X);refine⟨_,_,_,(af 0 h.l).cell0 sZZ,λz w'=>∃i:Nat,z=i/\i<=M/\(∀x∈ow.take i,Vi x=true)/\hp w'=hp w4,λz _=>M-z.toNat,⟨0,rfl,agP _,λx hx=>by simp_all,rfl⟩,?_⟩;rintro _ z U⟨i,rfl,hi,a4,Y⟩
 refine ae (λO=>?_) λO=>?_
 ·have O:i<M:=by simp_all
  obtain⟨x,ad,vs,hx,b5,V,o,l1,c1,rfl,bi,a0⟩:=al.get O;rw[bh,show i*uj.n (List Int)=i from ahH i] at V;have be:=hO x (agL hx);have b7:=a0.1
  refine ax b5 O ⟨o,l1,c1,V.cell0 (Gr.of_eq Y),(acT (p:=λx=>decide (x<0)||decide (1024<=x)) (d:=AI) (e:=[]) rfl (by rw[Y];exact a0) ω ?_).mono ?_⟩
  ·intro y hy u hu
   refine xm (ae (λh=>?_) λh=>?_)
   ·simp_all
   grind
  rintro _ w6⟨rfl,e6⟩
  refine⟨_,rfl,ae (λh5=>?_) λh5=>?_⟩
  ·refine .inl ⟨?_,rfl,(g2.trans X).trans (Gr.of_eq (e6.trans Y))⟩
   grind[Fl,Bool.and_eq_false_iff,List.all_eq_false,List.mem_of_getElem?,Vi]
  ·refine⟨ξ,⟨i+1,rfl,O,λy hy=>?_,e6.trans Y⟩,bR O⟩
   grind[List.take_add_one,Vi]
 have O:i=M:=by grind
 subst O;rw[ag4 ω] at a4;have h:=h.eq Y;have am:Fl es ow=true:=by simp_all[Fl]
 refine⟨_,_,_,(af 1 h.l).cell0 sZZ,⟨ω,rfl,ω⟩,?_⟩
 --from here on what there is stays as it is
 have a5:=St.all U;refine ag a5 λbs w7 h7=>ag h7 λks w8 h8=>aR h8 σ λw9 h9=>?_;have c1:∀{u:aiA}{v:List Value}{L':List aE}{b:Nat},Gr U u->u.cell? (aM ke)=some (vS a i c):=λg=>(af 1 h.l).cell0 g;refine⟨_,_,_,c1 (v:=[]) (L':=[]) (b:=0) h9.tail.tail.has,⟨ω,rfl,ω⟩,ag h9 λbo bb a8=>ag a8 λko bz av=>aR av σ λa9 Z=>?_⟩;refine⟨_,_,_,c1 (v:=[]) (L':=[]) (b:=0) Z.tail.tail.tail.tail.has,?_⟩;have J:aX (hp U) es a i:=by simp_all
 have a6:aX (hp U) ow oa i:=by simp_all
 have C:afO es ow (hp U) ke kn i a oa c oc:=⟨af 1 h.l,af 0 h.l,J,a6,by rw[Y];exact eE.mono (g2.trans X) ht,hB,hO,hb,λx hx=>Pu.1 (a4 x hx)⟩;have hR:=Iq.1 h2
 have b1:St a9 ([Vh es ow ks bs ko bo i [],has (hp U)]++[]):=by
  have q1:gD (Int.toNat (i:Int)) [vP none]=Tv (List.replicate i none):=by simp[cZ,Tv]
  have q2:gD (Int.toNat (i:Int)) [zS]=(List.replicate i (((none,0),[]):Ls)).map HN:=by simp[cZ,HN]
  rw[q1,q2] at Z;have a7:=(St.flat (M:=ED [])).2 (B6 (A:=D6 ((none,0),[])) (λw L h=>aI 1 h) i Z);have q3:List.replicate i (D6 ((none,0),[]))=(List.replicate i (((none,0),[]):Ls)).map D6:=σ
  rw[q3] at a7;exact CO.2 ⟨_,_,[],⟨σ,σ,rfl,λk g b B hk=>σ⟩,a7.pick 7 [4,5,2,3,1,0,6]⟩
 refine(adH (Q:=λgs=>[Vh es ow ks bs ko bo i gs,has (hp U)]) (L:=[]) rfl (adX hR C) (λgs hh hs=>J.mono (aC 1 hs)) hR hB hb b1).mono ?_;rintro _ ba⟨rfl,gs,hG,W,h⟩;obtain⟨b6,ps,gr,hF,h⟩:=CO.1 h
 refine⟨rfl,_,_,_,(af 2 h.l).cell0 sZZ,.inr ⟨am,bo,ps,⟨by rw[hF.lp,hN],λv hv=>?_⟩,rfl,?_⟩⟩
 ·have b3:=(W v).2 ω;obtain⟨g,hg,aa⟩:=List.mem_flatten.1 b3;obtain⟨k,hk⟩:=ahb hg;obtain⟨⟨b,B⟩,b4⟩:∃y,gr[k]? =some y:=⟨gr[k]'(by rw[hF.lg];grind),agM _⟩;obtain⟨_,q2,p,q3,q4⟩:=hF.st k g b B hk b4 v aa
  grind
 ·have h:=h.pick 7 [3,4,6];have h:=bg (sz:=1) (l:=i) (c:=i) (cs:=[]) (by rw[ahe];exact h) (by simp[hF.lp]) (by simp[hF.lp]) (agT _);have g5:Gr w U:=(g2.trans X).trans (Gr.of_eq Y);exact((h.pick 3 [2,0,1]).head (B:=has (hp w)) λhh hs=>sub.trans g5 hs).pick 3 [1,2,0]
end
section
variable{es ow:List (List Int)}
open Classical in
noncomputable def se(es ow:List (List Int))(v:Nat):List Int:=dz 1024 λx=>decide (iq es ow v x)
noncomputable def Is(es ow:List (List Int)):List (List Int):=(List.range es.length).map (se es ow)
theorem It:(Is es ow).length=es.length:=by simp[Is]
theorem Iu{v:Nat}(h:v<es.length):(Is es ow)[v]? =some (se es ow v):=by simp_all[Is]
theorem mF{v:Nat}{z:Int}:z∈se es ow v↔∃x:Nat,z=x/\x<1024/\iq es ow v x:=by simp[se,gl]
theorem Pv{v:Nat}:pU (se es ow v):=tU _ _
theorem RJ{v:Nat}:(se es ow v).length<=1024:=pV _ _
theorem iq.iff{v x:Nat}:iq es ow v x↔(x:Int)∈ow.getD v []\/∃m∈En es v,iq es ow m x:=by
 constructor
 ·rintro⟨u,h,J⟩;cases h with
  |refl=>simp_all
  |step O U=>exact .inr ⟨_,O,_,U,J⟩
 ·rintro(h|⟨m,O,u,U,J⟩)
  ·exact⟨v,.refl v,h⟩
  ·exact⟨u,.step O U,J⟩
theorem iq.least{Q:Nat->Nat->Prop}(h1:∀v x:Nat,(x:Int)∈ow.getD v []->Q v x)(h2:∀v m x:Nat,m∈En es v->Q m x->Q v x){v x:Nat}(h:iq es ow v x):Q v x:=by
 obtain⟨u,h,J⟩:=h
 induction h with
 |refl a=>exact h1 a x J
 |step ha hb ih=>exact h2 _ _ _ ha (ih J)
theorem Tx(B:List Bool):je B=dz B.length (bp B):=by rfl
theorem Iv{n:Nat}{f f':Nat->Bool}(h:∀k,k<n->f k=f' k):dz n f=dz n f':=by grind[dz,List.filter_congr]
open Classical in
theorem Yi.row{v:Nat}{B:List Bool}(h:Yi es ow v B):je B=se es ow v:=by
 rw[Tx,h.ln];unfold se;refine Iv λk u=>?_;have:=h.fn k
 grind
theorem Tw.rows{ps:List Ls}(h:Tw es ow ps):ps.map (·.2)=Is es ow:=by
 apply ahp;intro v
 by_cases u:v<es.length
 ·obtain⟨B,p,O,U,J⟩:=h.2 v u;rw[agS,U,Iu u];simp only[aif];rw[J,O.row]
 ·rw[ahk (by rw[ag5,h.1];omega),ahk (by grind[It])]
end
section
variable{g:ah}{nn nn':List Bool}{ss ss':List SQ}
def wj(g:ah)(ss:List SQ):List (List Int):=(bV g ss).map (kH g ss)
noncomputable def Tz(g:ah)(nn:List Bool)(ss:List SQ):List (List Int):=Is (xY g nn ss) (wj g ss)
noncomputable def Pw(g:ah)(nn:List Bool)(ss:List SQ):List (List Int):=Is (Bh g nn ss) (Tz g nn ss)
theorem TA(h:cD ss=cD ss'):wj g ss=wj g ss':=by grind[wj,xX,List.map_congr_left,XW]
theorem Yl(h:cD ss=cD ss'):Tz g nn ss=Tz g nn ss':=by grind[Tz,Ts,TA]
theorem adY(h:cD ss=cD ss'):Pw g nn ss=Pw g nn ss':=by grind[Pw,Tt,Yl]
theorem Iw:(xY g nn ss).length=(bV g ss).length:=by simp[xY]
theorem Ix:(Bh g nn ss).length=(bV g ss).length:=by simp[Bh]
theorem Ym:(wj g ss).length=(bV g ss).length:=by simp[wj]
theorem abg:(Tz g nn ss).length=(bV g ss).length:=by simp[Tz,It,Iw]
theorem abh:(Pw g nn ss).length=(bV g ss).length:=by simp[Pw,It,Ix]
structure iR where
 st:Int
 prod:Int
 tm:List Int
deriving DecidableEq
instance:Inhabited iR:=⟨⟨0,0,[]⟩⟩
open Classical in
noncomputable def lI(g:ah)(fs:List (List Int))(b:np):iR:=⟨b.st,b.prod,dz g.T λx=>decide (∃t∈b.tr,(x:Int)∈fs.getD t.toNat [])⟩
noncomputable def dt(g:ah)(nn:List Bool)(ss:List SQ):List iR:=(uV g ss).map (lI g (Pw g nn ss))
theorem La(h:cD ss=cD ss'):dt g nn ss=dt g nn ss':=by grind[dt,Tu,adY]
end
section
variable{g:ah}{nn:List Bool}{ss:List SQ}
theorem afP(hc:aw g):∃nn,lE g nn:=by
 refine⟨(List.range g.N).map λi=>@decide (Ik g ((g.T+i:Nat):Int)) (Classical.propDecidable _),σ,λi=>?_⟩;unfold bp;rw[agU,agS]
 by_cases hi:i<g.N
 ·simp_all
 ·rw[ahk (by simp_all)];simp only[Option.map_none,Option.getD_none,Bool.false_eq_true,false_iff];intro h
  have:((g.T+i:Nat):Int)<g.T+g.N:=by
   cases hs:((g.T+i:Nat):Int) with
   |ofNat n=>
    rw[hs] at h;generalize hz:(Int.ofNat n)=z at h;cases h with
    |mk p hp _=>
     have:=(Gc (.inr hc)).1 p hp|>.1
     omega
   |negSucc n=>omega
  omega
structure Px(F:ah->List Bool->List SQ->List (List Int)):Prop where
 es:∀{g nn ss ss'},cD ss=cD ss'->F g nn ss=F g nn ss'
 ln:∀{g nn ss},(F g nn ss).length=(bV g ss).length
def Fm(F:ah->List Bool->List SQ->List (List Int))(g:ah)(w:aiA)(v:Value)(w':aiA):Prop:=∃(ss:List SQ)(ask int f:Int)(nn:List Bool)(o:aiz)(c:Nat)(ds:List (Lq Int)),v=.tuple #[vS o ds.length c,iI f]/\Fh g ss ask int f/\(f=0->lE g nn)/\ds.map (·.2)=F g nn ss/\St w' (own 1 o ds.length c (ds.map bX)::aV (ds.map (bI 1 iv))::all w)
theorem Px.nil{F:ah->List Bool->List SQ->List (List Int)}(h:Px F):F g nn []=[]:=by
 have:=h.ln (g:=g) (nn:=nn) (ss:=[])
 simp_all[ag2,bV,yH]
theorem adZ:Px λg _ ss=>wj g ss:=⟨λh=>TA h,Ym⟩
theorem ad1:Px xY:=⟨λh=>Ts h,Iw⟩
theorem ad5:Px Bh:=⟨λh=>Tt h,Ix⟩
theorem afQ:Px Tz:=⟨λh=>Yl h,abg⟩
theorem Fh.nil{a i f:Int}(h:Fh g ss a i f)(hf:f≠0):ss=[]:=by
 rcases h with⟨_,e,_⟩|⟨_,_,e,_⟩|⟨_,_,_,_,e⟩<;>first|omega|omega
theorem TB(hc:aw g)(hA:bC g ss){l:List Int}(hl:l∈wj g ss):l.length<=66/\pU l/\∀z∈l,0<=z/\z<g.T:=by
 obtain⟨t,ht,rfl⟩:=agY.1 hl;obtain⟨X,hN,_⟩:=hc.cK;obtain⟨i,q,k,e,hi,V,U,O,rfl⟩:=lD ht;obtain⟨_,_,j,r,Y,J,u,W,_⟩:=dm hc hA V U;rw[Ig (j:=j) (q:=r) (by grind[xW]) u,aa5 hc hA u]
 refine⟨?_,tU _ _,λz Z=>?_⟩
 ·grind
 grind
theorem Lb{n:Nat}{f:Nat->Nat->Bool}:sc ((List.range n).map λi=>dz n (f i))=true:=by
 rw[Iq];intro l hl x u;obtain⟨i,_,rfl⟩:=agY.1 hl;obtain⟨k,rfl,J,_⟩:=gl.1 u
 simp_all
theorem TC{es ow:List (List Int)}{l:List Int}(h:l∈Is es ow):l.length<=1024/\pU l/\∀z∈l,0<=z/\z<1024:=by
 unfold Is at h;obtain⟨v,_,rfl⟩:=agY.1 h;refine⟨RJ,Pv,λz u=>?_⟩;obtain⟨x,rfl,J,_⟩:=mF.1 u;omega
end
section
variable{w:aiA}{L:List aE}{g:ah}{x:GA}
theorem Iy{f1 f2:FuncId}{E O:ah->List Bool->List SQ->List (List Int)}(hE:Px E)(hO:Px O)(hf1:Fn f1=true)(hf2:Fn f2=true)(hg:gR (hp w) g x)(ht:dP (hp w))
  (C1:∀u,Gr w u->ρ f1 [.agg ⟨x.cells⟩] u (Fm O g u)) (C2:∀u,Gr w u->ρ f2 [.agg ⟨x.cells⟩] u (Fm E g u))
  (hOb:∀{nn ss},aw g->bC g ss->∀l∈O g nn ss,l.length<=33280/\∀z∈l,0<=z/\z<1024) (hEb:∀{nn ss},aw g->bC g ss->sc (E g nn ss)=true/\∀l∈E g nn ss,l.length<=33280):
  ρ 194 [.agg #[.func (.func f1) #[] #[],.func (.func f2) #[] #[]],.agg ⟨x.cells⟩] w (Fm (λg nn ss=>Is (E g nn ss) (O g nn ss)) g w):=by
 refine rJ (ag (St.all w) λk1 w1 h=>?_);have a5:Gr w w1:=h.aP;have r1:aq (hp w1) (aM k1) _:=af 0 h.l;clear h;refine gi (hg.mono a5) λk2 w2 W ba B=>?_;have a4:Gr w w2:=a5.trans W;refine⟨_,_,r1.cell W (j:=0) rfl,_,_,_,_,_,_,_,_,_,_,_,_,_,B.row sZZ,a_.2 ⟨hf1,(C1 w2 a4).mono ?_⟩⟩;rintro _ w3⟨ss,ask,int,f,nn,o,c,ds,rfl,hR,hn,a8,h⟩;have X:Gr w2 w3:=aC 2 h.l;have Z:=a4.trans X
 refine⟨_,_,_,_,rfl,ae (λY=>?_) λY=>?_⟩
 ·have Y:f≠0:=by simp_all
  have hz:=hR.nil Y;subst hz;refine⟨[],ask,int,f,nn,none,0,[],rfl,hR,hn,?_,aI 1 ((St.flat (M:=[])).2 (St.here Z))⟩
  show[]=Is (E g nn []) (O g nn [])
  rw[hE.nil,hO.nil];rfl
 have Y:f=0:=by simp_all
 subst Y;obtain⟨hc,hA⟩:=hR.Qs rfl;have av:=hn rfl;have rO:=adW h;rw[a8] at rO;have b6:ds.length=(bV g ss).length:=by have:=congrArg List.length a8;rw[ag5,hO.ln] at this;omega
 have b7:=yb hc hA;clear h;refine⟨_,_,r1.cell (W.trans X) (j:=1) rfl,_,_,_,_,_,_,_,_,_,_,_,_,_,B.row X,a_.2 ⟨hf2,(C2 w3 Z).mono ?_⟩⟩;rintro _ w4⟨ad,b5,b4,b1,U,o2,c2,V,rfl,b3,am,J,h⟩;have a7:Gr w3 w4:=aC 2 h.l;have a0:=Z.trans a7
 obtain⟨ef,al⟩:b1=0/\cD ss=cD ad:=by
  obtain⟨e1,e2,_⟩:=hR.one b3
  simp_all
 subst ef;have en:=(am rfl).inj av;subst en;rw[<-hE.es al] at J;have aa:=adW h;rw[J] at aa;have a6:V.length=(bV g ss).length:=by have:=congrArg List.length J;rw[ag5,hE.ln] at this;omega
 clear h;obtain⟨q1,q2⟩:=hEb (nn:=U) hc hA;have q3:=hOb (nn:=U) hc hA;refine⟨_,_,_,_,rfl,ae (λY=>by simp_all) λ_=>?_⟩;refine(abf aa (rO.mono a7) (eE.mono a0 ht) (λl hl=>by grind) (λl hl=>by grind) ω ω).mono ?_
 have bb:Fl (E g U ss) (O g U ss)=true:=by
  unfold Fl;rw[q1,hO.ln,hE.ln,aiv];simp only[beq_self_eq_true,aiv,ah4]
  grind[Pu]
 rintro _ w5 (⟨Y,_⟩|⟨_,bo,ps,a9,rfl,h⟩)
 ·simp_all
 have b2:ps.length=V.length:=by rw[a9.1,hE.ln,a6]
 refine⟨_,_,_,_,rfl,ss,ask,int,0,U,some ⟨bo,0,none⟩,V.length,ps,by grind,hR,hn,Tw.rows a9,?_⟩;rw[b2];exact St.Oo h (bF a0)
variable{w:aiA}{L:List aE}{g:ah}{x:GA}
theorem Fo:ρ 193 [] w λv w'=>∃k:Nat,v=vS (some (aM k)) 2 2/\St w' (az k [.func (.func pP) #[] #[],.func (.func pW) #[] #[],.func (.func xk) #[] #[],.func (.func lH) #[] #[]]::all w):=
 AH (ag (St.all w) λu J h=>⟨u,rfl,h⟩)
theorem Yn(hg:gR (hp w) g x)(hb:lq g):ρ pP [.agg ⟨x.cells⟩] w (Fm (λg _ ss=>wj g ss) g w):=by
 refine(Rt hg hb).mono ?_;rintro _ O⟨ss,ask,int,f,o,c,ds,rfl,J,u,h⟩
 by_cases hf:f=0
 ·obtain⟨nn,hn⟩:=afP (J.Qs hf).1;exact⟨ss,ask,int,f,nn,o,c,ds,rfl,J,λ_=>hn,u,h⟩
 ·exact⟨ss,ask,int,f,[],o,c,ds,rfl,J,λh=>absurd h hf,u,h⟩
theorem abi(hg:gR (hp w) g x)(hb:lq g)(ht:dP (hp w)):ρ pW [.agg ⟨x.cells⟩] w (Fm xY g w):=aa9 hg hb ht
theorem RK(hg:gR (hp w) g x)(hb:lq g)(ht:dP (hp w)):ρ lH [.agg ⟨x.cells⟩] w (Fm Bh g w):=RG hg hb ht
theorem Vj(hg:gR (hp w) g x)(hb:lq g)(ht:dP (hp w)):ρ xk [.agg ⟨x.cells⟩] w (Fm Tz g w):=by
 refine D3 (gi hg λk1 Z gw O B=>?_);intro w2 hd;have V:Gr Z w2:=Gr.of_eq (aQ hd);refine⟨λu=>Gr Z u,V,_,_,_,_,_,_,_,_,_,_,_,_,_,λu g=>B.row g,Fo.mono ?_⟩;rintro _ W⟨k,rfl,h⟩;have X:Gr w2 W:=aC 1 h.l;have J:=V.trans X;have r:aq (hp W) (aM k) _:=af 0 h.l;clear h;have U:Gr w W:=sub.trans gw J;refine⟨_,_,_,rfl,λu=>Gr W u,Gr.refl _,λu g=>J.trans g,aO (i:=0) rfl σ ⟨_,_,_,_,λu g=>(r.part 0 2).at g rfl,?_⟩⟩
 refine(Iy ad1 adZ rfl rfl (O.mono J) (eE.mono U ht) (λu g=>Yn (O.mono (J.trans g)) hb) (λu g=>abi (O.mono (J.trans g)) hb (eE.mono (sub.trans U g) ht)) (λhc hA l hl=>?_) λhc hA=>⟨Lb,λl hl=>?_⟩).mono ?_
 ·obtain⟨h1,_,h2⟩:=TB hc hA hl;obtain⟨hT,_⟩:=hc.cK
  grind
 ·unfold xY at hl;obtain⟨j,_,rfl⟩:=agY.1 hl
  grind[Nat.le_trans,pV,yb]
 ·rintro _ w4⟨ss,ask,int,f,nn,o,c,ds,rfl,hR,hn,Y,h⟩;exact⟨_,_,_,_,rfl,aC 2 h.l,ss,ask,int,f,nn,o,c,ds,rfl,hR,hn,Y,St.Oo h (bF U)⟩
theorem Py(hg:gR (hp w) g x)(hb:lq g)(ht:dP (hp w)):ρ 100 [.agg ⟨x.cells⟩] w (Fm Pw g w):=by
 refine AF (gi hg λk1 Z gw U B=>?_);intro w2 hd;have V:Gr Z w2:=Gr.of_eq (aQ hd);refine⟨λu=>Gr Z u,V,_,_,_,_,_,_,_,_,_,_,_,_,_,λu g=>B.row g,Fo.mono ?_⟩;rintro _ W⟨k,rfl,h⟩;have X:Gr w2 W:=aC 1 h.l;have J:=V.trans X;have r:aq (hp W) (aM k) _:=af 0 h.l;clear h;have O:Gr w W:=sub.trans gw J;refine⟨_,_,_,rfl,λu=>Gr W u,Gr.refl _,λu g=>J.trans g,aO (i:=1) rfl σ ⟨_,_,_,_,λu g=>(r.part 1 2).at g rfl,?_⟩⟩
 refine(Iy ad5 afQ rfl rfl (U.mono J) (eE.mono O ht) (λu g=>Vj (U.mono (J.trans g)) hb (eE.mono (sub.trans O g) ht)) (λu g=>RK (U.mono (J.trans g)) hb (eE.mono (sub.trans O g) ht)) (λhc hA l hl=>?_) λhc hA=>⟨Lb,λl hl=>?_⟩).mono ?_
 ·obtain⟨h1,_,h2⟩:=TC hl
  grind
 ·unfold Bh at hl;obtain⟨j,_,rfl⟩:=agY.1 hl
  grind[Nat.le_trans,pV,yb]
 ·rintro _ w4⟨ss,ask,int,f,nn,o,c,ds,rfl,hR,hn,Y,h⟩;exact⟨_,_,_,_,rfl,aC 2 h.l,ss,ask,int,f,nn,o,c,ds,rfl,hR,hn,Y,St.Oo h (bF O)⟩
end
section
variable{g:ah}{nn:List Bool}{ss:List SQ}
theorem M3{b:np}(h:b∈uV g ss):∃q m:Nat,q<ss.length/\m<g.prods.length/\b=⟨(q:Int),(m:Int),dz (bV g ss).length (fe g ss q m)⟩/\dz (bV g ss).length (fe g ss q m)≠[]:=by grind[uV,gm,xZ,List.mem_singleton]
theorem ad6{b:np}(h:b∈uV g ss){t:Int}(ht:t∈b.tr):∃j:Nat,t=j/\j<(bV g ss).length:=by
 obtain⟨q,m,_,_,rfl,_⟩:=M3 h;obtain⟨j,rfl,u,_⟩:=gl.1 ht
 grind
theorem TD(hc:aw g)(hA:bC g ss):(uV g ss).length<=24832/\∀b∈uV g ss,b.tr.length<=33280:=by
 refine⟨?_,λb hb=>?_⟩
 ·have U:=CN g ss ss.length;have u:=hA.dn.2.1;obtain⟨W,O,J,_⟩:=hc.cK;have V:ss.length*g.prods.length<=256*97:=ah6 u J
  show(Ip g ss ss.length).length<=_
  omega
 ·obtain⟨q,m,_,_,rfl,_⟩:=M3 hb
  grind[Nat.le_trans,pV,yb]
def yc(b:pX):iR:=⟨b.1.1,b.1.2,b.2.2⟩
def LkB(g:ah)(fs:List (List Int))(tr:List Int)(B:List Bool):Prop:=B.length=g.T/\∀y,bp B y=true↔y<g.T/\∃t∈tr,(y:Int)∈fs.getD t.toNat []
theorem LkB.nil(hT:g.T<=1024)(fs:List (List Int)):LkB g fs [] (yz (g.T:Int) []):=by
 have e:KL (g.T:Int)=g.T:=aau hT;refine⟨by rw[L0,e],λy=>?_⟩;simp[yz,eR,gf,oy]
theorem LkB.snoc{fs:List (List Int)}{tr row:List Int}{t:Int}{B:List Bool}(h:LkB g fs tr B)(hr:fs.getD t.toNat []=row):LkB g fs (tr++[t]) (di B row):=by
 refine⟨by rw[bu];exact h.1,λy=>?_⟩;rw[eR];unfold gf;rw[ahz,ag1,ahc,h.2,h.1,List.contains_iff_mem]
 grind
open Classical in
theorem LkB.row{fs:List (List Int)}{b:np}{B:List Bool}(h:LkB g fs b.tr B):lI g fs b=⟨b.st,b.prod,je B⟩:=by
 unfold lI;rw[Tx,h.1];congr 1;refine Iv λk u=>?_;have:=h.2 k
 grind
theorem RL:(dt g nn ss).length=(uV g ss).length:=by simp[dt]
end
section
variable{w:aiA}{L:List aE}{g:ah}{x:GA}
theorem Yo(hg:gR (hp w) g x)(hb:lq g)(ht:dP (hp w)):ρ 42 [.agg ⟨x.cells⟩] w λv w'=>∃(ss:List SQ)(ask int f:Int)(nn:List Bool)(o:aiz)(c:Nat)(ds:List pX),v=.tuple #[vS o ds.length c,iI f]/\Fh g ss ask int f/\(f=0->lE g nn)/\ds.map yc=dt g nn ss/\St w' (own 3 o ds.length c (gG ds)::aV (Bz ds)::all w):=by
 refine JR (gi hg λk1 w1 gw al B=>?_)
 have zero:∀{ss:List SQ}{ask int f:Int}{w':aiA},Fh g ss ask int f->f≠0->Gr w w'->∃(ss:List SQ)(ask int f':Int)(nn:List Bool)(o:aiz)(c:Nat)(ds:List pX),(.tuple #[zS,iI f]:Value)=.tuple #[vS o ds.length c,iI f']/\Fh g ss ask int f'/\(f'=0->lE g nn)/\ds.map yc=dt g nn ss/\St w' (own 3 o ds.length c (gG ds)::aV (Bz ds)::all w):=λ{ss ask int f w'} hR J hw=>by
  have hz:=hR.nil J;subst hz;exact⟨[],ask,int,f,[],none,0,[],rfl,hR,λh=>absurd h J,rfl,aI 3 ((St.flat (M:=[])).2 (St.here hw))⟩
 refine⟨_,_,_,_,_,_,_,_,_,_,_,_,_,B.row sZZ,(Py al hb (eE.mono gw ht)).mono ?_⟩;rintro _ w2⟨ss,ask,int,f,nn,o,c,fs,rfl,hR,hn,Z,h⟩;have U:Gr w1 w2:=aC 2 h.l;refine⟨_,_,_,_,rfl,ae (λJ=>zero hR (by simp_all) (gw.trans U)) λJ=>?_⟩;have J:f=0:=by simp_all
 subst J;obtain⟨hc,hA⟩:=hR.Qs rfl;have ch:=hn rfl;have rF:=adW h;rw[Z] at rF;have b6:fs.length=(bV g ss).length:=by have:=congrArg List.length Z;grind[List.length_map,abh]
 rw[b6] at rF ⊢;have c9:=yb hc hA;clear h Z;refine⟨_,_,_,_,_,_,_,_,_,_,_,_,_,B.row U,(RH (al.mono U) hb (eE.mono (gw.trans U) ht)).mono ?_⟩;rintro _ Y⟨bT,bP,bl,f2,o2,c2,b3,rfl,ba,V,h⟩;have a8:Gr w2 Y:=aC 2 h.l;obtain⟨_,b5,_,_,ef,_⟩:=hR.one ba;subst ef;rw[<-Tu b5] at V;have rB:=agz h;rw[V] at rB;have b4:b3.length=(uV g ss).length:=by grind
 rw[b4] at rB ⊢;clear h V;obtain⟨cc,b7⟩:=TD hc hA;obtain⟨sT,_⟩:=hc.cK;have a9:=U.trans a8;have a7:Gr w Y:=gw.trans a9;have rF:=rF.mono a8;have tl:=hg.t.1;refine⟨_,_,_,_,rfl,ae (λJ=>by simp_all) λ_=>?_⟩
 refine⟨λo n c z w'=>∃(i:Nat)(bs:List pX),z=i/\i<=(uV g ss).length/\n=bs.length/\bs.map yc=((uV g ss).take i).map (lI g (Pw g nn ss))/\St w' (own 3 o n c (gG bs)::aV (Bz bs)::all Y),λ_ _ _ z _=>(uV g ss).length-z.toNat,
  ⟨0,[],rfl,agP _,rfl,rfl,aI 3 ((St.flat (M:=[])).2 (St.all Y))⟩,?_⟩
 rintro _ o4 _ c4 _ w4⟨i,bs,rfl,hi,rfl,W,h⟩;have be:sub (hp Y) (hp w4):=aC 2 h.l;have bz:bs.length=i:=by have:=congrArg List.length W;grind
 refine ae (λJ=>?_) λJ=>?_
 rotate_left
 ·have J:i=(uV g ss).length:=by grind
  rw[J,ag9] at W;refine jZ (bS (bD h) ⟨_,_,_,rfl,ss,ask,int,0,nn,_,_,bs,rfl,hR,hn,W,?_⟩);have h:=cq h;exact St.Oo h (bF a7)
 have J:i<(uV g ss).length:=by simp_all
 obtain⟨b,ad,ta,tc,aa,rfl,rb,rt⟩:=Yf rB J;have a6:=agL aa;have c6:=b7 b a6;refine aO rfl J ⟨_,_,_,_,_,rb.at be rfl,ag h λkb w5 h=>aL h rfl (by simp[aK]) λw6 h=>?_⟩;have bb:sub (hp Y) (hp w6):=aC 3 h.l;refine⟨_,_,_,B.c0 (sub.trans a9 bb),?_⟩;rw[<-tl];refine(UN (xs:=[]) (l:=0) (a:=none) (g.T:Int) aX.nil ω).mono ?_;rintro _ w7⟨kp,rfl,h7⟩;have h:=h7.eM h;clear h7
 refine⟨_,rfl,_,_,_,(af 1 h.l).cell sZZ (j:=2) rfl,λz w'=>∃(k:Nat)(O:List Bool),z=k/\k<=b.tr.length/\LkB g (Pw g nn ss) (b.tr.take k) O/\St w' (cU (some ⟨kp,0,none⟩) O::az kb [iI b.st,iI b.prod,vS ta b.tr.length tc]::own 3 o4 bs.length c4 (gG bs)::aV (Bz bs)::all Y),λz _=>b.tr.length-z.toNat,
  ⟨0,_,rfl,agP _,LkB.nil ω _,h⟩,?_⟩
 clear h;rintro _ _ w8⟨k,O,rfl,hk,hB,h⟩;have a4:sub (hp Y) (hp w8):=aC 4 h.l
 refine ae (λX=>?_) λX=>?_
 ·have X:k<b.tr.length:=by simp_all
  obtain⟨t,cg,ht1,b1,av⟩:=rt.dQ X;obtain⟨j,rfl,hj⟩:=ad6 a6 (agL ht1);obtain⟨row,ci,ra,rc,b2,rfl,bi,bc⟩:=Ye rF hj;have c7:=(TC (es:=Bh g nn ss) (ow:=Tz g nn ss) (agL b2)).1;refine ax b1 X ⟨_,av _ a4,ax rfl hj ⟨_,_,_,bi _ a4,(z7 h (λhh hl=>bc.mono (aC 3 hl)) ω).mono ?_⟩⟩;rintro _ w9⟨rfl,h⟩;refine⟨_,rfl,ξ,⟨k+1,_,σ,X,?_,h⟩,bR X⟩;rw[b_ ht1];exact hB.snoc (by simp_all)
 have X:k=b.tr.length:=by grind
 rw[X,ag9] at hB;intro a0 hd;have h:=h.eq (aQ hd);have rk:aq (hp a0) (aM kb) _:=af 1 h.l
 have a5:eV (hp a0) (some ⟨kp,0,none⟩) O:=by
  obtain⟨g1,g2,_,s1,_,ha,_⟩:=h;exact(DR ha).mono s1
 refine⟨λu=>aq (hp u) (aM kb) [iI b.st,iI b.prod,vS ta b.tr.length tc],rk,_,λu r=>r.cell0 sZZ,_,λu r=>r.cell sZZ (j:=1) rfl,(DS a5 (eE.mono (sub.trans a7 (aC 4 h.l)) ht)).mono ?_⟩;rintro _ c8⟨a',c',rfl,am⟩;have h:=am.eM h;clear am;refine⟨_,_,_,rfl,af 2 h.l,ag h λkn cd h=>⟨af 3 h.l,?_⟩⟩;refine(aS (us:=gG bs) aT (rfl:ai Ty _=.slice _) (rfl:ai Ty _=.slice _) rfl rfl rfl (h.pick 6 [0,4,1,2,3,5]) rfl (by simp[aK]) (by grind) ω).mono ?_;rintro _ ca⟨o',c5,rfl,h⟩
 refine⟨_,_,_,rfl,af 4 h.l,ξ,⟨i+1,bs++[((b.st,b.prod),((a',c'),je O))],σ,J,σ,?_,?_⟩,bR J⟩
 ·rw[ag7,W,agR,aa,ag7]
  show _++[(⟨b.st,b.prod,je O⟩:iR)]=_++[lI g (Pw g nn ss) b]
  rw[hB.row]
 ·have e1:gG (bs++[((b.st,b.prod),((a',c'),je O))])=gG bs++[iI b.st,iI b.prod,vS a' (bJ O) c']:=by simp[gG,bkE,bX,BV]
  have e2:Bz (bs++[((b.st,b.prod),((a',c'),je O))])=Bz bs++[own 1 a' (bJ O) c' (iv (je O))]:=by simp[Bz,bI,BV]
  rw[e1,e2];have h:=St.snoc (h.pick 6 [2,5,0,1,3,4]);exact h.pick 6 [1,0,5]
end
section
instance:uj iR:={ n:=3,rd:=λh x vs=>∃(a:aiz)(c:Nat),vs=[iI x.st,iI x.prod,vS a x.tm.length c]/\aX h x.tm a x.tm.length,mono:=λs ⟨a,c,e,r⟩=>⟨a,c,e,r.mono s⟩,len:=λ⟨_,_,e,_⟩=>by simp_all }
open Classical in
section
variable{g:ah}{ss:List SQ}
theorem Lc{q m:Nat}{b:np}(h:b∈xZ g ss q m):b=⟨(q:Int),(m:Int),dz (bV g ss).length (fe g ss q m)⟩/\dz (bV g ss).length (fe g ss q m)≠[]:=by simp_all[xZ]
theorem Ld{q j:Nat}{b:np}:b∈gm g ss q j↔∃m,m<j/\dz (bV g ss).length (fe g ss q m)≠[]/\b=⟨(q:Int),(m:Int),dz (bV g ss).length (fe g ss q m)⟩:=by
 unfold gm;rw[ahI]
 constructor
 ·grind[Lc]
 ·rintro⟨m,u,J,rfl⟩;refine⟨m,ahd.2 u,?_⟩
  simp_all[xZ]
theorem Iz(q:Nat):∀j,pU ((gm g ss q j).map (·.prod))
 |0=>by simp[gm,pU]
 |j+1=>by
  rw[Bi,ag7]
  unfold pU
  rw[List.pairwise_append]
  refine⟨Iz q j,?_,λa ha b hb=>?_⟩
  ·unfold xZ
   split<;>simp
  ·obtain⟨x,hx,rfl⟩:=agY.1 ha
   obtain⟨y,hy,rfl⟩:=agY.1 hb
   obtain⟨m,hm,_,rfl⟩:=Ld.1 hx
   obtain⟨rfl,_⟩:=Lc hy
   simp_all
end
inductive Kb (g:ah) (ss:List SQ):Nat->Nat->Prop
 |now (j x:Nat):x<g.T->(dh ss j (x:Int)).isSome->Kb g ss j x
 |via (j k x:Nat) (s:Int):(g.T:Int)<=s->Ik g s->dh ss j s=some (k:Int)->Kb g ss k x->Kb g ss j x
section
variable{g:ah}{nn:List Bool}{ss:List SQ}
theorem ad7{n m:Nat}{p:aJ}(hp:g.prods[n]? =some p):ng g ⟨(n:Int),(m:Int)⟩=p.right.getD m (-1):=by simp_all[w_]
theorem ga{n m:Nat}{p:aJ}{s:Int}(hp:g.prods[n]? =some p)(hs:p.right[m]? =some s):ng g ⟨(n:Int),(m:Int)⟩=s:=by simp_all[ad7]
theorem Yp(hc:aw g){s:Int}(h:Ik g s):(g.T:Int)<=s/\s<g.T+g.N:=by
 cases h with
 |mk p hp _=>exact(Gc (.inr hc)).1 p hp|>.1
theorem CQ(hn:lE g nn){s:Int}(h:(g.T:Int)<=s):zy g nn s=true↔Ik g s:=by
 unfold zy;rw[aht h,aiv,hn.2,show((g.T+(s.toNat-g.T):Nat):Int)=s by omega]
theorem Pz(hc:aw g)(hn:lE g nn){row:List Int}:Gd g nn row=true↔MT g row:=by
 unfold Gd MT;rw[ah4];refine forall_congr' λs=>forall_congr' λ_=>⟨λh=>(CQ hn (M0 h)).1 h,λh=>(CQ hn (Yp hc h).1).2 h⟩
theorem Kb.along(hc:aw g)(hA:bC g ss){n x:Nat}{p:aJ}(hp:g.prods[n]? =some p):∀(d m j:Nat)(q:SQ),ss[j]? =some q->vF g q.1.2 ⟨(n:Int),(m:Int)⟩->m+d<=p.right.length->(∀y∈(p.right.drop m).take d,Ik g y)->
  (∀(k:Nat)(r:SQ),ss[k]? =some r->vF g r.1.2 ⟨(n:Int),((m+d:Nat):Int)⟩->Kb g ss k x)->Kb g ss j x
 |0,m,j,q,hq,hy,_,_,h=>h j q hq hy
 |d+1,m,j,q,hq,hy,hm,hn,h=>by
  have hlt:m<p.right.length:=ω
  have hgs:p.right[m]? =some p.right[m]:=agM hlt
  rw[ahj hlt,List.take_succ_cons] at hn
  have hnu:=hn _ List.mem_cons_self
  have hge:=Yp hc hnu
  obtain⟨k,r,h1,h2,h3⟩:=oM hc hA hq hy (ga hp hgs) ω
  refine .via j k x _ hge.1 hnu h1 (Kb.along hc hA hp d (m+1) k r h2 (.base (by simp_all)) ω (λy hy=>hn y (ahQ _ hy)) ?_)
  grind
theorem Kb.ad8(hc:aw g)(hA:bC g ss){s:Int}{x:Nat}(h:U_ g s x):∀(n m j:Nat)(p:aJ)(q:SQ),g.prods[n]? =some p->p.right[m]? =some s->ss[j]? =some q->vF g q.1.2 ⟨(n:Int),(m:Int)⟩->Kb g ss j x:=by
 induction h with
 |tm t ht=>
  intro n m j p q hp U J O;obtain⟨k,r,h1,_⟩:=oM hc hA J O (ga hp U) (ahu _);exact .now j t ht (by simp_all)
 |pr p' i s t hp' hs' hn hf ih=>
  intro n m j p q hp U J O;obtain⟨V,u⟩:=ahb hp';have X:=((Gc (.inr hc)).1 p' hp').1;have W:=(agN.1 hs').1;have h0:vF g q.1.2 ⟨(V:Int),((0:Nat):Int)⟩:=.step (y:=⟨(n:Int),(m:Int)⟩) O (by grind[ga]) u (by grind[ga]);refine Kb.along hc hA u i 0 j q J h0 ω (by simp_all) λk r Z Y=>?_
  grind
theorem Kb.ad9(hc:aw g)(hA:bC g ss){n m j x:Nat}{p:aJ}{q:SQ}(hp:g.prods[n]? =some p)(hq:ss[j]? =some q)(hy:vF g q.1.2 ⟨(n:Int),(m:Int)⟩)(h:uT g (p.right.drop m) x):Kb g ss j x:=by
 obtain⟨i,s,J,W,O⟩:=h;rw[ahy] at J;have V:=(agN.1 J).1;exact Kb.along hc hA hp i m j q hq hy ω W λk r U u=>Kb.ad8 hc hA O n (m+i) k p r hp J U u
def rest(g:ah)(y:au):List Int:=match g.prods[y.prod.toNat]? with
 |some p=>p.right.drop y.dot.toNat
 |none=>[]
theorem yd{y:au}(h:0<=ng g y):∃p,g.prods[y.prod.toNat]? =some p/\p.right[y.dot.toNat]? =some (ng g y)/\rest g y=ng g y::p.right.drop (y.dot.toNat+1):=by
 unfold ng at h ⊢;unfold rest;cases hp:g.prods[y.prod.toNat]? with
 |none=>simp_all
 |some p=>
  rw[hp] at h;simp only at h ⊢;have hl:y.dot.toNat<p.right.length:=by grind
  simp_all
theorem uT.head{s:Int}{l:List Int}{x:Nat}(h:U_ g s x):uT g (s::l) x:=⟨0,s,rfl,σ,h⟩
theorem uT.skip{s:Int}{l:List Int}{x:Nat}(h:Ik g s)(hl:uT g l x):uT g (s::l) x:=by
 obtain⟨i,y,J,U,u⟩:=hl;refine⟨i+1,y,J,λz O=>?_,u⟩
 grind
theorem uT.left{p:aJ}{x:Nat}(hp:p∈g.prods)(h:uT g p.right x):U_ g p.left x:=by
 obtain⟨i,s,J,O,u⟩:=h;exact .pr p i s x hp J O u
theorem TE{I:List au}{y:au}(h:vF g I y):∀x,uT g (rest g y) x->∃z∈I,uT g (rest g z) x:=by
 induction h with
 |base hx=>grind
 | @step y i p h1 h2 h3 h4 ih=>
  intro x u;obtain⟨O,_,_,J⟩:=yd h2;refine ih x ?_;rw[J,<-h4];have e:rest g ⟨(i:Int),0⟩=p.right:=by simp_all[rest]
  rw[e] at u;exact .head (u.left (agL h3))
theorem Kb.item(hc:aw g)(hA:bC g ss){j x:Nat}(h:Kb g ss j x):∀q,ss[j]? =some q->∃z∈q.1.2,uT g (rest g z) x:=by
 induction h with
 |now j x hx J=>
  intro q O;obtain⟨hT,hN,_⟩:=hc.cK;rw[tT hA O ω] at J;have J:=agQ J;obtain⟨z,X⟩:=ahR _ J;obtain⟨y,W,U,_⟩:=dj.1 X;refine TE W x ?_;obtain⟨_,_,_,h5⟩:=yd (y:=y) (by rw[U];omega);rw[h5,U];exact .head (.tm x hx)
 |via j k x s J hn hk hr ih=>
  intro q O;obtain⟨q',i,e,V,he,Z,a6⟩:=lB hk;rw[O] at V;cases V;obtain⟨_,_,k',r,Y,_,a5,a4,_⟩:=dm hc hA O he;rw[a6] at Y;have a0:k=k':=ω
  subst a0;obtain⟨z,X,hf⟩:=ih r a5;rw[a4,Z] at X;obtain⟨y,W,U,rfl⟩:=dj.1 X;refine TE W x ?_;obtain⟨p,hp,_,h5⟩:=yd (y:=y) (by rw[U];omega);rw[h5,U];refine .skip hn ?_;unfold rest at hf;rw[show g.prods[((⟨y.prod,y.dot+1⟩:au).prod).toNat]? =some p from hp] at hf;obtain⟨hT,hN,hP,a7,_,_⟩:=hc.cK;have hK:=(ig hA O).1;have u:=W.fit ((gN (g:=g) ω j).fit _ (agL hK));have hd:(y.dot+1).toNat=y.dot.toNat+1:=by have:=u.2.1;omega
  simp_all
end
section
variable{g:ah}{nn:List Bool}{ss:List SQ}
theorem abj{v:Nat}{t:aG}(ht:(bV g ss)[v]? =some t):(wj g ss).getD v []=kH g ss t:=by simp_all[wj]
theorem Yq{n:Nat}{f:Nat->Nat->Bool}{v m:Nat}:m∈En ((List.range n).map λi=>dz n (f i)) v↔v<n/\m<n/\f v m=true:=by
 unfold En;rw[agU]
 by_cases O:v<n
 ·rw[agS,ahV O];simp only[aif,Option.getD_some,agY]
  constructor
  ·rintro⟨z,U,rfl⟩;obtain⟨k,rfl,u,J⟩:=gl.1 U
   simp_all
  ·rintro⟨_,u,J⟩;exact⟨(m:Int),gl.2 ⟨m,rfl,u,J⟩,rfl⟩
 grind
theorem Yr{v m:Nat}:m∈En (xY g nn ss) v↔v<(bV g ss).length/\m<(bV g ss).length/\lF g nn ss v m=true:=Yq
theorem Ys{v m:Nat}:m∈En (Bh g nn ss) v↔v<(bV g ss).length/\m<(bV g ss).length/\CH g nn ss v m=true:=Yq
theorem Bk{v:Nat}{t:aG}(hc:aw g)(hA:bC g ss)(ht:(bV g ss)[v]? =some t):∃(i j:Nat)(q r:SQ),t.st=i/\ss[i]? =some q/\(g.T:Int)<=t.sym/\dh ss i t.sym=some (j:Int)/\1<=j/\ss[j]? =some r/\r.1.2=bx g q.1.2 t.sym:=by
 obtain⟨i,q,k,e,hi,U,W,J,rfl⟩:=lD (agL ht);obtain⟨_,_,j,r,X,u,V,O,_⟩:=dm hc hA U W;exact⟨i,j,q,r,rfl,U,J,by grind[xW],u,V,O⟩
theorem Yt{i:Nat}{s j:Int}(h:dh ss i s=some j)(hs:(g.T:Int)<=s):∃v:Nat,(bV g ss)[v]? =some ⟨(i:Int),s⟩:=by
 obtain⟨q,k,e,J,u,rfl,_⟩:=lB h;exact⟨_,Ru J u hs⟩
theorem M4(hc:aw g)(hA:bC g ss){v i j x:Nat}{t:aG}(ht:(bV g ss)[v]? =some t)(hi:t.st=i)(hj:dh ss i t.sym=some (j:Int)):(x:Int)∈(wj g ss).getD v []↔(t=⟨0,g.start⟩/\x=0)\/(x<g.T/\(dh ss j (x:Int)).isSome):=by
 have W:=hc.cK;obtain⟨U,V,q,r,h1,h2,X,J,Z,u,_⟩:=Bk hc hA ht;have:U=i:=ω
 subst this;rw[hj] at J;have:j=V:=by grind
 subst this;rw[abj ht,Ig (j:=j) (q:=r) (by simp_all) u,agX,X0 hA u,agY]
 refine or_congr ?_ ?_
 ·simp[oK]
 ·constructor
  ·grind[tT]
  ·rintro⟨Y,O⟩;rw[tT hA u ω] at O
   grind
theorem Kb.has(hc:aw g)(hA:bC g ss)(hn:lE g nn){j x:Nat}(h:Kb g ss j x):∀(v i:Nat) t,(bV g ss)[v]? =some t->t.st=i->dh ss i t.sym=some (j:Int)->iq (xY g nn ss) (wj g ss) v x:=by
 induction h with
 |now j x hx hs=>grind[iq.iff,M4]
 |via j k x s hs hnu hk hr ih=>
  intro v i t ht hi O;obtain⟨u,J⟩:=Yt (g:=g) hk hs;refine iq.iff.2 (.inr ⟨u,Yr.2 ⟨(agN.1 ht).1,(agN.1 J).1,?_⟩,ih u j _ J rfl hk⟩)
  simp_all[lF,CQ]
theorem ad_{v u:Nat}{t:aG}(ht:(bV g ss)[v]? =some t)(h:u∈En (xY g nn ss) v):∃t',(bV g ss)[u]? =some t'/\dh ss t.st.toNat t.sym=some t'.st/\zy g nn t'.sym=true:=by
 obtain⟨_,O,J⟩:=Yr.1 h
 simp_all[bV,lF]
theorem abk(hc:aw g)(hA:bC g ss)(hn:lE g nn){v x:Nat}(h:iq (xY g nn ss) (wj g ss) v x):∀(i j:Nat) t,(bV g ss)[v]? =some t->t.st=i->dh ss i t.sym=some (j:Int)->(t=⟨0,g.start⟩/\x=0)\/Kb g ss j x:=by
 refine iq.least (Q:=λv x=>∀(i j:Nat) t,(bV g ss)[v]? =some t->t.st=i->dh ss i t.sym=some (j:Int)->(t=⟨0,g.start⟩/\x=0)\/Kb g ss j x) (λv x hx i j t ht hi W=>?_) (λv u x hu ih i j t ht hi W=>?_) h
 ·rcases(M4 hc hA ht hi W).1 hx with h|⟨V,U⟩
  ·simp_all
  ·exact .inr (.now j x V U)
 ·obtain⟨Z,J,V,U⟩:=ad_ ht hu;obtain⟨O,j2,_,_,e1,_,X,Y,_⟩:=Bk hc hA J;rw[hi,agZ,W] at V;have e5:O=j:=by grind
  subst e5
  rcases ih O j2 Z J e1 Y with⟨rfl,_⟩|h3
  ·obtain⟨i',j',_,_,f1,_,_,f4,f5,_⟩:=Bk hc hA ht;have:i'=i:=ω
   grind
  ·exact .inr (.via O j2 x Z.sym X ((CQ hn X).1 U) Y h3)
theorem RM{v:Nat}(hv:v<(bV g ss).length):(Tz g nn ss).getD v []=se (xY g nn ss) (wj g ss) v:=by simp_all[Tz,Iu,Iw]
theorem Yu{v:Nat}(hv:v<(bV g ss).length):(Pw g nn ss).getD v []=se (Bh g nn ss) (Tz g nn ss) v:=by simp_all[Pw,Iu,Ix]
end
section
variable{g:ah}{nn:List Bool}{ss:List SQ}{w w':aiA}{v:Value}{a i f:Int}
theorem afR(hc:aw g)(hA:bC g ss){v x:Nat}(h:iq (xY g nn ss) (wj g ss) v x):x<g.T:=by
 refine iq.least (Q:=λ_ x=>x<g.T) (λv x u=>?_) (λ_ _ _ _ h=>h) h
 by_cases J:v<(wj g ss).length
 ·rw[agU,agM J] at u;have:=(TB hc hA (ail J)).2.2 _ u;omega
 simp_all
theorem PB{fs:List (List Int)}{b:np}{z:Int}:z∈(lI g fs b).tm↔∃x:Nat,z=x/\x<g.T/\∃t∈b.tr,(x:Int)∈fs.getD t.toNat []:=by simp[lI,gl]
theorem Vk{fs:List (List Int)}{b:np}:pU (lI g fs b).tm:=tU _ _
theorem Yv{fs:List (List Int)}{b:np}:(lI g fs b).tm.length<=g.T:=pV _ _
end
section
variable{n k i j:Nat}{f f0:Nat->List Int}{L:List aE}{A:aE}{w w' w0:aiA}
theorem abl{l:List Int}(h:pU l):l.Nodup:=ahF.2 (h.imp λh e=>ω)
theorem RN{l:List Int}{B:Nat}(h:pU l)(hb:∀z∈l,0<=z/\z<B):l.length<=B:=by
 have e:l=dz B λk=>decide ((k:Int)∈l):=by
  refine MU h (tU _ _) λz=>?_;rw[gl]
  constructor
  ·intro u;have:=hb z u;exact⟨z.toNat,ω,ω,by grind⟩
  simp_all
 grind[pV]
end
section
variable{α:Type}{k:α->Int}{l m:List α}
abbrev nE(k:α->Int)(l:List α):Prop:=l.Pairwise λx y=>k x<=k y
theorem lJ:nE k (l++m)↔nE k l/\nE k m/\∀x∈l,∀y∈m,k x<=k y:=List.pairwise_append
theorem Yw(h:nE k l){z:α}(hz:l.getLast? =some z):∀x∈l,k x<=k z:=λx u=>by
 obtain⟨i,hi⟩:=ahb u
 rw[aio] at hz
 have O:=(agN.1 hi).1
 by_cases e:i=l.length-1
 ·simp_all
 ·obtain⟨U,rfl⟩:=agN.1 hi
  obtain⟨J,rfl⟩:=agN.1 hz
  grind[List.pairwise_iff_getElem]
theorem Yx(h:nE k l){z:α}(hz:l.head? =some z):∀x∈l,k z<=k x:=λx u=>by
 cases l with
 |nil=>grind
 |cons a l=>
  cases hz
  rcases ag6.1 u with rfl|u
  ·omega
  simp_all
theorem yL(hl:nE k l)(hm:nE k m)(h:∀x y,l.getLast? =some x->m.head? =some y->k x<=k y):∀x∈l,∀y∈m,k x<=k y:=λx u y J=>by
 obtain⟨a,ha⟩:∃a,l.getLast? =some a:=⟨_,List.getLast?_eq_some_getLast (List.ne_nil_of_mem u)⟩
 obtain⟨b,hb⟩:∃b,m.head? =some b:=⟨_,List.head?_eq_some_head (List.ne_nil_of_mem J)⟩
 have O:=Yw hl ha x u
 have U:=Yx hm hb y J
 grind
theorem RO{L1 L2 R1 R2 S1 S2:List α}(hL:nE k (L1++L2))(hR:nE k (R1++R2))(h1:∀x y,L1.getLast? =some x->R2.head? =some y->k x<=k y)(h2:∀x y,R1.getLast? =some x->L2.head? =some y->k x<=k y)
  (p1:S1.Perm (L1++R1)) (s1:nE k S1) (p2:S2.Perm (L2++R2)) (s2:nE k S2):nE k (S1++S2)/\(S1++S2).Perm ((L1++L2)++(R1++R2)):=by
 obtain⟨a1,a2,a3⟩:=lJ.1 hL;obtain⟨u,J,V⟩:=lJ.1 hR;have c1:=yL a1 J h1;have c2:=yL u a2 h2
 refine⟨lJ.2 ⟨s1,s2,λx O y U=>?_⟩,?_⟩
 ·grind
 ·refine(p1.append p2).trans ?_
  grind[List.append_assoc,List.Perm.append_left,List.Perm.append_right,List.perm_append_comm]
theorem M5{R1 R2:List α}{x:α}(hR:nE k (R1++R2))(h1:∀y,R1.getLast? =some y->k y<=k x)(h2:∀y,R2.head? =some y->k x<=k y):nE k (R1++x::R2):=by
 obtain⟨J,O,V⟩:=lJ.1 hR
 refine lJ.2 ⟨J,ahM.2 ⟨λy u=>?_,O⟩,λy u z U=>?_⟩
 ·exact yL (l:=[x]) (List.pairwise_singleton _ _) O (λa b ha hb=>by simp_all) x σ y u
 ·rcases ag6.1 U with rfl|U
  ·exact yL J (m:=[z]) (List.pairwise_singleton _ _) (λa b ha hb=>by simp_all) y u z σ
  simp_all
theorem CR{P M Q:List α}{x y:α}{i j:Nat}(hi:i=P.length)(hj:j=P.length+1+M.length):((P++x::(M++y::Q)).set i y).set j x=P++y::(M++x::Q):=by
 subst hi hj
 grind
theorem u6{P Q:List α}{x:α}{i:Nat}(hi:i=P.length):(P++x::Q)[i]? =some x:=by simp_all
end
structure aD where
 kind:Int
 to:Int
deriving DecidableEq
instance:Inhabited aD:=⟨⟨0,0⟩⟩
structure i_ where
 st:Int
 tm:Int
deriving DecidableEq
structure cP where
 st:Int
 tm:Int
 acts:List aD
deriving DecidableEq
instance:Inhabited cP:=⟨⟨0,0,[]⟩⟩
section
variable{g:ah}{nn:List Bool}{ss ss':List SQ}{α:Type}
def TF(ss:List SQ)(q t:Nat):List aD:=match dh ss q (t:Int) with
 |some j=>[⟨1,j⟩]
 |none=>[]
def Vl(ss:List SQ)(q t:Nat):List aD:=match ss[q]? with
 |some r=>if t=0/\(⟨0,1⟩:au)∈r.1.2 then[⟨3,0⟩] else[]
 |none=>[]
def NC(ls:List iR)(q t:Nat):List aD:=(ls.filter λl=>decide (l.st=(q:Int))&&decide ((t:Int)∈l.tm)).map λl=>⟨2,l.prod⟩
noncomputable def ee(g:ah)(nn:List Bool)(ss:List SQ)(q t:Nat):List aD:=TF ss q t++Vl ss q t++NC (dt g nn ss) q t
noncomputable def cellAt(g:ah)(nn:List Bool)(ss:List SQ)(least q t:Nat):List cP:=if least<=(ee g nn ss q t).length then[⟨(q:Int),(t:Int),ee g nn ss q t⟩] else[]
noncomputable def qV(g:ah)(nn:List Bool)(ss:List SQ)(least q n:Nat):List cP:=(List.range n).flatMap (cellAt g nn ss least q)
noncomputable def nr(g:ah)(nn:List Bool)(ss:List SQ)(least n:Nat):List cP:=(List.range n).flatMap λq=>qV g nn ss least q g.T
noncomputable def nu(g:ah)(nn:List Bool)(ss:List SQ)(least:Nat):List cP:=nr g nn ss least ss.length
theorem u7{least q n:Nat}:qV g nn ss least q (n+1)=qV g nn ss least q n++cellAt g nn ss least q n:=by simp[qV,ahA]
theorem Bl{least n:Nat}:nr g nn ss least (n+1)=nr g nn ss least n++qV g nn ss least n g.T:=by simp[nr,ahA]
abbrev EE:=List (i_×aD)
def qW(g:ah)(q:Nat)(es:List aH):EE:=(es.filter λe=>decide (e.sym<(g.T:Int))).map λe=>(⟨(q:Int),e.sym⟩,⟨1,e.to⟩)
def ye(q:Nat)(K:List au):EE:=if(⟨0,1⟩:au)∈K then[(⟨(q:Int),0⟩,⟨3,0⟩)] else[]
def Fp(g:ah)(ss:List SQ)(q:Nat):EE:=match ss[q]? with
 |some r=>qW g q r.2.2++ye q r.1.2
 |none=>[]
def pY(g:ah)(ss:List SQ)(n:Nat):EE:=(List.range n).flatMap (Fp g ss)
def yf(l:iR)(n:Nat):EE:=(l.tm.take n).map λt=>(⟨l.st,t⟩,⟨2,l.prod⟩)
def tX(ls:List iR)(n:Nat):EE:=(ls.take n).flatMap λl=>yf l l.tm.length
theorem IA{n:Nat}:pY g ss (n+1)=pY g ss n++Fp g ss n:=by simp[pY,ahA]
theorem IB{q:Nat}{es:List aH}{e:aH}:qW g q (es++[e])=if e.sym<(g.T:Int) then qW g q es++[(⟨(q:Int),e.sym⟩,⟨1,e.to⟩)] else qW g q es:=by grind[qW]
theorem RP{l:iR}{n:Nat}{t:Int}(h:l.tm[n]? =some t):yf l (n+1)=yf l n++[(⟨l.st,t⟩,⟨2,l.prod⟩)]:=by simp_all[yf,agR]
theorem IC{ls:List iR}{n:Nat}{l:iR}(h:ls[n]? =some l):tX ls (n+1)=tX ls n++yf l l.tm.length:=by simp_all[tX,agR]
def Js(ps:EE)(p:i_):List aD:=(ps.filter λx=>decide (x.1=p)).map (·.2)
theorem GM{ps qs:EE}{p:i_}:Js (ps++qs) p=Js ps p++Js qs p:=by simp[Js]
theorem ID{ps:EE}{p:i_}(h:∀x∈ps,x.1≠p):Js ps p=[]:=by grind[Js,List.filter_eq_nil_iff]
theorem PC{β:Type}{l:List β}{f:β->EE}{p:i_}:Js (l.flatMap f) p=l.flatMap λx=>Js (f x) p:=by
 induction l with
 |nil=>rfl
 |cons a l ih=>simp_all[GM]
theorem PD{f:Nat->List α}{q:Nat}(h:∀i,i≠q->f i=[]):∀n,q<n->(List.range n).flatMap f=f q
 |0,hq=>ω
 |n+1,hq=>by
  rw[ahA,ahh]
  by_cases e:q=n
  ·grind[List.range,List.flatMap_eq_nil_iff]
  ·rw[PD h n ω]
   grind
theorem Yy{q:Nat}{r:SQ}{s:Int}(hr:ss[q]? =some r):dh ss q s=(r.2.2.find? λe=>decide (e.sym=s)).map (·.to):=tQ hr s
theorem Le:∀{es:List aH}{s:Int},(es.map (·.sym)).Nodup->(es.filter λe=>decide (e.sym=s))=(es.find? λe=>decide (e.sym=s)).toList
 |[],s,_=>rfl
 |e::es,s,h=>by
  rw[ahw,ahE] at h
  by_cases he:e.sym=s
  ·simp_all
  ·rw[List.filter_cons_of_neg (by simp_all),List.find?_cons_of_neg (by simp_all)]
   exact Le h.2
theorem atE(hA:bC g ss){q t:Nat}{r:SQ}(hr:ss[q]? =some r)(ht:t<g.T):Js (qW g q r.2.2) ⟨(q:Int),(t:Int)⟩=TF ss q t:=by
 unfold TF;rw[Yy hr];have u:=Ep hA hr;unfold Js qW;rw[List.filter_map,List.filter_filter,air];have e:(r.2.2.filter λe=>(((λx:i_×aD=>decide (x.1=⟨(q:Int),(t:Int)⟩))∘λe:aH=>((⟨(q:Int),e.sym⟩:i_),(⟨1,e.to⟩:aD))) e)&&decide (e.sym<(g.T:Int)))=r.2.2.filter λe=>decide (e.sym=(t:Int)):=by grind
 rw[e,Le u];cases r.2.2.find? λe=>decide (e.sym=(t:Int)) with
 |none=>rfl
 |some e=>rfl
theorem atQ(hA:bC g ss){q t:Nat}{r:SQ}(hr:ss[q]? =some r)(ht:t<g.T):Js (Fp g ss q) ⟨(q:Int),(t:Int)⟩=TF ss q t++Vl ss q t:=by
 unfold Fp Vl;rw[hr]
 show Js (qW g q r.2.2++ye q r.1.2) _=_
 rw[GM,atE hA hr ht];congr 1
 show _=if t=0/\(⟨0,1⟩:au)∈r.1.2 then[(⟨3,0⟩:aD)] else[]
 unfold ye
 by_cases h:(⟨0,1⟩:au)∈r.1.2
 ·rw[ag0 h]
  by_cases J:t=0
  ·subst J;rw[ag0 ⟨rfl,h⟩];simp[Js]
  ·rw[agW (λu=>J u.1)];grind[ID]
 ·rw[agW h,agW (λu=>h u.2)];rfl
theorem Yz{q:Nat}{x:i_×aD}(h:x∈Fp g ss q):x.1.st=(q:Int):=by
 unfold Fp at h
 split at h
 ·rcases agX.1 h with h|h
  ·unfold qW at h
   grind
  simp_all[ye]
 simp_all
theorem atS(hA:bC g ss){q t:Nat}(hq:q<ss.length)(ht:t<g.T):Js (pY g ss ss.length) ⟨(q:Int),(t:Int)⟩=TF ss q t++Vl ss q t:=by
 unfold pY;rw[PC,PD (q:=q) (λi hi=>ID λx u e=>hi (by have:=Yz u;grind)) _ hq]
 simp_all[atQ]
theorem atK{l:iR}{q t:Nat}(hr:pU l.tm):Js (yf l l.tm.length) ⟨(q:Int),(t:Int)⟩=if l.st=(q:Int)/\(t:Int)∈l.tm then[⟨2,l.prod⟩] else[]:=by
 unfold Js yf;rw[ag9,List.filter_map,air]
 by_cases h:l.st=(q:Int)/\(t:Int)∈l.tm
 ·rw[ag0 h]
  have e:(l.tm.filter ((λx:i_×aD=>decide (x.1=⟨(q:Int),(t:Int)⟩))∘λt=>((⟨l.st,t⟩:i_),(⟨2,l.prod⟩:aD))))=[(t:Int)]:=by
   have key:∀{l:List Int},l.Nodup->(t:Int)∈l->(l.filter λx=>decide (x=(t:Int)))=[(t:Int)]:=by
    intro l
    induction l with
    |nil=>simp
    |cons a l ih=>
     intro hn O;obtain⟨U,V⟩:=ahE.1 hn
     by_cases u:a=(t:Int)
     ·grind[List.filter_cons_of_pos,List.filter_eq_nil_iff]
     grind
   grind[abl,List.filter_congr,decide]
  simp_all
 ·rw[agW h,ah7.2 λx J=>?_];rfl
  grind
theorem atL{ls:List iR}{q t:Nat}(hr:∀l∈ls,pU l.tm):Js (tX ls ls.length) ⟨(q:Int),(t:Int)⟩=NC ls q t:=by
 unfold tX NC;rw[ag9,PC]
 induction ls with
 |nil=>rfl
 |cons l ls ih=>
  rw[ahv,atK (hr l σ),ih λl hl=>hr l (by grind)]
  grind
theorem PE{k:α->Int}:∀{l m:List α},l.Perm m->(l.Pairwise λx y=>k x<k y)->(m.Pairwise λx y=>k x<k y)->l=m
 |[],m,p,_,_=>(p.symm.eq_nil).symm
 |a::l,[],p,_,_=>absurd p.eq_nil σ
 |a::l,b::m,p,hl,hm=>by
  obtain⟨h1,h2⟩:=ahM.1 hl
  obtain⟨h3,h4⟩:=ahM.1 hm
  have e:a=b:=by grind
  subst e
  rw[PE ((List.perm_cons a).1 p) h2 h4]
theorem Lf(q:Nat):((dt g nn ss).filter λl=>decide (l.st=(q:Int))).Pairwise λx y=>x.prod<y.prod:=by
 have key:∀n,((Ip g ss n).filter λb=>decide (b.st=(q:Int)))=if q<n then gm g ss q g.prods.length else[]:=by
  intro n
  induction n with
  |zero=>rfl
  |succ n ih=>
   rw[EC,aho,ih];have J:∀b∈gm g ss n g.prods.length,b.st=(n:Int):=λb hb=>by obtain⟨m,_,_,rfl⟩:=Ld.1 hb;rfl
   by_cases e:q=n
   ·simp_all
   ·have:((gm g ss n g.prods.length).filter λb=>decide (b.st=(q:Int)))=[]:=ah7.2 λb hb=>by grind
    grind
 have O:=key ss.length
 have e:((dt g nn ss).filter λl=>decide (l.st=(q:Int)))=(((uV g ss).filter λb=>decide (b.st=(q:Int)))).map (lI g (Pw g nn ss)):=by
  unfold dt;rw[List.filter_map];rfl
 rw[e,ahD]
 show List.Pairwise _ ((Ip g ss ss.length).filter _)
 rw[O]
 by_cases h:q<ss.length
 ·rw[ag0 h];have u:=Iz (g:=g) (ss:=ss) q g.prods.length;unfold pU at u;rw[ahD] at u;exact u
 simp_all[agW]
theorem abm{ls:List iR}(p:ls.Perm (dt g nn ss))(h:nE (·.prod) ls)(q t:Nat):NC ls q t=NC (dt g nn ss) q t:=by
 have e:∀m:List iR,NC m q t=((m.filter λl=>decide (l.st=(q:Int))).filter λl=>decide ((t:Int)∈l.tm)).map λl=>⟨2,l.prod⟩:=λm=>by simp[NC,List.filter_filter,Bool.and_comm]
 rw[e,e];congr 2;have hp:=p.filter λl=>decide (l.st=(q:Int));have hS:=Lf (g:=g) (nn:=nn) (ss:=ss) q;refine PE (k:=(·.prod)) hp ?_ hS;have J:(ls.filter λl=>decide (l.st=(q:Int))).Pairwise λx y=>x.prod<=y.prod:=List.Pairwise.filter _ h;have u:((ls.filter λl=>decide (l.st=(q:Int))).map (·.prod)).Nodup:=by grind
 rw[ahF,ahD] at u;exact J.imp₂ (λ_ _ a b=>ω) u
theorem afS(hA:bC g ss){ls:List iR}(p:ls.Perm (dt g nn ss))(h:nE (·.prod) ls){q t:Nat}(hq:q<ss.length)(ht:t<g.T):Js (pY g ss ss.length++tX ls ls.length) ⟨(q:Int),(t:Int)⟩=ee g nn ss q t:=by
 rw[GM,atS hA hq ht,atL,abm p h]
 ·rfl
 ·intro l hl;obtain⟨b,_,rfl⟩:=agY.1 (p.mem_iff.1 hl);exact Vk
end
structure dB where
 df:List Int
 ac:fT
 tg:List Int
 gt:fT
abbrev GN:=aiz×Nat×Nat
abbrev gn(x:GN):Value:=vS x.1 x.2.1 x.2.2
structure PA where
 d:GN
 a1:GN
 a2:GN
 a3:GN
 t:GN
 g1:GN
 g2:GN
 g3:GN
def PA.cells(x:PA):List Value:=[gn x.d,gn x.a1,gn x.a2,gn x.a3,gn x.t,gn x.g1,gn x.g2,gn x.g3]
structure Vm(h:Hp)(p:dB)(x:PA):Prop where
 d:aX h p.df x.d.1 x.d.2.1
 a:PkR h p.ac x.a1.1 x.a1.2.1 x.a2.1 x.a2.2.1 x.a3.1 x.a3.2.1
 t:aX h p.tg x.t.1 x.t.2.1
 g:PkR h p.gt x.g1.1 x.g1.2.1 x.g2.1 x.g2.2.1 x.g3.1 x.g3.2.1
theorem Vm.mono{h h':Hp}{p:dB}{x:PA}(s:sub h h')(r:Vm h p x):Vm h' p x:=⟨r.d.mono s,r.a.mono s,r.t.mono s,r.g.mono s⟩
def M6(v:Int):aD:=if 0<v then⟨1,v-1⟩ else if v< -1 then⟨2,-1-v⟩ else if v<0 then⟨3,0⟩ else⟨4,0⟩
def bq(p:dB)(q t:Int):aD:=match atR p.ac q t with
 |some v=>M6 v
 |none=>if 0<=q/\q<p.df.length/\0<p.df.getD q.toNat 0 then⟨2,p.df.getD q.toNat 0⟩ else⟨0,0⟩
def bW(p:dB)(q n:Int):Int:=match atR p.gt n q with
 |some v=>v
 |none=>if 0<=n/\n<p.tg.length then p.tg.getD n.toNat 0 else-1
theorem aea{r:fT}{B:Int}(hb:∀x∈r.vs,-B<=x/\x<=B)(h0:0<=B){row place v:Int}(h:atR r row place=some v):-B<=v/\v<=B:=by
 unfold atR at h
 split at h
 ·cases h
 ·cases h;rw[agU];cases hx:r.vs[(Eg r row+place).toNat]? with
  |none=>exact⟨by show-B<=0;omega,h0⟩
  |some x=>exact hb x (agL hx)
end
section
variable{w:aiA}{p:dB}{x:PA}
theorem YA(r:Vm (hp w) p x)(q t:Int):ρ 423 [.agg ⟨x.cells⟩,iI q,iI t] w λv w'=>v=.agg ⟨[iI (bq p q t).kind,iI (bq p q t).to]⟩/\Gr w w':=by
 refine F6 (ag (St.all w) λk1 w1 h1=>ag h1 λk2 w2 h2=>?_);have g2:Gr w w2:=h2.tail.aP
 have Z:aq (hp w2) (aM k1) x.cells:=by
  obtain⟨h0,s,ha⟩:=h2.tail.first;exact(kY ha).mono s
 have a0:aq (hp w2) ((aM k1).add 1) [gn x.a1,gn x.a2,gn x.a3]:=(aq.drop (us:=[gn x.d]) Z).take (vs:=[gn x.t,gn x.g1,gn x.g2,gn x.g3]);refine⟨_,_,_,_,_,_,_,_,_,a0.at sZZ rfl,(afD (r.a.mono g2) q t).mono ?_⟩;rintro _ X⟨rfl,g3⟩;have h3:=h2.gr g3;have gw:Gr w X:=g2.trans g3
 have U:∀(kd to:Int),bq p q t=⟨kd,to⟩->bA X (aM k2) [iI kd,iI to] λW=>∃n2 n3,rowAt W (aM k2) 0 2=some [iI n2,iI n3]/\(λv w'=>v=.agg ⟨[iI (bq p q t).kind,iI (bq p q t).to]⟩/\Gr w w') (vG [iI n2,iI n3]) W:=λkd to e=>by
  refine aL h3 rfl (by intro v hv;simp at hv;rcases hv with rfl|rfl<;>rfl) λW J=>⟨kd,to,?_,by rw[e],J.tail.aP⟩;obtain⟨h0,s,ha⟩:=J.first;exact((kY ha).mono s).at sZZ rfl
 cases hA:atR p.ac q t with
 |some v=>
  have hp:bq p q t=M6 v:=by unfold bq;rw[hA]
  obtain⟨b1,b2⟩:=aea r.a.bd (by decide) hA;refine⟨v,true,rfl,λ_=>False,⟨λb u=>b=decide (0<v)/\u=X,fM rfl ⟨rfl,rfl⟩,?_⟩,λ_ _ h=>h.elim⟩;rintro _ _ w4⟨rfl,rfl⟩
  refine ae (λO=>⟨ξ,U _ _ ?_⟩) λO=>⟨λb u=>b=decide (v< -1)/\u=w4,fM rfl ⟨rfl,rfl⟩,?_⟩
  ·rw[hp];unfold M6;rw[ag0 (agQ O)]
  have O:=agO O;rintro _ _ W⟨rfl,rfl⟩
  refine ae (λJ=>⟨ξ,U _ _ ?_⟩) λJ=>⟨λb u=>b=decide (v<0)/\u=W,fM rfl ⟨rfl,rfl⟩,?_⟩
  ·rw[hp];unfold M6;rw[agW O,ag0 (agQ J)]
  have J:=agO J;rintro _ _ w6⟨rfl,rfl⟩
  refine ae (λV=>U _ _ ?_) λV=>fM rfl (U _ _ ?_)
  ·rw[hp];unfold M6;rw[agW O,agW J,ag0 (agQ V)]
  ·rw[hp];unfold M6;rw[agW O,agW J,agW (agO V)]
 |none=>
  have hp:bq p q t=if 0<=q/\q<p.df.length/\0<p.df.getD q.toNat 0 then⟨2,p.df.getD q.toNat 0⟩ else⟨0,0⟩:=by unfold bq;rw[hA]
  have ed:=r.d.1;refine⟨0,false,rfl,λu=>u=X/\bq p q t=⟨0,0⟩,⟨λb u=>b=false/\u=X,bB rfl ⟨rfl,rfl⟩,?_⟩,λ_ u h=>by rw[h.1];exact U _ _ h.2⟩;rintro _ _ w4⟨rfl,rfl⟩;refine bB rfl ⟨λb u=>b=false/\u=w4,bB rfl ⟨rfl,rfl⟩,?_⟩;rintro _ _ W⟨rfl,rfl⟩;refine bB rfl ⟨λb u=>b=false/\u=W,bB rfl ⟨rfl,rfl⟩,?_⟩;rintro _ _ w6⟨rfl,rfl⟩
  refine bB rfl (bB rfl (ae (λO=>?_) λO=>⟨rfl,?_⟩))
  ·have O:=agQ O
   refine⟨_,_,_,h3.tail.cell 0,ae (λJ=>?_) λJ=>⟨rfl,?_⟩⟩
   ·have J:=agQ J;obtain⟨n,rfl⟩:∃n:Nat,q=n:=⟨q.toNat,ω⟩;obtain⟨ad,Y,cd⟩:=pH r.d (i:=n) ω
    refine⟨_,_,_,h3.tail.cell 0,ax Y ω ⟨_,cd _ gw,ae (λV=>?_) λV=>⟨rfl,?_⟩⟩⟩
    ·refine⟨_,_,_,h3.tail.cell 0,ax Y ω ⟨_,cd _ gw,U _ _ ?_⟩⟩;rw[hp,ag0 ⟨ω,ω,agQ V⟩];rfl
    ·rw[hp,agW (λhh=>agO V hh.2.2)]
   ·have J:=agO J;rw[hp,agW (λhh=>J ω)]
  ·have O:=agO O;rw[hp,agW (λhh=>O hh.1)]
theorem aeb(r:Vm (hp w) p x)(q n:Int):ρ 424 [.agg ⟨x.cells⟩,iI q,iI n] w λv w'=>v=iI (bW p q n)/\Gr w w':=by
 refine J6 (ag (St.all w) λZ V W=>?_);have g1:Gr w V:=W.aP
 have O:aq (hp V) (aM Z) x.cells:=by
  obtain⟨h0,s,ha⟩:=W.first;exact(kY ha).mono s
 have U:aq (hp V) ((aM Z).add 5) [gn x.g1,gn x.g2,gn x.g3]:=aq.drop (us:=[gn x.d,gn x.a1,gn x.a2,gn x.a3,gn x.t]) O;refine⟨_,_,_,_,_,_,_,_,_,U.at sZZ rfl,(afD (r.g.mono g1) n q).mono ?_⟩;rintro _ w3⟨rfl,g3⟩;have Y:=W.gr g3;have gw:Gr w w3:=g1.trans g3;cases hA:atR p.gt n q with
 |some v=>
  have hp:bW p q n=v:=by unfold bW;rw[hA]
  exact⟨v,true,rfl,fM rfl ⟨by rw[hp],gw⟩⟩
 |none=>
  have hp:bW p q n=if 0<=n/\n<p.tg.length then p.tg.getD n.toNat 0 else-1:=by unfold bW;rw[hA]
  have et:=r.t.1
  refine⟨0,false,rfl,bB rfl (ae (λu=>?_) λu=>⟨?_,gw⟩)⟩
  ·have u:=agQ u
   refine⟨_,_,_,by rw[ak];exact Y.cell 4,ae (λJ=>?_) λJ=>⟨?_,gw⟩⟩
   ·have J:=agQ J;obtain⟨m,rfl⟩:∃m:Nat,n=m:=⟨n.toNat,ω⟩;obtain⟨ad,X,cd⟩:=pH r.t (i:=m) ω;refine⟨_,_,_,by rw[ak];exact Y.cell 4,ax X ω ⟨_,cd _ gw,?_,gw⟩⟩;rw[hp,ag0 ξ];rfl
   ·have J:=agO J;rw[hp,agW (λhh=>J ω)]
  ·have u:=agO u;rw[hp,agW (λhh=>u hh.1)]
end
section
variable{g:ah}{nn:List Bool}{ss:List SQ}{least:Nat}
theorem IE{q t:Nat}{c:cP}:c∈cellAt g nn ss least q t↔least<=(ee g nn ss q t).length/\c=⟨(q:Int),(t:Int),ee g nn ss q t⟩:=by simp[cellAt]
theorem EF{q n:Nat}{c:cP}:c∈qV g nn ss least q n↔∃t,t<n/\least<=(ee g nn ss q t).length/\c=⟨(q:Int),(t:Int),ee g nn ss q t⟩:=by simp[qV,IE]
theorem pe{n:Nat}{c:cP}:c∈nr g nn ss least n↔∃q t,q<n/\t<g.T/\least<=(ee g nn ss q t).length/\c=⟨(q:Int),(t:Int),ee g nn ss q t⟩:=by simp[nr,EF]
def cP.lt(a b:cP):Prop:=a.st<b.st\/a.st=b.st/\a.tm<b.tm
theorem Lg{q:Nat}:∀n,(qV g nn ss least q n).Pairwise cP.lt
 |0=>by simp[qV]
 |n+1=>by
  rw[u7,List.pairwise_append]
  refine⟨Lg n,?_,λa ha b hb=>?_⟩
  ·unfold cellAt;split<;>simp
  ·obtain⟨t,h1,_,rfl⟩:=EF.1 ha
   obtain⟨_,rfl⟩:=IE.1 hb
   exact .inr ⟨rfl,by simp_all⟩
theorem EG:∀n,(nr g nn ss least n).Pairwise cP.lt
 |0=>by simp[nr]
 |n+1=>by
  rw[Bl,List.pairwise_append]
  refine⟨EG n,Lg _,λa ha b hb=>?_⟩
  obtain⟨q,t,h1,_,_,rfl⟩:=pe.1 ha
  obtain⟨t',_,_,rfl⟩:=EF.1 hb
  exact .inl (by simp_all)
theorem Lh{q n:Nat}:(qV g nn ss least q n).length<=n:=by
 induction n with
 |zero=>simp[qV]
 |succ n ih=>
  grind[u7,List.length_append,cellAt]
theorem Li{n:Nat}:(nr g nn ss least n).length<=n*g.T:=by
 induction n with
 |zero=>simp[nr]
 |succ n ih=>
  grind[Bl,List.length_append,Nat.succ_mul,Lh]
theorem YB{n i j:Nat}{a b:cP}(ha:(nr g nn ss least n)[i]? =some a)(hb:(nr g nn ss least n)[j]? =some b)(h1:a.st=b.st)(h2:a.tm=b.tm):i=j:=by
 have u:=ahP.1 (EG (g:=g) (nn:=nn) (ss:=ss) (least:=least) n);obtain⟨hi,rfl⟩:=agN.1 ha;obtain⟨J,rfl⟩:=agN.1 hb
 grind[Nat.lt_trichotomy,cP.lt]
theorem TG(q t:Nat):(TF ss q t).length<=1:=by grind[TF]
theorem TH(q t:Nat):(Vl ss q t).length<=1:=by grind[Vl]
theorem TI{q t:Nat}:(NC (dt g nn ss) q t).Pairwise λx y=>x.to<y.to:=by
 have e:NC (dt g nn ss) q t=(((dt g nn ss).filter λl=>decide (l.st=(q:Int))).filter λl=>decide ((t:Int)∈l.tm)).map λl=>⟨2,l.prod⟩:=by simp[NC,List.filter_filter,Bool.and_comm]
 rw[e,ahD];exact List.Pairwise.filter _ (Lf q)
theorem CS{l:iR}(h:l∈dt g nn ss):∃q m:Nat,q<ss.length/\m<g.prods.length/\m≠0/\l=lI g (Pw g nn ss) ⟨(q:Int),(m:Int),dz (bV g ss).length (fe g ss q m)⟩:=by
 obtain⟨b,hb,rfl⟩:=agY.1 h;obtain⟨q,m,U,O,rfl,J⟩:=M3 hb;refine⟨q,m,U,O,λe=>?_,rfl⟩;subst e;obtain⟨z,V⟩:=ahR _ J;obtain⟨u,_,W,hb⟩:=gl.1 V
 simp_all[bV,yK,qU]
theorem abn{q t:Nat}:(NC (dt g nn ss) q t).length<=g.prods.length:=by
 have h:=TI (g:=g) (nn:=nn) (ss:=ss) (q:=q) (t:=t);have J:pU ((NC (dt g nn ss) q t).map (·.to)):=by simp_all[pU,ahD]
 have V:=RN (B:=g.prods.length) J λz O=>by
  obtain⟨x,u,rfl⟩:=agY.1 O;unfold NC at u;obtain⟨l,hl,rfl⟩:=agY.1 u;obtain⟨_,m,_,U,_,rfl⟩:=CS (ahi.1 hl).1;exact⟨ahu _,by show(m:Int)<_;omega⟩
 simp_all
theorem YC{q t:Nat}:(ee g nn ss q t).length<=g.prods.length+2:=by grind[ee,TG,TH,abn,List.length_append]
theorem PF{q t:Nat}{x:aD}(h:x∈TF ss q t):x.kind=1/\dh ss q (t:Int)=some x.to:=by
 unfold TF at h
 grind
theorem PG{q t:Nat}{x:aD}(h:x∈Vl ss q t):x=⟨3,0⟩/\t=0/\∃r,ss[q]? =some r/\(⟨0,1⟩:au)∈r.1.2:=by grind[Vl]
theorem PH{ls:List iR}{q t:Nat}{x:aD}(h:x∈NC ls q t):x.kind=2/\∃l∈ls,l.st=(q:Int)/\l.prod=x.to/\(t:Int)∈l.tm:=by
 unfold NC at h
 grind
theorem TJ(hc:aw g){p:aJ}(hp:p∈g.prods){s:Int}(hs:s∈p.right):s≠g.T:=by
 obtain⟨_,V,u,X,J,W,O,_⟩:=hc;obtain⟨n,hn⟩:=ahb hp;cases n with
 |zero=>
  rw[J] at hn;cases hn;rw[O,ag_] at hs;have:=u.2.2.2.2.1;omega
 |succ n=>
  have U:p∈g.prods.drop 1:=by
   refine agL (i:=n) ?_;rw[ahy,Nat.add_comm];exact hn
  have:=(u.2.2.1 p U).2 s hs;unfold nV at this;omega
theorem abo(hc:aw g)(hA:bC g ss):∃j:Nat,dh ss 0 g.start=some (j:Int)/\j<ss.length/\∀(q:Nat)(r:SQ),ss[q]? =some r->((⟨0,1⟩:au)∈r.1.2↔q=j):=by
 have a0:=hc;obtain⟨_,_,b6,p0,u,a4,a6,_⟩:=a0;have Y:=hA.pos
 have zero:∀r,ss[0]? =some r->r.1.2=[⟨0,0⟩]:=λr U=>by
  have hK:=(ig hA U).1;have:(fJ g 0).1[0]? =some [⟨0,0⟩]:=rfl;rw[this] at hK;exact(Option.some.inj hK).symm
 obtain⟨r0,O⟩:∃r,ss[0]? =some r:=⟨_,agM Y⟩;have h0:vF g r0.1.2 ⟨((0:Nat):Int),((0:Nat):Int)⟩:=.base (by rw[zero r0 O];simp);have hs:p0.right[0]? =some g.start:=by rw[a6];rfl
 have av:=hc.sym (agL u) (agL hs);obtain⟨j,rj,e1,e2,e3⟩:=oM hc hA O h0 (ga u hs) ω;have a9:=(agN.1 e2).1
 refine⟨j,e1,a9,λq r U=>⟨λhm=>?_,λe=>?_⟩⟩
 ·by_cases hq:q=0
  ·subst hq;rw[zero r U] at hm;simp at hm
  obtain⟨i,s,k,e,b2,J,he,b3⟩:=Ia hc hA (ahT hq) (agN.1 U).1;obtain⟨_,_,j',r',q1,_,q3,q4,_⟩:=dm hc hA J he;have ej:j'=q:=ω
  subst ej;rw[U] at q3;cases q3;rw[q4] at hm;obtain⟨y,al,a7,Z⟩:=dj.1 hm
  have ey:y=⟨0,0⟩:=by
   have a1:=congrArg au.prod Z;have a2:=congrArg au.dot Z;cases y;simp at*;omega
  subst ey
  --it is of state 0
  have hi:i=0:=by
   cases al with
   |base hb=>
    by_cases e:i=0
    ·exact e
    ·obtain⟨i',s2,k2,b1,_,X,ad,am⟩:=Ia hc hA (ahT e) (agN.1 J).1;obtain⟨_,_,j2,r2,p1,_,p3,p4,_⟩:=dm hc hA X ad;have:j2=i:=ω
     subst this;rw[J] at p3;cases p3;rw[p4] at hb;obtain⟨z,a5,b4,aa⟩:=dj.1 hb;have hK:=(ig hA X).1;obtain⟨_,_,_,b5,_,_⟩:=hc.cK;have W:=a5.fit ((gN (g:=g) ω i').fit _ (agL hK));have a2:=congrArg au.dot aa;have:=W.2.1;simp at a2;omega
   | @step y2 n p h1 h2 h3 h4=>
    have h3:g.prods[0]? =some p:=h3;rw[u] at h3;cases h3;obtain⟨p2,a8,V,_⟩:=yd h2;exact absurd (by rw[<-h4,a4]) (TJ hc (agL a8) (agL V))
  subst hi
  have V:e.sym=g.start:=by
   rw[<-a7];exact ga (n:=0) (m:=0) u hs
  have h5:=xW hA J he;rw[V,e1] at h5;have:=Option.some.inj h5;omega
 ·subst e;rw[e2] at U;cases U;simpa using e3
end
section
variable{a b c d:aiz}{i j k l m n o p:Nat}{A B C D:Int}{w:aiA}{R:Value->WP}
theorem CU(h:new w (ψ a i j b k l c m n A d o p) λa b=>χ b (aM a) λa=>rE 114 [a,iI 2] b λa b=>∃c d e f,a=vU [vS c d e,iI f]/\R (vU [vS c d e,iI f]) b):ρ 45 [φ a i j b k l c m n A d o p] w R:=rv Tryz.func45 h
theorem EI(h:new w (ψ a i j b k l c m n A d o p) λa b=>χ b (aM a) λa=>rE 114 [a,iI 1] b λa b=>∃c d e f,a=vU [vS c d e,iI f]/\R (vU [vS c d e,iI f]) b):ρ 105 [φ a i j b k l c m n A d o p] w R:=rv Tryz.func105 h
theorem Gg(h:new w (ψ a i j b k l c m n A d o p) λa b=>χ b (aM a) λc=>rE 213 [c] b λb c=>∃d e f,b=vU [Value.map d,iI e,iI f]/\br (f !=0) (R (vU [zS,iI f]) c) (τ [(9,kT),(23,aN)] λb f=>b none 0 0 0 c/\∀(_:ν) c g h i j,b c g h i j->bQ (i<e) (cLs j (aM a) λe k l=>τ [(9,kT),(29,aN)] λa e=>a c g h 0 j/\∀(_:ν) l m n o p,a l m n o p->bQ (o<(k:Int)) (aY Tryz.prog (Instr.lookup 369 (Value.map d) (vG [iI i,iI o]) false) p λb c=>∃d f g,b=vS d f g/\bQ (B<=(f:Int)) (new c (oC [iI i,iI o,vS d f g] 90) λb c=>rS (fW1 83 [vS l m n,vS (some (aM b)) 1 1]) c λb c=>∃d f g,b=vS d f g/\aA (o+1)/\nD1 a e d f g (o+1) c l m n o p) (aA (o+1)/\nD1 a e l m n (o+1) c l m n o p)) (aA (i+1)/\nD1 b f l m n (i+1) p c g h i j)) (R (vU [vS c g h,iI 0]) j))):ρ 114 [φ a i j b k l c m n A d o p,iI B] w R:=rv Tryz.func114 h ⟨[(6,[(9,kT),(23,aN)]),(9,[(9,kT),(29,aN)])],[],[],[]⟩
theorem EK(h:new w (ψ a i j b k l c m n A d o p) λa b=>χ b (aM a) λc=>rE 41 [c] b λb c=>∃d e f g h i,b=vU [vG [vS d e f,iI g,iI h],iI i]/\new c (oC [zS,iI 0,iI 0] 76) λb c=>bA c (aM b) [vS d e f,iI g,iI h] λc=>br (i !=0) (R (vU [Value.map none,iI 0,iI i]) c) (χ c (aM a) λd=>rE 42 [d] c λc d=>∃e f g h,c=vU [vS e f g,iI h]/\br (h !=0) (R (vU [Value.map none,iI 0,iI h]) d) (new d (Obj.map (Array.mk []) 0) λc d=>cLs d (aM b) λh i j=>τ [(37,aN)] λj k=>j 0 d/\∀(_:ν) d l,j d l->bQ (d<(i:Int)) (idx h i d 2 λb=>∃e f g h i m,rA l b 2 [vS e f g,vS h i m]/\new l (oC [zS,zS] 199) λb n=>bA n (aM b) [vS e f g,vS h i m] λe=>cLs e (Addr.add (aM b) 1) λf g h=>τ [(45,aN)] λh i=>h 0 e/\∀(_:ν) e m,h e m->bQ (e<(g:Int)) (idx f g e 2 λb=>∃f g,rA m b 2 [iI f,iI g]/\new m (oC [iI 0,iI 0] 203) λb j=>bA j (aM b) [iI f,iI g] λf=>cLi f (aM b) λg=>cLs f (aM a) λj k l=>bQ (g<(k:Int)) (cLi f (aM b) λa=>cLi f (Addr.add (aM b) 1) λg=>new f (oC [iI 1,iI g] 170) λb f=>rE 296 [Value.map (some c),vG [iI d,iI a],vS (some (aM b)) 1 1] f λa b=>a=vU []/\aA (e+1)/\nA h i (e+1) b e m) (aA (e+1)/\nA h i (e+1) f e m)) (cLs m (aM b) λa e f=>rEb 297 [vS a e f,vG [iI 0,iI 1]] m λe b=>br e (new b (oC [iI 3,iI 0] 170) λa b=>rE 296 [Value.map (some c),vG [iI d,iI 0],vS (some (aM a)) 1 1] b λa b=>a=vU []/\aA (d+1)/\nA j k (d+1) b d l) (aA (d+1)/\nA j k (d+1) b d l))) (rE 298 [vS e f g,vF1 299 []] l λa d=>a=vU []/\τ [(81,aN)] λa g=>a 0 d/\∀(_:ν) d h,a d h->bQ (d<(f:Int)) (idx e f d 3 λb=>∃e f i j k,rA h b 3 [iI e,iI f,vS i j k]/\new h (oC [iI 0,iI 0,zS] 216) λb l=>bA l (aM b) [iI e,iI f,vS i j k] λe=>cLs e (Addr.add (aM b) 2) λf i j=>τ [(88,aN)] λj k=>j 0 e/\∀(_:ν) e l,j e l->bQ (e<(i:Int)) (idx f i e 1 λa=>cLi l a λd=>cLi l (aM b) λa=>cLi l (Addr.add (aM b) 1) λf=>new l (oC [iI 2,iI f] 170) λb f=>rE 296 [Value.map (some c),vG [iI a,iI d],vS (some (aM b)) 1 1] f λa b=>a=vU []/\aA (e+1)/\nA j k (e+1) b e l) (aA (d+1)/\nA a g (d+1) l d h)) (dW1 h λa d=>dLs d (aM b) λe f g=>R (vU [Value.map (some c),iI (f:Int),iI 0]) a))))):ρ 213 [φ a i j b k l c m n A d o p] w R:=rv Tryz.func213 h ⟨[(9,[(37,aN)]),(12,[(45,aN)]),(22,[(81,aN)]),(25,[(88,aN)])],[],[],[]⟩
theorem zH{F:Option Nat}(h:new w (oC [iI A,iI B] 373) λb c=>∃d e,rA c (aM b) 2 [iI d,iI e]/\aY Tryz.prog (Instr.mapEntry 369 (Value.map F) (vG [iI d,iI e])) c λb c=>∃d e f g,b=vU [vS d e f,iI g]/\rS (fW1 86 [vS d e f,vS a i j]) c λa b=>∃c d e,a=vS c d e/\aY Tryz.prog (Instr.entryStore 369 (Value.map F) (iI g) (vS c d e)) b λ(_:Unit)(a:aiA)=>R (vU []) a):ρ 296 [.map F,(.agg #[iI A,iI B]),vS a i j] w R:=rv Tryz.func296 h
abbrev qX:FuncId:=299
theorem zJ(h:new w (oC [iI A,iI B,vS a i j] 216) λa c=>new c (oC [iI C,iI D,vS b k l] 216) λb c=>cLi c (Addr.add (aM a) 1) λd=>cLi c (Addr.add (aM b) 1) λa=>aA (d-a)/\R (iI (d-a)) c):ρ 299 [(.agg #[iI A,iI B,vS a i j]),(.agg #[iI C,iI D,vS b k l])] w R:=rv Tryz.func299 h
end
instance:nX i_:={ val:=λk=>.agg ⟨[iI k.st,iI k.tm]⟩,inj:=λa b h=>by cases a;simp_all,a:=i_.st,b:=i_.tm,val2:=λ_=>rfl,ext:=λk l h1 h2=>by cases k;simp_all }
def bG(x:aD):List Value:=[iI x.kind,iI x.to]
def du(xs:List aD):List Value:=xs.flatMap bG
theorem oN(xs:List aD):(du xs).length=xs.length*2:=pJ (f:=bG) (n:=2) (λ_=>rfl) xs
theorem TK(xs ys:List aD):du (xs++ys)=du xs++du ys:=ahh
instance:uj aD:={ n:=2,rd:=λ_ x vs=>vs=bG x,mono:=λ_ h=>h,len:=λh=>by rw[h];rfl }
def Gh(ps:List (i_×Lq aD))(pt:EE):Prop:=(ps.map Prod.fst).Nodup/\∀p,j6 p ps=Js pt p
theorem Gh.nil:Gh [] []:=⟨σ,λp=>rfl⟩
theorem Gh.put{ps:List (i_×Lq aD)}{pt:EE}(h:Gh ps pt){p:i_}{a:aD}{q:Lq aD}(hq:q.2=j6 p ps++[a]):Gh (pI p q ps) (pt++[(p,a)]):=by
 refine⟨MB _ h.1,λk=>?_⟩;rw[nk,GM]
 by_cases e:k=p
 ·subst e;rw[ag0 rfl,hq,h.2];simp[Js]
 ·rw[agW e,h.2]
  grind[Js,ID]
section
variable{w:aiA}{L:List aE}{g:ah}{x:GA}
theorem Vn:Two Tryz.prog wV dX { name:="state",type:=dX,offset:=0,embedded:=false,tag:="",pkgPath:="presage/table",byteOffset:=0 } { name:="term",type:=dX,offset:=1,embedded:=false,tag:="",pkgPath:="presage/table",byteOffset:=8 } where
 ht:=by kernel_rfl
 hf:=by kernel_rfl
 hi:=bL
 ht0:=rfl
 ht1:=rfl
 n0:=σ
 n1:=σ
 o0:=rfl
 o1:=rfl
 sih:=FO
theorem Lj:wU Tryz.prog wV i_:=wU.two Vn
theorem YD{b ka:Nat}{ps:List (i_×Lq aD)}{pt:EE}{q t:Int}{a:aD}(h:St w (az ka (bG a)::mapA b (mV ps)::aV (mO 2 du ps)::L))(hG:Gh ps pt)(hb:pt.length<=100000000):
  ρ 296 [.map (some b),.agg #[iI q,iI t],vS (some (aM ka)) 1 1] w λv w'=>v=.tuple #[]/\∃ps',Gh ps' (pt++[(⟨q,t⟩,a)])/\St w' (mapA b (mV ps')::aV (mO 2 du ps')::L):=by
 refine zH (ag h λV Z h=>⟨_,_,(af 0 h.l).at sZZ rfl,?_⟩);refine(map_take (κ:=i_) aT (rfl:ai Ty _=.map _ _) Lj rfl rfl (h.pick 3 [2,0,1]) ⟨q,t⟩).mono ?_;rintro _ w2⟨n,rfl,h⟩;obtain⟨e,M,O,U,u,back⟩:=uP rfl (h.pick 4 [3,0,1,2]) ⟨q,t⟩
 have J:e.2.length<=pt.length:=by
  rw[U,hG.2];simp[Js,ahs]
 rw[O] at u ⊢;refine⟨_,_,_,_,rfl,?_⟩;refine(aS (us:=du e.2) (vs:=bG a) aT (rfl:ai Ty _=.slice _) (rfl:ai Ty _=.slice _) rfl rfl rfl (u.pick 5 [4,0,1,2,3]) rfl (by simp[aK,bG]) (by grind) ω).mono ?_;rintro _ X⟨o',W,rfl,h⟩;refine⟨_,_,_,rfl,(Pl (h.pick 5 [3,0,2]) _).mono ?_⟩;rintro _ Y h;rw[yJ] at h;have h:=A6 back (e.2++[a]) σ (by rw[TK];rfl) h;exact⟨rfl,_,hG.put (by simp_all),h⟩
end
def oO(l:List Int):Int:=(0::l).getLast σ
abbrev TrR:=Option (Bool×List aD×List Int)
def trB(g:ah)(A:Int->Int->aD)(G:Int->Int->Int)(t:Int)(k:List Int->List aD->TrR)(l:List Int)(ms:List aD):TrR:=
 if(A (oO l) t).kind=1 then(if 64<=l.length then none else some (true,ms++[A (oO l) t],l))
 else if(A (oO l) t).kind=3 then some (true,ms++[A (oO l) t],l)
 else if(A (oO l) t).kind=2 then
  match g.prods[(A (oO l) t).to.toNat]? with
  |some p=>if 64<=l.length-p.right.length then none else k (l.take (l.length-p.right.length)++[G (oO (l.take (l.length-p.right.length))) (p.left-g.T)]) (ms++[A (oO l) t])
  |none=>none
 else some (false,ms,l)
def V6(g:ah)(A:Int->Int->aD)(G:Int->Int->Int)(t:Int):Nat->List Int->List aD->TrR
 |0=>trB g A G t λ_ _=>none
 |n+1=>trB g A G t (V6 g A G t n)
structure afT(T:TypeId)(v:Value)(H:Hp)(A:Int->Int->aD)(G:Int->Int->Int):Prop where
 act:∀(w:aiA)(q t:Int),sub H (hp w)->∃g cs,(callMethod (.iface T v) "presage/trial.action" (Array.mk [iI q,iI t])).run Tryz.prog w=.ok (.enter g ⟨cs⟩) w/\iA Tryz.prog Ev g cs w λu w'=>u=.agg ⟨bG (A q t)⟩/\Gr w w'
 tgt:∀(w:aiA)(q n:Int),sub H (hp w)->∃g cs,(callMethod (.iface T v) "presage/trial.target" (Array.mk [iI q,iI n])).run Tryz.prog w=.ok (.enter g ⟨cs⟩) w/\iA Tryz.prog Ev g cs w λu w'=>u=iI (G q n)/\Gr w w'
section
variable{w:aiA}{p:dB}{x:PA}
theorem abp(r:Vm (hp w) p x)(q t:Int):ρ mf [.agg ⟨x.cells⟩,iI q,iI t] w λv w'=>v=.agg ⟨bG (bq p q t)⟩/\Gr w w':=by
 refine tF (ag (St.all w) λW w1 X=>ag X λk2 V J=>?_);have g2:Gr w V:=J.tail.aP
 have u:aq (hp V) (aM W) x.cells:=by
  obtain⟨h0,s,ha⟩:=J.tail.first;exact(kY ha).mono s
 refine⟨_,_,_,_,_,_,_,_,_,_,_,_,_,_,_,_,_,_,_,_,_,_,_,_,u.at sZZ rfl,(YA (x:=x) (r.mono g2) q t).mono ?_⟩;rintro _ Z⟨rfl,g3⟩;refine⟨_,_,rfl,aL (J.gr g3) rfl (by intro v U;simp at U;rcases U with rfl|rfl<;>rfl) λY O=>⟨_,_,?_,rfl,O.afu⟩⟩;obtain⟨h0,s,ha⟩:=O.first;exact((kY ha).mono s).at sZZ rfl
theorem abq(r:Vm (hp w) p x)(q n:Int):ρ mg [.agg ⟨x.cells⟩,iI q,iI n] w λv w'=>v=iI (bW p q n)/\Gr w w':=by
 refine tH (ag (St.all w) λU O J=>?_);have g1:Gr w O:=J.aP
 have u:aq (hp O) (aM U) x.cells:=by
  obtain⟨h0,s,ha⟩:=J.first;exact(kY ha).mono s
 refine⟨_,_,_,_,_,_,_,_,_,_,_,_,_,_,_,_,_,_,_,_,_,_,_,_,u.at sZZ rfl,(aeb (x:=x) (r.mono g1) q n).mono ?_⟩;rintro _ V⟨rfl,g3⟩;exact⟨_,rfl,rfl,g1.trans g3⟩
theorem aec{H:Hp}(r:Vm H p x):afT 379 (.agg ⟨x.cells⟩) H (bq p) (bW p) where
 act:=λw q t s=>⟨mf,[.agg ⟨x.cells⟩,iI q,iI t],by kernel_rfl,abp (r.mono s) q t⟩
 tgt:=λw q n s=>⟨mg,[.agg ⟨x.cells⟩,iI q,iI n],by kernel_rfl,abq (r.mono s) q n⟩
end
def fE(n j:Nat):List Bool:=Hv n λk=>decide (k<j)
theorem mG(n j:Nat):(fE n j).length=n:=sV _ _
theorem pf{n j:Nat}(h:j<=n)(k:Nat):bp (fE n j) k=decide (k<j):=by grind[fE,Gw]
theorem Fq{n j:Nat}(h:j<n):di (fE n j) [(j:Int)]=fE n (j+1):=by
 refine k_ (by simp[bu,mG]) λk=>?_;rw[eR,mG,gf,pf ω,pf ω,ahN]
 grind
theorem PI{n:Nat}(h:n<=1000):yz (n:Int) []=fE n 0:=by
 have hN:KL (n:Int)=n:=by grind[KL]
 refine k_ (by rw[L0,hN,mG]) λk=>?_;simp[yz,eR,gf,oy,pf]
def wm(bs:List Bool)(row:List Int):Bool:=row.all (hasB bs)
section
variable{w:aiA}{L:List aE}{g:ah}{x:GA}{a:aiz}{l c:Nat}{row:List Int}{q:aiz}{bs:List Bool}
theorem aed{c0:Addr}{s:Int}(hc:w.cell? c0=some (.pointer q))(h:eV (hp w) q bs):ρ ic [iI s,.pointer (some c0)] w λv w'=>v=vB (!hasB bs s)/\w'=w:=by
 refine uR ?_;refine⟨_,hc,(KO h s).mono ?_⟩;simp
theorem YE{c0:Addr}(hc:w.cell? c0=some (.pointer q))(h:eV (hp w) q bs)(hr:aX (hp w) row a l)(hb:l<=4611686018427387904):ρ 90 [vS a l c,.func (.func ic) #[] #[.pointer (some c0)]] w λv w'=>(∃n:Int,v=iI n/\(decide (0<=n)= !wm bs row))/\w'=w:=by
 refine bK ?_;refine⟨λn w'=>∃j:Nat,n=j/\j<=l/\wm bs (row.take j)=true/\w'=w,λn _=>l-n.toNat,⟨0,rfl,ω,rfl,rfl⟩,?_⟩;rintro _ n Y⟨j,rfl,W,ha,rfl⟩
 refine ae (λu=>?_) λu=>?_
 ·have u:j<l:=by simp_all
  obtain⟨y,X,U,J,O⟩:=hr.dQ u;refine ax J u ⟨y,O _ sZZ,a_.2 ⟨rfl,(aed hc h).mono ?_⟩⟩;rintro _ _⟨rfl,rfl⟩
  refine⟨_,rfl,ae (λV=>⟨⟨_,rfl,?_⟩,rfl⟩) λV=>⟨ξ,⟨j+1,σ,ω,?_,rfl⟩,bR u⟩⟩
  ·grind[wm,List.all_eq_false,List.mem_of_getElem?]
  simp_all[wm,b_,List.all_append]
 ·have u:j=l:=by grind
  subst u;rw[ag4 (by have:=hr.1;omega)] at ha
  simp_all
theorem YF{T:Int}(h:eV (hp w) q bs)(hr:aX (hp w) row a l)(hb:l<=4611686018427387904):ρ 173 [.agg #[.pointer q,iI T],vS a l c] w λv w'=>v=vB (wm bs row)/\Gr w w':=by
 refine zr ?_;refine ag (St.all w) λO u J=>?_;have g1:Gr w u:=J.aP
 have key:ρ 126 [vS a l c,.func (.func ic) #[] #[.pointer (some ⟨O,0,none⟩)]] u λv w'=>v=vB (!wm bs row)/\w'=u:=by
  refine bZ ?_;refine(YE (J.cell 0) (h.mono g1) (hr.mono g1) hb).mono ?_
  simp_all
 refine key.mono ?_
 simp_all
theorem YG(hg:gR (hp w) g x)(hT:g.T<=65)(hN:g.N<=65):ρ 259 [.agg ⟨x.cells⟩] w λv w'=>∃pb:Nat,v=.agg #[.pointer (some ⟨pb,0,none⟩),iI (g.T:Int)]/\St w' (cU (some ⟨pb,0,none⟩) (fE (g.T+g.N) g.T)::all w):=by
 refine H9 ?_;refine gi hg λk1 W gw hg B=>?_;have tl:g.T=x.tl:=hg.t.1;have nl:g.N=x.nl:=hg.n.1;have gs:sub (hp w) (hp W):=gw;have h1:=St.all W;unfold Proofs.YtaoaemnefghnbaaGreatDoor.all at h1;generalize hH:hp W=H at*;refine ag h1 λk2 w2 h=>λw3 hd=>?_;have h:=h.drawn hd;have eN:(x.tl:Int)+(x.nl:Int)=((g.T+g.N:Nat):Int):=ω
 refine⟨λw=>sub H (hp w),aC 1 h.l,_,_,_,λw s=>B.c0 s,_,_,_,λw s=>B.c1 s,ξ,_,_,_,λw s=>B.c0 s,?_,?_⟩
 ·rw[eN];refine(UN (xs:=[]) (l:=0) ((g.T+g.N:Nat):Int) (bt rfl (.inl rfl)) ω).mono ?_;rintro _ w7⟨pb,rfl,V⟩;have h:=V.eM h;refine⟨_,rfl,aC 2 h.l,ag h λU w8 h=>⟨aC 3 h.l,aL h rfl (by simp[aK]) λw9 h=>?_⟩⟩;rw[PI ω] at h;refine⟨_,_,_,B.c0 (aC 3 h.l),?_⟩;refine⟨λn w'=>∃j:Nat,n=j/\j<=g.T/\St w' [cU (some ⟨pb,0,none⟩) (fE (g.T+g.N) j),az U [.pointer (some ⟨pb,0,none⟩),iI (x.tl:Int)],az k2 [vP none,iI 0],has H],λn _=>g.T-n.toNat,⟨0,rfl,ω,h.pick 4 [1,0,2,3]⟩,?_⟩;clear h;rintro _ n J⟨j,rfl,hj,h⟩;have O:aq (hp J) ⟨U,0,none⟩ [.pointer (some ⟨pb,0,none⟩),iI (x.tl:Int)]:=af 1 h.l
  refine ae (λu=>?_) λu=>?_
  ·have u:j<g.T:=by simp_all
   refine⟨_,O.cell0 sZZ,ag h λX a4 h=>?_⟩;refine(z7 (xs:=[(j:Int)]) (l:=1) (h.pick 5 [1,0,2,3,4]) (λh Z=>bt rfl (.inr ⟨_,rfl,af 0 Z⟩)) ω).mono ?_;rintro _ a0⟨rfl,h⟩;rw[Fq ω] at h;exact⟨_,rfl,ξ,⟨j+1,σ,ω,h.pick 5 [0,2,3,4]⟩,bR u⟩
  ·have u:j=g.T:=by grind
   subst u;refine⟨_,_,O.at sZZ rfl,aL (h.pick 4 [2,0,1,3]) rfl (by simp[aK]) λY h=>?_⟩;exact⟨_,_,h.row.at sZZ rfl,pb,by grind,(h.pick 4 [1,3]).eM (bF gs)⟩
 ·refine ag h λU w8 h=>⟨aC 2 h.l,?_⟩;rw[eN];refine(UN (xs:=[]) (l:=0) ((g.T+g.N:Nat):Int) (bt rfl (.inl rfl)) ω).mono ?_;rintro _ w7⟨pb,rfl,V⟩;have h:=V.eM h;refine⟨_,rfl,aC 3 h.l,aL (h.pick 4 [1,0,2,3]) rfl (by simp[aK]) λw9 h=>?_⟩;rw[PI ω] at h;refine⟨_,_,_,B.c0 (aC 3 h.l),?_⟩;refine⟨λn w'=>∃j:Nat,n=j/\j<=g.T/\St w' [cU (some ⟨pb,0,none⟩) (fE (g.T+g.N) j),az U [.pointer (some ⟨pb,0,none⟩),iI (x.tl:Int)],az k2 [vP none,iI 0],has H],λn _=>g.T-n.toNat,⟨0,rfl,ω,h.pick 4 [1,0,2,3]⟩,?_⟩;clear h;rintro _ n J⟨j,rfl,hj,h⟩;have O:aq (hp J) ⟨U,0,none⟩ [.pointer (some ⟨pb,0,none⟩),iI (x.tl:Int)]:=af 1 h.l
  refine ae (λu=>?_) λu=>?_
  ·have u:j<g.T:=by simp_all
   refine⟨_,O.cell0 sZZ,ag h λX a4 h=>?_⟩;refine(z7 (xs:=[(j:Int)]) (l:=1) (h.pick 5 [1,0,2,3,4]) (λh Z=>bt rfl (.inr ⟨_,rfl,af 0 Z⟩)) ω).mono ?_;rintro _ a0⟨rfl,h⟩;rw[Fq ω] at h;exact⟨_,rfl,ξ,⟨j+1,σ,ω,h.pick 5 [0,2,3,4]⟩,bR u⟩
  ·have u:j=g.T:=by grind
   subst u;refine⟨_,_,O.at sZZ rfl,aL (h.pick 4 [2,0,1,3]) rfl (by simp[aK]) λY h=>?_⟩;exact⟨_,_,h.row.at sZZ rfl,pb,by grind,(h.pick 4 [1,3]).eM (bF gs)⟩
end
inductive Pd (g:ah):Int->Prop
 |tm (t:Nat):t<g.T->Pd g (t:Int)
 |mk (p:aJ):p∈g.prods->(∀s∈p.right,Pd g s)->Pd g p.left
def Z8(g:ah)(row:List Int):Prop:=∀s∈row,Pd g s
inductive Us (g:ah):Int->Prop
 |start:Pd g g.start->Us g g.start
 |zero:aw g->Pd g g.start->Us g (g.T:Int)
 |pr (p:aJ) (s:Int):p∈g.prods->Us g p.left->Z8 g p.right->s∈p.right->Us g s
theorem tY{g:ah}(h:bM g):(g.T:Int)<=g.start/\g.start<(g.T:Int)+g.N:=by
 rcases h with⟨s,p,_⟩|⟨h0,s,p,q,U,J,O,u⟩
 ·have:=p.2.2.2.2;omega
 ·have:=p.2.2.2.2;omega
theorem tZ{bs:List Bool}{s:Int}(h:0<=s):hasB bs s=bp bs s.toNat:=by simp_all[hasB]
theorem IH{g:ah}{bs:List Bool}{row:List Int}(hr:∀s∈row,0<=s/\s<(g.T:Int)+g.N):wm bs row=true↔∀s∈row,bp bs s.toNat=true:=by simp_all[wm,tZ]
def YH(g:ah)(bs:List Bool):Prop:=bs.length=g.T+g.N/\∀i,bp bs i=true↔Pd g (i:Int)
def UsP(g:ah)(bs:List Bool):Prop:=bs.length=g.T+g.N/\∀i,bp bs i=true↔(i<g.T\/Us g (i:Int))
theorem YH.all{g:ah}{bs:List Bool}(h:YH g bs){row:List Int}(hr:∀s∈row,0<=s/\s<(g.T:Int)+g.N):wm bs row=true↔Z8 g row:=by
 rw[IH hr]
 refine forall_congr' λs=>⟨λk u=>?_,λk u=>?_⟩
 ·have:=(h.2 _).1 (k u);grind
 ·exact(h.2 _).2 (by grind)
def YI(p:aJ)(bs:List Bool):List Bool:=if wm bs p.right then di bs [p.left] else bs
def ND(may:List Bool)(p:aJ)(bs:List Bool):List Bool:=if hasB bs p.left&&wm may p.right then di bs p.right else bs
theorem db{bs:List Bool}{xs:List Int}{k:Nat}:bp (di bs xs) k=true↔bp bs k=true\/(k<bs.length/\(k:Int)∈xs):=by
 rw[eR,gf,ahz,ag1,ahc,List.contains_iff_mem]
def PdJ(g:ah)(bs:List Bool):Prop:=bs.length=g.T+g.N/\(∀i,bp bs i=true->Pd g (i:Int))/\∀t,t<g.T->bp bs t=true
theorem PdJ.step{g:ah}(iG:Fi g){p:aJ}(hp:p∈g.prods){bs:List Bool}(h:PdJ g bs):PdJ g (YI p bs):=by
 unfold YI
 split
 ·rename_i ha;obtain⟨hl,J⟩:=iG p hp;refine⟨by rw[bu];exact h.1,λi hi=>?_,λt ht=>db.2 (.inl (h.2.2 t ht))⟩
  rcases db.1 hi with hi|⟨_,hi⟩
  ·exact h.2.1 i hi
  ·rw[ag_] at hi;rw[hi];refine .mk p hp λs u=>?_;have:=h.2.1 _ ((IH (g:=g) J).1 ha s u)
   grind
 omega
theorem PdJ.all{g:ah}(iG:Fi g){bs:List Bool}(h:PdJ g bs)(hc:∀p∈g.prods,YI p bs=bs):YH g bs:=by
 refine⟨h.1,λi=>⟨h.2.1 i,λhi=>?_⟩⟩
 have key:∀s,Pd g s->bp bs s.toNat=true:=λs u=>by
  induction u with
  |tm t ht=>exact h.2.2 t ht
  |mk p hp _ ih=>
   obtain⟨hl,J⟩:=iG p hp;have ha:wm bs p.right=true:=(IH (g:=g) J).2 ih;have:=hc p hp;unfold YI at this;rw[ag0 ha] at this;rw[<-this];exact db.2 (.inr ⟨by rw[h.1];omega,by grind⟩)
 grind
def YJ(g:ah)(bs:List Bool):Prop:=bs.length=g.T+g.N/\(∀i,bp bs i=true->i<g.T\/Us g (i:Int))/\(∀t,t<g.T->bp bs t=true)/\(Pd g g.start->bp bs g.start.toNat=true/\(aw g->bp bs g.T=true))
theorem YJ.step{g:ah}(iG:Fi g){may:List Bool}(hm:YH g may){p:aJ}(hp:p∈g.prods){bs:List Bool}(h:YJ g bs):YJ g (ND may p bs):=by
 unfold ND
 split
 ·rename_i ha;rw[ag1] at ha;obtain⟨hl,U⟩:=iG p hp;refine⟨by rw[bu];exact h.1,λi hi=>?_,λt ht=>db.2 (.inl (h.2.2.1 t ht)),λJ=>⟨db.2 (.inl (h.2.2.2 J).1),λhc=>db.2 (.inl ((h.2.2.2 J).2 hc))⟩⟩
  rcases db.1 hi with hi|⟨_,hi⟩
  ·exact h.2.1 i hi
  ·have O:=ha.1;rw[tZ ω] at O;have u:=h.2.1 _ O;rw[j9 ω] at u
   rcases u with u|u
   ·omega
   ·exact .inr (.pr p _ hp u ((hm.all U).1 ha.2) hi)
 omega
theorem YJ.all{g:ah}(he:bM g){may:List Bool}(hm:YH g may){bs:List Bool}(h:YJ g bs)(hc:∀p∈g.prods,ND may p bs=bs):UsP g bs:=by
 obtain⟨V,X,bN,Z,Y,W⟩:=Gc he;have J:=tY he;refine⟨h.1,λi=>⟨h.2.1 i,?_⟩⟩
 have key:∀s,Us g s->bp bs s.toNat=true:=λs u=>by
  induction u with
  |start hp=>exact(h.2.2.2 hp).1
  |zero hc' hp=>have:=(h.2.2.2 hp).2 hc';simp_all
  |pr p s hp _ hr' u ih=>
   obtain⟨hl,O⟩:=V p hp;have:=hc p hp;unfold ND at this;have U:hasB bs p.left=true:=by grind[tZ]
   rw[ag0 (by rw[U,(hm.all O).2 hr'];rfl)] at this;rw[<-this];exact db.2 (.inr ⟨by rw[h.1];simp_all,by grind⟩)
 rintro(ht|hu)
 ·exact h.2.2.1 i ht
 grind
section
variable{w:aiA}{L:List aE}{g:ah}{x:GA}{a:aiz}{l c:Nat}{row:List Int}{q:aiz}{bs:List Bool}
theorem GO{H:Hp}{fg:FuncId}{fc:List Value}{J:List Bool->Prop}{st:aJ->List Bool->List Bool}{bs0:List Bool}(hg:gR H g x)(hP:g.prods.length<=97)(hF:Fn fg=true)
  (hlen:∀p bs,(st p bs).length=bs.length) (hle:∀p bs k,bp bs k=true->bp (st p bs) k=true) (hJ:∀p∈g.prods,∀bs,J bs->J (st p bs)) (hb0:bs0.length<=1000)
  (hst:∀H',sub H H'->∀p∈g.prods,∀bs a l c w,J bs->aX H' p.right a l->St w [cU q bs,has H']->ρ fg (.agg #[iI p.left,vS a l c,iI p.level]::fc) w λv w'=>v=iI ((bJ (st p bs):Int)-bJ bs)/\St w' [cU q (st p bs),has H'])
  (hJ0:J bs0) (h:St w [cU q bs0,has H]):ρ 260 [.agg ⟨x.cells⟩,.func (.func fg) #[] ⟨fc⟩] w λv w'=>v=.tuple #[]/\∃bs,J bs/\bs.length=bs0.length/\(∀p∈g.prods,st p bs=bs)/\St w' [cU q bs,has H]:=by
 refine F_ ?_;refine ag h λk1 w1 h1=>?_;obtain⟨Z,a0,_,h⟩:=h1.swap.freeze;have sH:sub H Z:=aC 1 a0;have B:GB Z k1 x:=Xd (af 0 a0);have hg:=hg.mono sH;have pl:=hg.p.1;clear h1;have a9:∀p bs,bJ bs<=bJ (st p bs):=λp bs=>by simp_all[bJ,yI]
 obtain⟨Q,hQ⟩:=uU (λ(n:Int)(w:aiA)(m:Nat)=>∃bs:List Bool,J bs/\bs.length=bs0.length/\0<=n/\m=Fj bs+(if 0<n then 1 else 0)/\(n=0->∀p∈g.prods,st p bs=bs)/\St w [cU q bs,has Z]);obtain⟨μ,b1,aa⟩:=CF (λ(y:Int×aiA) m=>Q y.1 y.2 m)
 refine⟨λn w'=>∃m,Q n w' m,λn w=>μ (n,w),⟨Fj bs0+1,?_⟩,?_⟩
 ·rw[hQ]
  grind
 clear h;intro _ n w2 V;have V:=aa (n,w2) V;dsimp only at V;generalize hμ:μ (n,w2)=μ0 at*;rw[hQ] at V;obtain⟨bs,a6,X,hn,a7,hc,h⟩:=V;refine ae (λu=>?_) λu=>?_
 rotate_left
 ·have u:=agO u;exact⟨rfl,bs,a6,X,hc ω,h.eM (bF sH)⟩
 have u:=agQ u;rw[ag0 u] at a7;refine⟨_,_,_,B.c4 (aC 1 h.l),λn m w'=>∃(j:Nat)(cs:List Bool),m=j/\j<=g.prods.length/\J cs/\cs.length=bs0.length/\n=(bJ cs:Int)-bJ bs/\(∀k,bp bs k=true->bp cs k=true)/\(cs=bs->∀p∈g.prods.take j,st p bs=bs)/\St w' [cU q cs,has Z],λ_ m _=>g.prods.length-m.toNat,⟨0,bs,rfl,ω,a6,X,ω,λ_ h=>h,σ,h⟩,?_⟩;clear h;rintro _ n2 n3 w3⟨j,cs,rfl,hj,Y,W,rfl,O,a4,h⟩;have b4:bJ bs<=bJ cs:=by unfold bJ;rw[W,X];exact(yI O _).1
 have b3:=iC cs;have b2:=iC bs;refine ae (λU=>?_) λU=>?_
 rotate_left
 ·have U:j=g.prods.length:=by grind
  subst U;rw[ag9] at a4
  have key:Q ((bJ cs:Int)-bJ bs) w3 (Fj cs+(if(0:Int)<(bJ cs:Int)-bJ bs then 1 else 0)):=by
   rw[hQ];refine⟨cs,Y,W,ω,rfl,λh0=>?_,h⟩;have e:cs=bs:=Il ω O ω
   grind
  refine⟨⟨_,key⟩,?_⟩;have:=b1 (_,w3) _ key
  grind[Fj]
 have U:j<g.prods.length:=by grind
 obtain⟨p,ad,vs,a8,av,al,ra,rl,rc,rfl,b5,am⟩:=hg.p.get (i:=j) ω;have a5:=agL a8;have et:g.prods.take (j+1)=g.prods.take j++[p]:=by grind[List.take_add_one]
 refine aO av ω ⟨_,_,_,_,_,al.at (aC 1 h.l) rfl,ag h λk6 w4 h=>aL h rfl (by simp[aK]) λw5 h=>⟨_,_,_,_,_,h.row.at sZZ rfl,a_.2 ⟨hF,?_⟩⟩⟩;have h:St w5 [cU q cs,has Z]:=h.pick 3 [1,2];refine(hst Z sH p a5 cs ra rl rc w5 Y am h).mono ?_;rintro _ w6⟨rfl,h⟩;have h3:=a9 p cs;have h4:=iC (st p cs);rw[hlen] at h4;refine⟨_,rfl,ξ,ξ,⟨j+1,st p cs,σ,ω,hJ p a5 cs Y,by grind,ω,λk hk=>hle p cs k (O k hk),λe r hr=>?_,h⟩,bR U⟩
 have e1:cs=bs:=by
  refine Il ω O ?_
  grind
 grind
theorem abr{H:Hp}{k11:Nat}{T:Int}{p:aJ}(hb7:p.right.length<=17592186043904)(hc:aq H ⟨k11,0,none⟩ [.pointer q,iI T])(hr:aX H p.right a l)(h:St w [cU q bs,has H]):
  ρ mh [.agg #[iI p.left,vS a l c,iI p.level],.pointer (some ⟨k11,0,none⟩)] w λv w'=>v=iI ((bJ (YI p bs):Int)-bJ bs)/\St w' [cU q (YI p bs),has H]:=by
 refine tO ?_;have Y:=hr.1;refine ag h λW J h=>?_;have O:sub H (hp J):=aC 2 h.l;have U:aq (hp J) ⟨W,0,none⟩ [iI p.left,vS a l c,iI p.level]:=af 0 h.l;have V:eV (hp J) q bs:=h.swap.eV;refine⟨_,_,hc.at O rfl,_,_,_,U.cell sZZ (j:=1) rfl,(YF V (hr.mono O) ω).mono ?_⟩;rintro _ w2⟨rfl,g2⟩;have h:=h.gr g2
 refine⟨_,rfl,ae (λu=>?_) λu=>?_⟩
 ·have u:wm bs p.right=false:=by simp_all
  unfold YI;rw[u];exact⟨σ,h.pick 3 [1,2]⟩
 ·have u:wm bs p.right=true:=by simp_all
  refine⟨_,hc.cell0 (aC 2 h.l),_,(U.mono g2).cell0 sZZ,ag h λk4 Z h=>?_⟩;refine(z7 (xs:=[p.left]) (l:=1) (h.pick 4 [2,0,3]) (λh X=>bt rfl (.inr ⟨_,rfl,af 0 X⟩)) ω).mono ?_;rintro _ w4⟨rfl,h⟩;unfold YI;rw[ag0 u];exact⟨_,rfl,rfl,h.pick 3 [0,2]⟩
theorem RQ{H:Hp}{k12 k2:Nat}{T T2:Int}{q2:aiz}{may:List Bool}{p:aJ}(hb7:p.right.length<=17592186043904)(hc:aq H ⟨k12,0,none⟩ [.pointer q,iI T])(hc2:aq H ⟨k2,0,none⟩ [.pointer q2,iI T2])(hm:eV H q2 may)(hr:aX H p.right a l)(h:St w [cU q bs,has H]):
  ρ gO [.agg #[iI p.left,vS a l c,iI p.level],.pointer (some ⟨k12,0,none⟩),.pointer (some ⟨k2,0,none⟩)] w λv w'=>v=iI ((bJ (ND may p bs):Int)-bJ bs)/\St w' [cU q (ND may p bs),has H]:=by
 refine zv ?_;have Z:=hr.1;refine ag h λX V h=>?_;have O:sub H (hp V):=aC 2 h.l;have U:aq (hp V) ⟨X,0,none⟩ [iI p.left,vS a l c,iI p.level]:=af 0 h.l;have W:eV (hp V) q bs:=h.swap.eV;refine⟨_,hc.cell0 O,_,U.cell0 sZZ,(KO W p.left).mono ?_⟩;rintro _ _⟨rfl,rfl⟩
 refine⟨_,rfl,ae (λu=>?_) λu=>?_⟩
 ·have u:hasB bs p.left=false:=by simp_all
  unfold ND;rw[u,Bool.false_and,agW σ];exact⟨σ,h.pick 3 [1,2]⟩
 have u:hasB bs p.left=true:=by simp_all
 refine⟨_,_,hc2.at O rfl,_,_,_,U.cell sZZ (j:=1) rfl,(YF (hm.mono O) (hr.mono O) ω).mono ?_⟩;rintro _ w3⟨rfl,g3⟩;have h:=h.gr g3
 refine⟨_,rfl,ae (λJ=>?_) λJ=>?_⟩
 ·have J:wm may p.right=false:=by simp_all
  unfold ND;rw[J,Bool.and_false,agW σ];exact⟨σ,h.pick 3 [1,2]⟩
 ·have J:wm may p.right=true:=by simp_all
  refine⟨_,hc.cell0 (aC 2 h.l),_,_,_,(U.mono g3).cell sZZ (j:=1) rfl,?_⟩;refine(z7 (xs:=p.right) (l:=l) (h.pick 3 [1,2]) (λh Y=>hr.mono (aC 0 Y)) ω).mono ?_;rintro _ w4⟨rfl,h⟩;unfold ND;rw[u,J,Bool.and_self,ag0 rfl];exact⟨_,rfl,rfl,h⟩
end
def vq(T N:Nat)(ks:List Nat):List Bool:=Hv N λk=>decide (k<N)&&decide (T+k∈ks)
theorem kI(T N:Nat)(ks:List Nat):(vq T N ks).length=N:=sV _ _
theorem t_{T N:Nat}{ks:List Nat}(k:Nat):bp (vq T N ks) k=(decide (k<N)&&decide (T+k∈ks)):=by grind[vq,Gw]
theorem II{T N m:Nat}{ks:List Nat}(h:m<T):vq T N (ks++[m])=vq T N ks:=
 k_ (by simp[kI]) λk=>by
  rw[t_,t_,ahN]
  grind
theorem IJ{T N m:Nat}{ks:List Nat}(h:T<=m)(h2:m<T+N):(vq T N ks).set (m-T) true=vq T N (ks++[m]):=
 k_ (by simp[kI]) λk=>by
  rw[CG (by grind[kI]),t_,t_,ahN]
  grind
theorem EL{T N:Nat}{bs:List Bool}(h:bs.length=T+N):vq T N (mb bs)=bs.drop T:=
 k_ (by grind[kI,List.length_drop]) λk=>by
  rw[t_,fD,ahN]
  simp only[ag1,ahc,uq]
  exact⟨λh=>h.2,λh'=>⟨by have:=L5 h';omega,h'⟩⟩
theorem EM(T N:Nat):vq T N []=List.replicate N false:=
 k_ (by rw[kI,ahX]) λk=>by simp[t_,oy]
section
variable{w:aiA}{L:List aE}{g:ah}{x:GA}{a:aiz}{l c:Nat}{row:List Int}{q:aiz}{bs:List Bool}
theorem u9(hg:gR (hp w) g x)(hb:lq g)(he:bM g):ρ 167 [.agg ⟨x.cells⟩] w λv w'=>∃(pb:Nat)(bs:List Bool),v=.agg #[.pointer (some ⟨pb,0,none⟩),iI (g.T:Int)]/\YH g bs/\St w' (cU (some ⟨pb,0,none⟩) bs::all w):=by
 refine xR ?_;refine gi hg λk1 U gw hg B=>?_;obtain⟨X,bT,bN,pN,pT,Z⟩:=Gc he;have gs:sub (hp w) (hp U):=gw;have Y:=St.all U;unfold Proofs.YtaoaemnefghnbaaGreatDoor.all at Y;generalize hH:hp U=H at*;refine ag Y λk2 w2 h=>?_;refine⟨_,_,_,_,_,_,_,_,_,_,_,_,_,B.row (aC 1 h.l),(YG (x:=x) (hg.mono (aC 1 h.l)) bT bN).mono ?_⟩;rintro _ w3⟨pb,rfl,h3⟩;have h:=h3.eM h;refine⟨_,_,rfl,ag h λu w4 h=>aL h rfl (by simp[aK]) λw5 h=>?_⟩;refine⟨_,_,_,_,_,_,_,_,_,_,_,_,_,B.row (aC 3 h.l),?_⟩;obtain⟨h0,hl,_,h⟩:=(h.pick 4 [1,0,2,3]).freeze;have hc:aq h0 ⟨u,0,none⟩ [.pointer (some ⟨pb,0,none⟩),iI (g.T:Int)]:=af 0 hl
 refine(GO (J:=PdJ g) (st:=YI) (fg:=mh) (fc:=[.pointer (some ⟨u,0,none⟩)]) (hg.mono (aC 2 hl)) Z rfl (λp bs=>by grind[YI,bu]) (λp bs k hk=>by grind[YI,db]) (λp hp bs O=>O.step X hp) (by grind[mG]) (λH' s p hp bs a l c w O hr h=>abr (hb.2.2.2.2.2.2 p hp) (hc.mono s) hr h) ⟨mG _ _,λi hi=>?_,λt ht=>?_⟩ h).mono ?_
 ·rw[pf ω] at hi;exact .tm i (by simp_all)
 ·simp_all[pf]
 rintro _ w6⟨rfl,bs,O,_,V,h⟩;have h:=h.eM hl;have W:aq (hp w6) ⟨u,0,none⟩ [.pointer (some ⟨pb,0,none⟩),iI (g.T:Int)]:=af 1 h.l;refine⟨rfl,_,_,W.at sZZ rfl,aL (h.pick 4 [2,0,3]) rfl (by simp[aK]) λw7 h=>⟨_,_,h.row.at sZZ rfl,pb,bs,rfl,O.all X V,(h.pick 3 [1,2]).eM (bF gs)⟩⟩
theorem IK{may:List Bool}(hg:gR (hp w) g x)(hb:lq g)(he:bM g)(hm:eV (hp w) q may)(hp':YH g may):ρ 169 [.agg ⟨x.cells⟩,.agg #[.pointer q,iI (g.T:Int)]] w λv w'=>∃(pb:Nat)(bs:List Bool),v=.agg #[.pointer (some ⟨pb,0,none⟩),iI (g.T:Int)]/\UsP g bs/\St w' (cU (some ⟨pb,0,none⟩) bs::all w):=by
 refine Eo ?_;refine gi hg λk1 w1 gw hg B=>?_;obtain⟨iG,bT,bN,pN,pT,bP⟩:=Gc he;obtain⟨a9,a8⟩:=tY he;have tl:g.T=x.tl:=hg.t.1;have gs:sub (hp w) (hp w1):=gw;have hm:=hm.mono gs;have h1:=St.all w1;unfold Proofs.YtaoaemnefghnbaaGreatDoor.all at h1;have a0:=hg.s;generalize hH:hp w1=H at*;refine ag h1 λk2 w2 h=>ag h λk3 w3 h=>?_;refine⟨_,_,_,_,_,_,_,_,_,_,_,_,_,B.row (aC 2 h.l),(YG (x:=x) (hg.mono (aC 2 h.l)) bT bN).mono ?_⟩;rintro _ w4⟨pb,rfl,h4⟩;have h:=h4.eM h;refine⟨_,_,rfl,ag h λu w5 h=>aL h rfl (by simp[aK]) λw6 h=>?_⟩;have h:St w6 [az u [.pointer (some ⟨pb,0,none⟩),iI (g.T:Int)],cU (some ⟨pb,0,none⟩) (fE (g.T+g.N) g.T),az k3 [vP none,iI 0],az k2 [.pointer q,iI (g.T:Int)],has H]:=h;have h:=h.pick 5 [1,0,3,2,4];have j0:(fE (g.T+g.N) g.T).length=g.T+g.N/\(∀i,bp (fE (g.T+g.N) g.T) i=true->i<g.T\/Us g (i:Int))/\∀t,t<g.T->bp (fE (g.T+g.N) g.T) t=true:=by simp_all[mG,pf]
 have c2:w6.cell? ⟨k2,0,none⟩=some (.pointer q):=(af (b:=k2) (vs:=[.pointer q,iI (g.T:Int)]) 2 h.l).cell0 sZZ;refine⟨_,c2,_,B.c3 (aC 4 h.l),?_⟩;rw[a0];refine(KO (hm.mono (aC 4 h.l)) g.start).mono ?_;rintro _ w7⟨rfl,rfl⟩
 have a5:hasB may g.start=true↔Pd g g.start:=by
  rw[tZ ω,hp'.2,j9 ω]
 refine⟨_,rfl,ae (λhh=>?_) λhh=>?_⟩
 ·have hP:=a5.1 hh;have O:aq (hp w7) ⟨u,0,none⟩ [.pointer (some ⟨pb,0,none⟩),iI (g.T:Int)]:=af 1 h.l;refine⟨_,O.cell0 sZZ,_,B.c3 (aC 4 h.l),ag h λad w8 h=>?_⟩;refine(z7 (xs:=[x.s]) (l:=1) (h.pick 6 [1,0,2,3,4,5]) (λh hh=>bt rfl (.inr ⟨_,rfl,af 0 hh⟩)) ω).mono ?_;rintro _ w9⟨rfl,h⟩;have h:=h.pick 6 [0,2,3,4,5];rw[a0] at h;refine⟨_,rfl,_,_,_,_,_,_,_,_,_,_,_,_,_,B.row (aC 4 h.l),(td (x:=x) (hg.mono (aC 4 h.l)) hb).mono ?_⟩;rintro _ a7⟨⟨r,rfl,hr⟩,a6⟩;have h:=h.gr a6
  have j1:(di (fE (g.T+g.N) g.T) [g.start]).length=g.T+g.N/\(∀i,bp (di (fE (g.T+g.N) g.T) [g.start]) i=true->i<g.T\/Us g (i:Int))/\(∀t,t<g.T->bp (di (fE (g.T+g.N) g.T) [g.start]) t=true)/\bp (di (fE (g.T+g.N) g.T) [g.start]) g.start.toNat=true:=by
   refine⟨by simp_all[bu],λi hi=>?_,λt ht=>db.2 (.inl (j0.2.2 t ht)),db.2 (.inr ⟨ω,by grind⟩)⟩
   rcases db.1 hi with hi|⟨_,hi⟩
   ·simp_all
   ·rw[ag_] at hi;exact .inr (hi▸.start hP)
  generalize di (fE (g.T+g.N) g.T) [g.start]=b1 at*
  refine⟨_,rfl,ae (λhc=>?_) λhc=>?_⟩
  ·have hC:=hr.1 hc;have O:aq (hp a7) ⟨u,0,none⟩ [.pointer (some ⟨pb,0,none⟩),iI (g.T:Int)]:=af 1 h.l;refine⟨_,O.cell0 sZZ,_,O.cell sZZ (j:=1) rfl,ag h λaa am h=>?_⟩;refine(z7 (xs:=[(g.T:Int)]) (l:=1) (h.pick 6 [1,0,2,3,4,5]) (λh hh=>bt rfl (.inr ⟨_,rfl,af 0 hh⟩)) ω).mono ?_;rintro _ al⟨rfl,h⟩;have h:=h.pick 6 [0,2,3,4,5]
   have Z:YJ g (di b1 [(g.T:Int)]):=by
    refine⟨by simp_all[bu],λi hi=>?_,λt ht=>db.2 (.inl (j1.2.2.1 t ht)),λ_=>⟨db.2 (.inl j1.2.2.2),λ_=>db.2 (.inr ⟨ω,σ⟩)⟩⟩
    rcases db.1 hi with hi|⟨_,hi⟩
    ·simp_all
    ·rw[ag_] at hi;exact .inr (hi▸.zero hC hP)
   generalize di b1 [(g.T:Int)]=b2 at*;refine⟨_,rfl,?_⟩;refine⟨_,_,_,_,_,_,_,_,_,_,_,_,_,B.row (aC 4 h.l),?_⟩;obtain⟨h0,hl,_,h⟩:=h.freeze;have U:aq h0 ⟨u,0,none⟩ [.pointer (some ⟨pb,0,none⟩),iI (g.T:Int)]:=af 0 hl;have X:aq h0 ⟨k2,0,none⟩ [.pointer q,iI (g.T:Int)]:=af 1 hl;have jl:=Z.1;refine(GO (J:=YJ g) (st:=ND may) (fg:=gO) (fc:=[.pointer (some ⟨u,0,none⟩),.pointer (some ⟨k2,0,none⟩)]) (hg.mono (aC 3 hl)) bP rfl (λp bs=>by grind[ND,bu]) (λp bs k hk=>by grind[ND,db]) (λp hp bs V=>V.step iG hp' hp) ω (λH' s p hp bs a l c w V hr h=>RQ (hb.2.2.2.2.2.2 p hp) (U.mono s) (X.mono s) (hm.mono (sub.trans (aC 3 hl) s)) hr h) Z h).mono ?_;rintro _ Y⟨rfl,bs,V,_,W,h⟩;have h:=h.eM hl;have O:aq (hp Y) ⟨u,0,none⟩ [.pointer (some ⟨pb,0,none⟩),iI (g.T:Int)]:=af 1 h.l;exact⟨rfl,_,_,O.at sZZ rfl,aL (h.pick 5 [3,0,4]) rfl (by simp[aK]) λa4 h=>⟨_,_,h.row.at sZZ rfl,pb,bs,rfl,V.all he hp' W,(h.pick 3 [1,2]).eM (bF gs)⟩⟩
  ·have Z:YJ g b1:=⟨j1.1,j1.2.1,j1.2.2.1,λ_=>⟨j1.2.2.2,λhC=>by simp_all⟩⟩;generalize b1=b2 at*;refine⟨_,_,_,_,_,_,_,_,_,_,_,_,_,B.row (aC 4 h.l),?_⟩;obtain⟨h0,hl,_,h⟩:=h.freeze;have U:aq h0 ⟨u,0,none⟩ [.pointer (some ⟨pb,0,none⟩),iI (g.T:Int)]:=af 0 hl;have X:aq h0 ⟨k2,0,none⟩ [.pointer q,iI (g.T:Int)]:=af 1 hl;have jl:=Z.1;refine(GO (J:=YJ g) (st:=ND may) (fg:=gO) (fc:=[.pointer (some ⟨u,0,none⟩),.pointer (some ⟨k2,0,none⟩)]) (hg.mono (aC 3 hl)) bP rfl (λp bs=>by grind[ND,bu]) (λp bs k hk=>by grind[ND,db]) (λp hp bs V=>V.step iG hp' hp) ω (λH' s p hp bs a l c w V hr h=>RQ (hb.2.2.2.2.2.2 p hp) (U.mono s) (X.mono s) (hm.mono (sub.trans (aC 3 hl) s)) hr h) Z h).mono ?_;rintro _ Y⟨rfl,bs,V,_,W,h⟩;have h:=h.eM hl;have O:aq (hp Y) ⟨u,0,none⟩ [.pointer (some ⟨pb,0,none⟩),iI (g.T:Int)]:=af 1 h.l;exact⟨rfl,_,_,O.at sZZ rfl,aL (h.pick 5 [3,0,4]) rfl (by simp[aK]) λa4 h=>⟨_,_,h.row.at sZZ rfl,pb,bs,rfl,V.all he hp' W,(h.pick 3 [1,2]).eM (bF gs)⟩⟩
 ·have Z:YJ g (fE (g.T+g.N) g.T):=⟨j0.1,j0.2.1,j0.2.2,λhP=>by simp_all⟩
  ·generalize fE (g.T+g.N) g.T=b2 at*;refine⟨_,_,_,_,_,_,_,_,_,_,_,_,_,B.row (aC 4 h.l),?_⟩;obtain⟨h0,hl,_,h⟩:=h.freeze;have U:aq h0 ⟨u,0,none⟩ [.pointer (some ⟨pb,0,none⟩),iI (g.T:Int)]:=af 0 hl;have X:aq h0 ⟨k2,0,none⟩ [.pointer q,iI (g.T:Int)]:=af 1 hl;have jl:=Z.1;refine(GO (J:=YJ g) (st:=ND may) (fg:=gO) (fc:=[.pointer (some ⟨u,0,none⟩),.pointer (some ⟨k2,0,none⟩)]) (hg.mono (aC 3 hl)) bP rfl (λp bs=>by grind[ND,bu]) (λp bs k hk=>by grind[ND,db]) (λp hp bs V=>V.step iG hp' hp) ω (λH' s p hp bs a l c w V hr h=>RQ (hb.2.2.2.2.2.2 p hp) (U.mono s) (X.mono s) (hm.mono (sub.trans (aC 3 hl) s)) hr h) Z h).mono ?_;rintro _ Y⟨rfl,bs,V,_,W,h⟩;have h:=h.eM hl;have O:aq (hp Y) ⟨u,0,none⟩ [.pointer (some ⟨pb,0,none⟩),iI (g.T:Int)]:=af 1 h.l;exact⟨rfl,_,_,O.at sZZ rfl,aL (h.pick 5 [3,0,4]) rfl (by simp[aK]) λa4 h=>⟨_,_,h.row.at sZZ rfl,pb,bs,rfl,V.all he hp' W,(h.pick 3 [1,2]).eM (bF gs)⟩⟩
theorem YK{N T:Nat}(h:eV (hp w) q bs)(hl:bs.length=T+N)(hN:N<=65)(hT:T<=65)(ht:dP (hp w)):ρ 174 [.agg #[.pointer q,iI (T:Int)]] w λv w'=>∃k:Nat,v=vS (some ⟨k,0,none⟩) N N/\St w' (az k (bv (bs.drop T))::all w):=by
 refine xT ?_;have gs:sub (hp w) (hp w):=sZZ;have h0:=St.all w;unfold Proofs.YtaoaemnefghnbaaGreatDoor.all at h0;generalize hH:hp w=H at*;refine ag h0 λk1 w1 h1=>λw2 hd=>?_;have h1:=h1.drawn hd;have r1:aq (hp w2) ⟨k1,0,none⟩ [.pointer q,iI (T:Int)]:=af 0 h1.l;obtain⟨H2,a0⟩:=uU (hp w2);have sH:sub H H2:=a0▸aC 1 h1.l;have O:aq H2 ⟨k1,0,none⟩ [.pointer q,iI (T:Int)]:=a0▸r1;have h':=h;have eN:((bs.length:Nat):Int)-(T:Int)=(N:Int):=ω
 have h2:St w2 [has H2]:=by simp_all[St.all]
 refine⟨λw=>sub H2 (hp w),a0▸sZZ,_,λw s=>O.cell0 s,_,λw s=>O.cell s (j:=1) rfl,?_,?_⟩
 ·refine(L4 (h'.mono (sub.trans sH (aC 0 h2.l)))).mono ?_;rintro _ _⟨rfl,rfl⟩;refine⟨_,rfl,?_⟩
  try dsimp only
  rw[eN]
  refine⟨aC 0 h2.l,ξ,?_,?_⟩
  ·refine⟨⟨ω,rfl,ω⟩,?_⟩;rw[agZ,cZ,MY];refine ag h2 λk2 w6 h=>ag h λk3 w7 h=>⟨aC 2 h.l,aR h σ λw8 h=>⟨_,O.cell0 (aC 2 h.l),?_⟩⟩;have h:=h.pick 3 [0,1,2];refine(KP (h'.mono (sub.trans sH (aC 2 h.l)))).mono ?_;rintro _ w9⟨b,rfl,h9⟩;have h:=h9.eM h
   refine⟨_,_,rfl,a_.2 ⟨rfl,sC (mb bs),WV b bs.length (bp bs),dP,λi=>aV [az k3 [vS (some ⟨k2,0,none⟩) N N],az k2 (bv (vq T N ((mb bs).take i)))],pu False,λ_=>pu False,[has H2],?_,λh hh=>eE.mono (sub.trans sH (aC 0 hh)) ht,o_,?_,?_,?_,?_,trivial⟩⟩
   ·dsimp only;rw[List.take_zero,EM];exact St.flat.2 (h.pick 4 [1,2,0,3])
   ·intro y V;simp only[sC,agY] at V
    grind
   ·intro i y V L' a7 _ J;refine⟨_,J,λa8 Z U u=>?_⟩;have u:=St.flat.1 u;have V:(sC (mb bs))[i]? =some [iI y]:=V
    obtain⟨m,hk,rfl⟩:∃k,(mb bs)[i]? =some k/\y=(k:Int):=by
     unfold sC at V
     grind
    have Y:=uq.1 (agL hk);have a5:=L5 Y;have et:(mb bs).take (i+1)=(mb bs).take i++[m]:=by simp_all[agR]
    have sL:sub H2 (hp Z):=aC 0 (U _ u.tail.tail)
    refine⟨_,O.cell sL (j:=1) rfl,ae (λW=>?_) λW=>?_⟩
    ·have W:T<=m:=by simp_all
     have em:(m:Int)-(T:Int)=((m-T:Nat):Int):=ω
     refine⟨_,_,_,u.cell 0,_,O.cell sL (j:=1) rfl,ξ,?_⟩;rw[em];refine ax rfl ω ?_;rw[ak];refine aR u.swap (by grind[pz,kI]) λa9 h=>?_;rw[GK,IJ W ω,<-et] at h;exact St.flat.2 h.swap
    grind[of_decide_eq_false,II,St.flat]
   ·intro a6 J;have J:=St.flat.1 J;have e:(sC (mb bs)).length=(mb bs).length:=by simp[sC]
    rw[e,ag9,EL hl] at J;refine⟨_,_,_,J.cell 0,λa4 X=>⟨k2,rfl,?_⟩⟩;have J:=J.eq X;exact(J.pick 4 [1,3]).eM (bF (by simp_all))
   simp[St.pu]
  ·refine ag h2 λk3 w6 h=>⟨aC 1 h.l,⟨ω,rfl,ω⟩,?_⟩;rw[agZ,cZ,MY];refine ag h λk2 w7 h=>aR h.swap σ λw8 h=>⟨_,O.cell0 (aC 2 h.l),?_⟩;refine(KP (h'.mono (sub.trans sH (aC 2 h.l)))).mono ?_;rintro _ w9⟨b,rfl,h9⟩;have h:=h9.eM h
   refine⟨_,_,rfl,a_.2 ⟨rfl,sC (mb bs),WV b bs.length (bp bs),dP,λi=>aV [az k3 [vS (some ⟨k2,0,none⟩) N N],az k2 (bv (vq T N ((mb bs).take i)))],pu False,λ_=>pu False,[has H2],?_,λh hh=>eE.mono (sub.trans sH (aC 0 hh)) ht,o_,?_,?_,?_,?_,trivial⟩⟩
   ·dsimp only;rw[List.take_zero,EM];exact St.flat.2 (h.pick 4 [1,2,0,3])
   ·intro y V;simp only[sC,agY] at V
    grind
   ·intro i y V L' a7 _ J;refine⟨_,J,λa8 Z U u=>?_⟩;have u:=St.flat.1 u;have V:(sC (mb bs))[i]? =some [iI y]:=V
    obtain⟨m,hk,rfl⟩:∃k,(mb bs)[i]? =some k/\y=(k:Int):=by
     unfold sC at V
     grind
    have Y:=uq.1 (agL hk);have a5:=L5 Y;have et:(mb bs).take (i+1)=(mb bs).take i++[m]:=by simp_all[agR]
    have sL:sub H2 (hp Z):=aC 0 (U _ u.tail.tail)
    refine⟨_,O.cell sL (j:=1) rfl,ae (λW=>?_) λW=>?_⟩
    ·have W:T<=m:=by simp_all
     have em:(m:Int)-(T:Int)=((m-T:Nat):Int):=ω
     refine⟨_,_,_,u.cell 0,_,O.cell sL (j:=1) rfl,ξ,?_⟩;rw[em];refine ax rfl ω ?_;rw[ak];refine aR u.swap (by grind[pz,kI]) λa9 h=>?_;rw[GK,IJ W ω,<-et] at h;exact St.flat.2 h.swap
    grind[of_decide_eq_false,II,St.flat]
   ·intro a6 J;have J:=St.flat.1 J;have e:(sC (mb bs)).length=(mb bs).length:=by simp[sC]
    rw[e,ag9,EL hl] at J;refine⟨_,_,_,J.cell 0,λa4 X=>⟨k2,rfl,?_⟩⟩;have J:=J.eq X;exact(J.pick 4 [1,3]).eM (bF (by simp_all))
   simp[St.pu]
 ·refine ag h2 λk3 w6 h=>⟨aC 1 h.l,?_⟩;refine(L4 (h'.mono (sub.trans sH (aC 1 h.l)))).mono ?_;rintro _ _⟨rfl,rfl⟩;refine⟨_,rfl,?_⟩
  try dsimp only
  rw[eN]
  ·refine⟨aC 1 h.l,ξ,⟨ω,rfl,ω⟩,?_⟩;rw[agZ,cZ,MY];refine ag h λk2 w7 h=>aR h.swap σ λw8 h=>⟨_,O.cell0 (aC 2 h.l),?_⟩;refine(KP (h'.mono (sub.trans sH (aC 2 h.l)))).mono ?_;rintro _ w9⟨b,rfl,h9⟩;have h:=h9.eM h
   refine⟨_,_,rfl,a_.2 ⟨rfl,sC (mb bs),WV b bs.length (bp bs),dP,λi=>aV [az k3 [vS (some ⟨k2,0,none⟩) N N],az k2 (bv (vq T N ((mb bs).take i)))],pu False,λ_=>pu False,[has H2],?_,λh hh=>eE.mono (sub.trans sH (aC 0 hh)) ht,o_,?_,?_,?_,?_,trivial⟩⟩
   ·dsimp only;rw[List.take_zero,EM];exact St.flat.2 (h.pick 4 [1,2,0,3])
   ·intro y V;simp only[sC,agY] at V
    grind
   ·intro i y V L' a7 _ J;refine⟨_,J,λa8 Z U u=>?_⟩;have u:=St.flat.1 u;have V:(sC (mb bs))[i]? =some [iI y]:=V
    obtain⟨m,hk,rfl⟩:∃k,(mb bs)[i]? =some k/\y=(k:Int):=by
     unfold sC at V
     grind
    have Y:=uq.1 (agL hk);have a5:=L5 Y;have et:(mb bs).take (i+1)=(mb bs).take i++[m]:=by simp_all[agR]
    have sL:sub H2 (hp Z):=aC 0 (U _ u.tail.tail)
    refine⟨_,O.cell sL (j:=1) rfl,ae (λW=>?_) λW=>?_⟩
    ·have W:T<=m:=by simp_all
     have em:(m:Int)-(T:Int)=((m-T:Nat):Int):=ω
     refine⟨_,_,_,u.cell 0,_,O.cell sL (j:=1) rfl,ξ,?_⟩;rw[em];refine ax rfl ω ?_;rw[ak];refine aR u.swap (by grind[pz,kI]) λa9 h=>?_;rw[GK,IJ W ω,<-et] at h;exact St.flat.2 h.swap
    grind[of_decide_eq_false,II,St.flat]
   ·intro a6 J;have J:=St.flat.1 J;have e:(sC (mb bs)).length=(mb bs).length:=by simp[sC]
    rw[e,ag9,EL hl] at J;refine⟨_,_,_,J.cell 0,λa4 X=>⟨k2,rfl,?_⟩⟩;have J:=J.eq X;exact(J.pick 4 [1,3]).eM (bF (by simp_all))
   simp[St.pu]
end
def abt(g:ah)(nn:List Bool)(row:List Int):Prop:=∀s∈row,s<(g.T:Int)\/bp nn (s.toNat-g.T)=true
def V7(g:ah)(nn:List Bool):Prop:=nn.length=g.N/\∀i:Nat,bp nn i=true↔Pd g ((g.T+i:Nat):Int)
def YL(g:ah)(nn:List Bool):Prop:=nn.length=g.N/\∀i:Nat,bp nn i=true↔Us g ((g.T+i:Nat):Int)
theorem agA{g:ah}{s:Int}(h:(g.T:Int)<=s):((g.T+(s.toNat-g.T):Nat):Int)=s:=ω
theorem TL{g:ah}{s:Int}(h:0<=s)(h2:s<(g.T:Int)):Pd g s:=by
 have:=Pd.tm (g:=g) s.toNat ω
 grind
theorem V7.fit{g:ah}{nn:List Bool}(h:V7 g nn){row:List Int}(hr:∀s∈row,0<=s/\s<(g.T:Int)+g.N):abt g nn row↔Z8 g row:=by
 refine forall_congr' λs=>⟨λk u=>?_,λk u=>?_⟩
 ·by_cases J:s<(g.T:Int)
  ·simp_all[TL]
  ·have:=(h.2 _).1 ((k u).resolve_left J)
   grind
 ·by_cases J:s<(g.T:Int)
  ·omega
  ·exact .inr ((h.2 _).2 (by grind))
theorem YH.cR{g:ah}{bs:List Bool}(h:YH g bs):V7 g (bs.drop g.T):=⟨by rw[ahZ,h.1];omega,λi=>by rw[fD,h.2]⟩
theorem UsP.cR{g:ah}{bs:List Bool}(h:UsP g bs):YL g (bs.drop g.T):=⟨by rw[ahZ,h.1];omega,λi=>by
 rw[fD,h.2]
 grind⟩
theorem Us.in{g:ah}(he:bM g){s:Int}(h:Us g s):0<=s/\s<(g.T:Int)+g.N:=by
 obtain⟨u,O,bN,V,U,J⟩:=Gc he;have:=tY he;cases h with
 |start _=>omega
 |zero _ _=>omega
 |pr p s hp _ _ hs=>exact(u p hp).2 s hs
theorem Bm(n:Nat)(m:Nat->Bool):dx (n+1) m=dx n m++(if m n then[n] else[]):=by grind[dx,List.range_succ]
theorem yM{m:Nat->Bool}:∀{n i s:Nat},(dx n m)[i]? =some s->m s=true/\s<n/\(dx n m).take i=dx s m
 |0,i,s,h=>by grind[dx]
 |n+1,i,s,h=>by
  rw[Bm] at h ⊢
  by_cases hi:i<(dx n m).length
  ·rw[ag8 hi] at h
   obtain⟨h1,h2,h3⟩:=yM h
   grind
  grind
theorem IL(T:Nat)(m:Nat->Bool):∀d:Nat,(dx (T+d) m).filter (λk=>decide (T<=k))=(dx d λk=>m (T+k)).map λk=>T+k
 |0=>by grind[List.filter_eq_nil_iff,dx]
 |d+1=>by
  rw[show T+(d+1)=(T+d)+1 from rfl,Bm,Bm,aho,ag7,IL T m d]
  grind
def fO(T:Nat)(uns:List Bool)(s:Int):Int:=if s<(T:Int) then s else if bp uns (s.toNat-T) then(T:Int)+1+(dp (s.toNat-T) (bp uns):Int) else 0
def vr(g:ah)(pds uns:List Bool)(p:aJ):Bool:=bp uns (p.left.toNat-g.T)&&p.right.all λs=>decide (s<(g.T:Int))||bp pds (s.toNat-g.T)
def jE(g:ah)(uns:List Bool)(p:aJ):aJ:=⟨fO g.T uns p.left,p.right.map (fO g.T uns),p.level⟩
def Ac(g:ah)(k:Nat):ByteArray:=g.cR.getD k .empty
def ew(g:ah)(uns:List Bool):List ByteArray:=.empty::(dx g.N (bp uns)).map (Ac g)
def lK(g:ah)(uns:List Bool):aJ:=⟨g.T,[fO g.T uns g.start],0⟩
def kJ(g:ah)(pds uns:List Bool)(ps:List aJ):List aJ:=(ps.filter (vr g pds uns)).map (jE g uns)
def ir(g:ah)(pds uns:List Bool):ah:=⟨g.terms,ew g uns,g.levels,fO g.T uns g.start,lK g uns::kJ g pds uns g.prods⟩
theorem RR{g:ah}{pds uns:List Bool}{ps:List aJ}{p:aJ}:kJ g pds uns (ps++[p])=kJ g pds uns ps++(if vr g pds uns p then[jE g uns p] else[]):=by grind[kJ,vr]
def Lk(T n:Nat)(uns:List Bool)(pre:List Nat):List Int:=(List.range n).map λs=>if s∈pre then fO T uns (s:Int) else 0
theorem TM(T n:Nat)(uns:List Bool)(pre:List Nat):(Lk T n uns pre).length=n:=by simp[Lk]
theorem abu(T n:Nat)(uns:List Bool):Lk T n uns []=List.replicate n 0:=by
 unfold Lk;apply ahp
 grind
theorem TN{T n:Nat}{uns:List Bool}{pre:List Nat}{s:Nat}(h:s<n):(Lk T n uns pre).set s (fO T uns (s:Int))=Lk T n uns (pre++[s]):=by
 unfold Lk;apply ahp
 grind
theorem abv{g:ah}{bs:List Bool}(he:bM g)(h:UsP g bs){s:Nat}(hs:s<g.T+g.N):(Lk g.T (g.T+g.N) (bs.drop g.T) (mb bs))[s]? =some (fO g.T (bs.drop g.T) (s:Int)):=by
 unfold Lk;rw[agS,ahV hs];simp only[aif,uq]
 split
 ·rfl
 ·rename_i hf;unfold fO
  by_cases u:s<g.T
  ·exact absurd ((h.2 s).2 (.inl u)) hf
  simp_all[agW,fD]
theorem YM{T:Nat}{uns:List Bool}{s:Nat}(h:s<T):fO T uns (s:Int)=s:=by simp_all[fO]
theorem abw{T:Nat}{uns:List Bool}{s:Nat}(h:T<=s)(hu:bp uns (s-T)=true):fO T uns (s:Int)=(T:Int)+1+(dp (s-T) (bp uns):Int):=by simp_all[fO,agW]
def u_(g:ah)(pre:List Nat):List ByteArray:=.empty::(pre.filter λk=>decide (g.T<=k)).map λk=>Ac g (k-g.T)
theorem abx{g:ah}{bs:List Bool}{s:Nat}(hs:g.T<=s):(u_ g (dx s (bp bs))).length=1+dp (s-g.T) (bp (bs.drop g.T)):=by
 have:=IL g.T (bp bs) (s-g.T);rw[show g.T+(s-g.T)=s from ω] at this;unfold u_;rw[this,ahr,ag5,ag5,mA];have e:(λk=>bp bs (g.T+k))=bp (bs.drop g.T):=by grind[fD]
 grind
theorem aby{g:ah}{bs:List Bool}(hl:bs.length=g.T+g.N):u_ g (mb bs)=ew g (bs.drop g.T):=by
 have:=IL g.T (bp bs) g.N;unfold u_ ew mb;rw[hl,this,air];have e:(λk=>bp bs (g.T+k))=bp (bs.drop g.T):=by grind[fD]
 simp_all
theorem aee{g:ah}{pre:List Nat}{s:Nat}(h:s<g.T):u_ g (pre++[s])=u_ g pre:=by simp_all[u_]
theorem aef{g:ah}{pre:List Nat}{s:Nat}(h:g.T<=s):u_ g (pre++[s])=u_ g pre++[Ac g (s-g.T)]:=by simp_all[u_]
theorem abz{g:ah}{may bs:List Bool}(iG:Fi g)(hm:YH g may){p:aJ}(hp:p∈g.prods):(hasB bs p.left&&wm may p.right)=vr g (may.drop g.T) (bs.drop g.T) p:=by
 obtain⟨hl,O⟩:=iG p hp;unfold vr;rw[tZ ω,fD,show g.T+(p.left.toNat-g.T)=p.left.toNat from ω];congr 1;rw[ahN,hm.all O,ah4]
 refine forall_congr' λs=>⟨λk J=>?_,λk J=>?_⟩
 ·rw[ahz,ahc,fD]
  by_cases u:s<(g.T:Int)
  ·omega
  ·refine .inr ((hm.2 _).2 ?_)
   grind
 ·have:=k J;rw[ahz,ahc,fD] at this
  by_cases u:s<(g.T:Int)
  ·simp_all[TL]
  ·have:=(hm.2 _).1 (this.resolve_left u)
   grind
def EN:ah:=⟨[],[],[],0,[]⟩
def M7(g:ah)(e:Int)(G:ah):Prop:=(¬mB g/\e=1/\G=EN)\/(mB g/\¬Pd g g.start/\e=12/\G=EN)\/(mB g/\Pd g g.start/\e=0/\∃pds uns,V7 g pds/\YL g uns/\G=ir g pds uns)
abbrev PJ(k1 k2 k27 k44 k54:Nat)(w:aiA)(R:Value->aiA->Prop):Prop:=Rr R k1 k2 k27 k44 (some (aM k54)) w
end Go.Proofs.YtaoaemnefghnbaaGreatDoor
