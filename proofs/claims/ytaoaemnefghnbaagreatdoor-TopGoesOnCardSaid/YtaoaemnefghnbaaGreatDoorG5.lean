/- Texts of this claim, one behind the other. -/
import Derived.Test.YtaoaemnefghnbaaGreatDoorG4
import Derived.Test.YtaoaemnefghnbaaGreatDoorG3
import Derived.LaidEql
import Derived.Test.YtaoaemnefghnbaaGreatDoorG2
set_option linter.unusedVariables false
set_option linter.unusedSectionVars false
set_option maxRecDepth 100000
set_option maxHeartbeats 16000000
namespace Go.V
end Go.V
namespace Go.Proofs.YtaoaemnefghnbaaGreatDoor
end Go.Proofs.YtaoaemnefghnbaaGreatDoor
open Go.V Go.Proofs.YtaoaemnefghnbaaGreatDoor
namespace Go.Proofs.YtaoaemnefghnbaaGreatDoor
def MH(g:ah)(ss:List SQ)(m:List (aF×Value))(i:Nat):Prop:=∀t:aF,assoc t m=if t∈(bW g ss).take i then some (iI (((bW g ss).idxOf t:Int)+1)) else none
def UA(ss:List SQ)(m:List (aF×Value))(i:Nat)(es:List aH):Prop:=∀k:aF,assoc k m=
 if k.st<0 then none else if k.st.toNat<i then(dm ss k.st.toNat k.sym).map (λj=>iI (j+1)) else if k.st.toNat=i then(es.find? λe=>decide (e.sym=k.sym)).map (λe=>iI (e.to+1)) else none
section
variable{g:ah}{ss:List SQ}{m:List (aF×Value)}{i:Nat}
theorem MH.start:MH g ss [] 0:=λt=>by rfl
theorem MH.step(hA:bR g ss)(h:MH g ss m i){t:aF}(ht:(bW g ss)[i]? =some t):MH g ss (cO t (iI ((i:Int)+1)) m) (i+1):=λu=>by
 rw[fl,h u,afM,ht]
 by_cases e:u=t
 ·subst e
  rw[afZ rfl,afZ σ,Xq (Xp hA) ht]
 simp_all
theorem MH.all(h:MH g ss m (bW g ss).length)(t:aF):(assoc t m).getD (iI 0)=iI (A6 g ss t):=by
 rw[h t,af7]
 grind[A6]
theorem UA.start:UA ss [] 0 []:=λk=>by simp[assoc]
theorem UA.step{es:List aH}(h:UA ss m i es){e:aH}(hn:e.sym∉es.map (·.sym)):UA ss (cO ⟨(i:Int),e.sym⟩ (iI (e.to+1)) m) i (es++[e]):=λk=>by
 rw[fl,h k,KP hn]
 by_cases u:k=⟨(i:Int),e.sym⟩
 ·simp_all
 ·rw[afV u]
  split
  ·rfl
  ·split
   ·rfl
   ·split
    ·have:k.sym≠e.sym:=λh=>u (by cases k;grind)
     simp_all
    rfl
theorem UA.next{q:SQ}(hq:ss[i]? =some q)(h:UA ss m i q.2.2):UA ss m (i+1) []:=λk=>by
 rw[h k]
 split
 ·rfl
 ·by_cases J:k.st.toNat<i
  ·grind
  ·rw[afV J]
   by_cases u:k.st.toNat=i
   ·rw[afZ u,afZ ω,u,tw hq,Option.map_map];rfl
   grind
theorem UA.all(h:UA ss m ss.length [])(k:aF):(assoc k m).getD (iI 0)=iI (toK ss k):=by
 rw[h k];unfold toK
 by_cases h0:k.st<0
 ·simp_all
 ·rw[afV h0,afV h0]
  grind[dm,List.getElem?_eq_none]
end
abbrev wrC(x:GA)(o:ahr)(n c:Nat)(a int:Int)(ol:ahr)(nl cl ka kt:Nat)(on:ahr)(nn cn kp:Nat):List Value:=x.cells++[vS o n c,iI a,iI int,vS ol nl cl,.map (some ka),.map (some kt),vS on nn cn,.map (some kp)]
structure Xs(h:Hp)(g:ah)(ss:List SQ)(nn:List Bool)(k:Nat):Prop where
 ex:∃(x:GA)(o:ahr)(c:Nat)(a int:Int)(ol:ahr)(cl ka kt:Nat)(on:ahr)(cn kp:Nat)(ma mt:List (aF×Value))(mp:List (Int×Value)),
  aj h (aM k) (wrC x o ss.length c a int ol (bW g ss).length cl ka kt on g.N cn kp)/\gR h g x/\ON h ss o/\aY h (bW g ss) ol (bW g ss).length/\mapA ka ma h/\MH g ss ma (bW g ss).length/\mapA kt mt h/\UA ss mt ss.length []/\aY h nn on g.N/\mapA kp mp h/\
  ∀s:Int,∃(a:ahr)(c:Nat),(assoc s mp).getD (vS none 0 0)=.slice a (Jd g g.prods.length s).length c/\aY h ((Jd g g.prods.length s).map Int.ofNat) a (Jd g g.prods.length s).length
theorem Xs.mono{h h':Hp}{g:ah}{ss:List SQ}{nn:List Bool}{k:Nat}(s:sub h h')(r:Xs h g ss nn k):Xs h' g ss nn k:=by
 obtain⟨x,o,c,a,int,ol,cl,ka,kt,on,cn,Y,ma,O,mp,U,X,h3,W,Z,h6,h7,V,h9,J,u⟩:=r.ex;exact⟨x,o,c,a,int,ol,cl,ka,kt,on,cn,Y,ma,O,mp,U.mono s,X.mono s,h3.mono s,W.mono s,fu s Z,h6,fu s h7,V,h9.mono s,fu s J,λz=>by obtain⟨a,c,e,r⟩:=u z;exact⟨a,c,e,r.mono s⟩⟩
section
variable{w:ahs}{L:List aC}{g:ah}{x:GA}
theorem Rh(hg:gR (hp w) g x)(hb:mi g)(ht:dK (hp w)):ρ 195 [.agg ⟨x.cells⟩] w λv w'=>∃(ss:List SQ)(ask int f:Int)(p:ahr),v=.tuple #[.pointer p,iI f]/\EZ g ss ask int f/\Gr w w'/\(f=0->∃(k:Nat)(nn:List Bool),p=some (aM k)/\u6 g nn/\Xs (hp w') g ss nn k)/\(f≠0->p=none):=by
 refine JY (gH hg λk1 w1 gw hg B=>?_);refine⟨_,_,_,_,_,_,_,_,_,_,_,_,_,B.row sZZ,(xN hg hb).mono ?_⟩;rintro _ w2⟨o,c,ss,ask,int,f,rfl,hR,h⟩;have bc:Gr w1 w2:=aA 3 h.l;have hs:=Gi h.l;clear h
 refine⟨_,_,_,_,_,_,rfl,ag (St.all w2) λbz w3 h=>aL h rfl (by simp[aK]) λU h=>ae (λJ=>?_) λJ=>?_⟩
 ·have J:f≠0:=by simp_all
  exact⟨ss,ask,int,f,none,rfl,hR,gw.trans (bc.trans h.aQ),λh=>absurd h J,λ_=>rfl⟩
 have J:f=0:=by simp_all
 subst J;obtain⟨hc,hA⟩:=hR.P7 rfl;have bb:=hA.JW hc;have d6:=hA.dn.2.1;have ca:=Cp (g:=g) (λq O=>(bb q O).2) ss.length;have ba:Gr w2 U:=h.aQ;have b5:aj (hp U) (aM bz) [vS o ss.length c,iI ask,iI int]:=af 0 h.l;clear h;have Y:=bc.trans ba;have a7:=hg.mono Y;have cz:dK (hp U):=ec.mono (gw.trans Y) ht;have hs:=hs.mono ba;have B4:∀{u:ahs},sub (hp U) (hp u)->rowAt u ⟨k1,0,none⟩ 0 5=some x.cells:=λs=>B.row (sub.trans Y s);have pl:=hg.p.1;have cF:=hg;obtain⟨_,_,_,b4,_,_,_⟩:=id hb;refine⟨_,_,_,_,_,_,_,_,_,_,_,_,_,B4 sZZ,_,_,_,_,_,b5.at sZZ rfl,?_⟩;refine nI (St.all U) λZ w5 h=>?_;have h:=dT (κ:=aF) h;refine nI h λkt w6 h=>?_;have h:=dT (κ:=aF) h;refine nI h λW w7 h=>?_;have h:=dT (κ:=Int) h;refine ag (vs:=wrC x o ss.length c ask int none 0 0 Z kt none 0 0 W) h λX w8 h=>?_;have av:Gr U w8:=aA 4 h.l;refine⟨_,_,_,_,_,_,_,_,_,_,_,_,_,B4 av,(Xc (a7.mono av) hb).mono ?_⟩;rintro _ w9⟨e3,d8,d7,f2,ol,cl,rfl,bP,V⟩;obtain⟨_,ck,_,_,rfl,_⟩:=hR.one bP;rw[<-xP ck] at V ⊢;have h:=St.fb V h.l;clear V;have rL:aY (hp w9) (bW g ss) ol (bW g ss).length:=Gj rfl (dE 0 h.l);have h:St w9 (az X (wrC x o ss.length c ask int none 0 0 Z kt none 0 0 W)::own 2 ol (bW g ss).length cl (KN (bW g ss))::mapA W ([]:List (Int×Value))::mapA kt ([]:List (aF×Value))::mapA Z ([]:List (aF×Value))::all U):=h.pick 2 [1,0];refine⟨_,_,_,_,rfl,aR h (show 8<13 by simp) λb6 ha=>?_⟩;have h:St b6 (az X (wrC x o ss.length c ask int ol (bW g ss).length cl Z kt none 0 0 W)::own 2 ol (bW g ss).length cl (KN (bW g ss))::mapA W ([]:List (Int×Value))::mapA kt ([]:List (aF×Value))::mapA Z ([]:List (aF×Value))::all U):=ha;clear ha;have a0:Gr U b6:=aA 5 h.l;refine⟨_,_,_,_,_,_,_,_,_,_,_,_,_,B4 a0,(O1 (a7.mono a0) hb (ec.mono a0 cz)).mono ?_⟩;rintro _ cx⟨on,n1,cn,e1,nn,rfl,bl,bT,V⟩;have h:=St.fb V h.l;clear V
 have b1:u6 g nn:=by
  rcases bT with⟨J,_⟩|⟨_,_,J⟩
  ·exact absurd (.inr hc) J
  omega
 have bB:n1=g.N:=by rw[<-bl];exact b1.1
 subst bB;refine⟨_,_,_,_,rfl,aR (h.pick 2 [1,0]) (show 11<13 by simp) λb7 ha=>?_⟩;obtain⟨C,hC⟩:∃C,C=wrC x o ss.length c ask int ol (bW g ss).length cl Z kt on g.N cn W:=⟨_,rfl⟩;have h:St b7 (az X C::own 1 on g.N cn (bv nn)::own 2 ol (bW g ss).length cl (KN (bW g ss))::mapA W ([]:List (Int×Value))::mapA kt ([]:List (aF×Value))::mapA Z ([]:List (aF×Value))::all U):=by rw[hC];exact ha
 clear ha;have c8:C[8]? =some (.slice ol (bW g ss).length cl):=by rw[hC];rfl
 have c9:C[9]? =some (.map (some Z)):=by rw[hC];rfl
 have d0:C[10]? =some (.map (some kt)):=by rw[hC];rfl
 have cI:C[12]? =some (.map (some W)):=by rw[hC];rfl
 have ef:(bW g ss).length<=ss.length*130:=ca
 refine⟨_,_,_,(af 0 h.l).cell sZZ (j:=8) c8,λz w'=>∃(i:Nat)(ma:List (aF×Value)),z=i/\i<=(bW g ss).length/\MH g ss ma i/\St w' (mapA Z ma::az X C::own 1 on g.N cn (bv nn)::own 2 ol (bW g ss).length cl (KN (bW g ss))::mapA W ([]:List (Int×Value))::mapA kt ([]:List (aF×Value))::all U),λz _=>(bW g ss).length-z.toNat,
  ⟨0,[],rfl,afL _,.start,h.pick 6 [5,0,1,2,3,4]⟩,?_⟩
 clear h;rintro _ _ a8⟨i,ma,rfl,hi,hN,h⟩
 refine ae (λJ=>?_) λJ=>?_
 ·have J:i<(bW g ss).length:=by simp_all
  have rT:aY (hp a8) (bW g ss) ol (bW g ss).length:=Gj rfl (dE 3 h.l);obtain⟨t,e4,ht,d4,rt⟩:=xO rT J;refine aJ d4 J ⟨_,_,rt.at sZZ rfl,ag h λcA b2 h=>aL h rfl (by simp[aK]) λal h=>?_⟩;intro a6 hd;have h:=h.eq (aP hd);have c6:aj (hp a6) (aM cA) [iI t.st,iI t.sym]:=af 0 h.l;have rk:aj (hp a6) (aM X) C:=af 2 h.l;refine⟨λu=>Gr a6 u,Gr.refl _,_,λu s=>rk.cell s (j:=9) c9,_,_,λu s=>c6.at s rfl,⟨ω,ω⟩,(qv (κ:=aF) aT (rfl:ai Ty _=.map _ _) gl (h.pick 2 [1]) t _).mono ?_⟩;rintro _ dF h;exact⟨⟨ω,ω⟩,⟨i+1,_,σ,J,hN.step hA ht,h⟩,bY J⟩
 have J:i=(bW g ss).length:=by grind
 subst J;have bi:sub (hp U) (hp a8):=aA 6 h.l
 refine⟨_,_,_,b5.cell0 bi,λz w'=>∃(i:Nat)(mt:List (aF×Value)),z=i/\i<=ss.length/\UA ss mt i []/\St w' (mapA kt mt::mapA Z ma::az X C::own 1 on g.N cn (bv nn)::own 2 ol (bW g ss).length cl (KN (bW g ss))::mapA W ([]:List (Int×Value))::all U),λz _=>ss.length-z.toNat,
  ⟨0,[],rfl,afL _,.start,h.pick 6 [5,0,1,2,3,4]⟩,?_⟩
 clear h bi;rintro _ _ cg⟨i,mt,rfl,hi,hW,h⟩;have am:sub (hp U) (hp cg):=aA 6 h.l
 refine ae (λJ=>?_) λJ=>?_
 ·have J:i<ss.length:=by simp_all
  obtain⟨q,O⟩:∃q,ss[i]? =some q:=⟨_,afJ J⟩;obtain⟨ad,eo,rs,_,re⟩:=hs i q O;have be:=(bb q (afI O)).2;have e5:=D8 hA O;refine aJ eo J ⟨_,_,_,_,_,_,rs.at am rfl,ag h λc5 eg h=>aL h rfl (by simp[aK]) λd5 h=>?_⟩;have cc:aj (hp d5) (aM c5) (Uv q):=af 0 h.l
  refine⟨_,_,_,cc.cell sZZ (j:=1) rfl,λz w'=>∃(k:Nat)(mt:List (aF×Value)),z=k/\k<=q.2.2.length/\UA ss mt i (q.2.2.take k)/\St w' (mapA kt mt::mapA Z ma::az X C::own 1 on g.N cn (bv nn)::own 2 ol (bW g ss).length cl (KN (bW g ss))::mapA W ([]:List (Int×Value))::all U),λz _=>q.2.2.length-z.toNat,
   ⟨0,mt,rfl,afL _,hW,h.pick 7 [1,2,3,4,5,6]⟩,?_⟩
  clear h hW;rintro _ _ cC⟨k,mt,rfl,hk,hW,h⟩;have d3:sub (hp U) (hp cC):=aA 6 h.l;refine ae (λV=>?_) λV=>?_
  rotate_left
  ·have V:k=q.2.2.length:=by grind
   subst V;rw[af7] at hW;exact⟨⟨ω,ω⟩,⟨i+1,mt,σ,J,hW.next O,h⟩,bY J⟩
  have V:k<q.2.2.length:=by simp_all
  obtain⟨e,e7,he,bA,red⟩:=ph re V;obtain⟨_,_,j,r',hj,ea,cu,_⟩:=fv hc hA O he;have e8:=(afK.1 cu).1;refine aJ bA V ⟨_,_,red.at d3 rfl,ag h λch cx h=>aL h rfl (by simp[aK]) λb7 h=>?_⟩;intro a9 hd;have h:=h.eq (aP hd);have b3:aj (hp a9) (aM ch) [iI e.sym,iI e.to]:=af 0 h.l;have rk:aj (hp a9) (aM X) C:=af 3 h.l;refine⟨λu=>Gr a9 u,Gr.refl _,_,λu s=>rk.cell s (j:=10) d0,_,λu s=>b3.cell0 s,_,λu s=>b3.cell s (j:=1) rfl,⟨ω,ω⟩,(qv (κ:=aF) aT (rfl:ai Ty _=.map _ _) gl (h.pick 2 [1]) ⟨(i:Int),e.sym⟩ _).mono ?_⟩;rintro _ e9 h;have ht:q.2.2.take (k+1)=q.2.2.take k++[e]:=by simp_all[afM]
  have hn:e.sym∉(q.2.2.take k).map (·.sym):=λhm=>by
   have e1:q.2.2.map (·.sym)=(q.2.2.take k).map (·.sym)++e.sym::(q.2.2.drop (k+1)).map (·.sym):=by
    rw[<-agv,<-af8];congr 1;have:=af9 (k+1) q.2.2
    simp_all
   grind
  have hW:=hW.step hn;rw[<-ht] at hW;exact⟨⟨ω,ω⟩,⟨k+1,_,σ,V,hW,h⟩,bY V⟩
 have J:i=ss.length:=by grind
 subst J;have h:=h.pick 6 [5,0,1,2,3,4]
 refine⟨_,_,_,B.c4 (sub.trans Y am),λz w'=>∃(j:Nat)(ps:List (Int×Lq Int)),z=j/\j<=x.pl/\(∀s,jU s ps=(Jd g j s).map Int.ofNat)/\St w' (az X C::mapA W (mV ps)::aV (mO 1 iv ps)::mapA kt mt::mapA Z ma::own 1 on g.N cn (bv nn)::own 2 ol (bW g ss).length cl (KN (bW g ss))::all U),λz _=>x.pl-z.toNat,
  ⟨0,[],rfl,afL _,λs=>rfl,?_⟩,?_⟩
 ·have h:=(St.flat (M:=[])).2 h;exact h.pick 7 [4,1,0,2,3,5,6]
 clear h;rintro _ _ ci⟨j,ps,rfl,hj,b8,h⟩;have a5:sub (hp U) (hp ci):=aA 7 h.l;refine ae (λJ=>?_) λJ=>?_
 rotate_left
 ·have J:j=x.pl:=by grind
  subst J;rw[<-pl] at b8
  refine⟨ss,ask,int,0,some (aM X),rfl,hR,gw.trans (Y.trans a5),λ_=>⟨X,nn,rfl,b1,x,o,c,ask,int,ol,cl,Z,kt,on,cn,W,ma,mt,mV ps,by rw[<-hC];exact af 0 h.l,a7.mono a5,hs.mono a5,Gj rfl (dE 6 h.l),?_,hN,?_,hW,Hb bl (dE 5 h.l),?_,λs=>?_⟩,λh=>absurd rfl h⟩
  ·obtain⟨hm,sm,a4⟩:=Bi 4 h.l;exact fu sm a4
  ·obtain⟨hm,sm,a4⟩:=Bi 3 h.l;exact fu sm a4
  ·obtain⟨hm,sm,a4⟩:=Bi 1 h.l;exact fu sm a4
  have e:=b8 s;cases O:fF s ps with
  |none=>
   have e0:jU s ps=[]:=by simp_all[jU]
   rw[e0] at e;have e1:Jd g g.prods.length s=[]:=List.map_eq_nil_iff.1 e.symm;rw[js,O,e1];exact⟨none,0,rfl,aY.nil⟩
  |some q=>
   have e0:jU s ps=q.2:=by simp_all[jU]
   rw[e0] at e;obtain⟨d9,sq,ho⟩:=SJ (aq (aq h.l)) O;have hl:q.2.length=(Jd g g.prods.length s).length:=by simp_all
   refine⟨q.1.1,q.1.2,by simp_all[js,bS],?_⟩;rw[<-e,<-hl];exact(bp rfl (bK ho)).mono sq
 have J:j<x.pl:=by simp_all
 obtain⟨p,ad,vs,cT,cd,c7,ra,rl,rc,rfl,dk,ej⟩:=cF.p.get J;refine aJ cd J ⟨_,_,_,_,_,c7.at (sub.trans Y a5) rfl,ag h λaa e6 h=>aL h rfl (by simp[aK]) λeb h=>ae (λh3=>?_) λh3=>?_⟩
 rotate_left
 ·have h3:¬0<j:=by simp_all
  exact⟨⟨ω,ω⟩,⟨j+1,ps,σ,J,λs=>by rw[HZ cT,afV (λh=>h3 h.2),agc];simp_all,h.pick 8 [1,2,3,4,5,6,7]⟩,bY J⟩
 have h3:0<j:=by simp_all
 intro dl hd;have h:=h.eq (aP hd);have cm:∀{u:ahs}{L':List aC},St u (az X C::L')->u.cell? ((aM X).add 12)=some (.map (some W)):=λh=>(af 0 h.l).cell sZZ (j:=12) cI;have cp:∀{u:ahs}{L':List aC},St u (az aa [iI p.left,vS ra rl rc,iI p.level]::L')->u.cell? (aM aa)=some (iI p.left):=λh=>(af 0 h.l).cell0 sZZ
 refine⟨λu=>u.cell? ((aM X).add 12)=some (.map (some W))/\u.cell? (aM aa)=some (iI p.left),⟨cm (h.pick 2 [1]),cp h⟩,_,λu hu=>hu.1,_,λu hu=>hu.2,_,λu hu=>hu.1,_,λu hu=>hu.2,?_,?_⟩
 ·refine(cq (κ:=Int) aT (rfl:ai Ty _=.map _ _) bL rfl rfl (h.pick 3 [2]) p.left).mono ?_;rintro _ _⟨rfl,rfl⟩;obtain⟨q,M,e1,e2,O,back⟩:=uB rfl (h.pick 4 [3,0,1,2]) p.left;have be:q.2.length<=j:=by simp_all[Gk]
  refine⟨_,_,_,e1,⟨cm (O.pick 4 [3]),cp (O.pick 3 [2])⟩,ag O λei a8 h=>⟨⟨cm (h.pick 5 [4]),cp (h.pick 4 [3])⟩,?_⟩⟩;refine(aU (us:=iv q.2) aT (rfl:ai Ty _=.slice _) (rfl:ai Ty _=.slice _) rfl rfl rfl h rfl (by simp[aK]) (by grind) ω).mono ?_;rintro _ b2⟨o,c',rfl,h⟩;refine⟨_,_,_,rfl,⟨cm (h.pick 5 [4]),cp (h.pick 4 [3])⟩,(dh (κ:=Int) aT (rfl:ai Ty _=.map _ _) bL (h.pick 6 [5,0,2,4]) p.left _).mono ?_⟩;rintro _ al h;have h:=AP back (q.2++[(j:Int)]) σ (by simp[iv]) h;exact⟨⟨ω,ω⟩,⟨j+1,_,σ,J,λs=>by grind[mX,HZ],h.pick 3 [2,0,1]⟩,bY J⟩
 ·refine ag h λdc a6 h=>⟨⟨cm (h.pick 3 [2]),cp (h.pick 2 [1])⟩,(cq (κ:=Int) aT (rfl:ai Ty _=.map _ _) bL rfl rfl (h.pick 4 [3]) p.left).mono ?_⟩;rintro _ _⟨rfl,rfl⟩;obtain⟨q,M,e1,e2,O,back⟩:=uB rfl (h.pick 5 [4,0,1,2,3]) p.left;have be:q.2.length<=j:=by simp_all[Gk]
  refine⟨_,_,_,e1,⟨cm (O.pick 5 [4]),cp (O.pick 4 [3])⟩,?_⟩;refine(aU (us:=iv q.2) aT (rfl:ai Ty _=.slice _) (rfl:ai Ty _=.slice _) rfl rfl rfl (O.pick 3 [2,0,1]) rfl (by simp[aK]) (by grind) ω).mono ?_;rintro _ b2⟨o,c',rfl,h⟩;refine⟨_,_,_,rfl,⟨cm (h.pick 5 [4]),cp (h.pick 4 [3])⟩,(dh (κ:=Int) aT (rfl:ai Ty _=.map _ _) bL (h.pick 6 [5,0,2,4]) p.left _).mono ?_⟩;rintro _ al h;have h:=AP back (q.2++[(j:Int)]) σ (by simp[iv]) h;exact⟨⟨ω,ω⟩,⟨j+1,_,σ,J,λs=>by grind[mX,HZ],h.pick 3 [2,0,1]⟩,bY J⟩
end
def cY(n:Nat)(P:Nat->Int->Prop)(B k:Nat)(L:List aC)(w:ahs):Prop:=∃(o:ahr)(c:Nat)(es:List (Lq Int)),es.length=n/\(∀i q,es[i]? =some q->(∀z,z∈q.2↔P i z)/\q.2.length<=B)/\St w (az k [vS o n c]::own 1 o n c (es.map bS)::aV (es.map (bG 1 iv))::L)
theorem cY.iff{n B k:Nat}{P Q:Nat->Int->Prop}{L:List aC}{w:ahs}(h:cY n P B k L w)(hpq:∀i z,i<n->(P i z↔Q i z)):cY n Q B k L w:=by
 obtain⟨o,c,es,O,u,U⟩:=h;refine⟨o,c,es,O,λi q J=>⟨λz=>?_,(u i q J).2⟩,U⟩
 grind
theorem cY.gr{n B k:Nat}{P:Nat->Int->Prop}{L:List aC}{w w':ahs}(h:cY n P B k L w)(g:Gr w w'):cY n P B k L w':=by
 obtain⟨o,c,es,J,u,O⟩:=h;exact⟨o,c,es,J,u,O.gr g⟩
theorem cY.gw{n B k:Nat}{P:Nat->Int->Prop}{w0 w:ahs}(h:cY n P B k (all w0) w):Gr w0 w:=by
 obtain⟨o,c,es,O,J,u⟩:=h;exact aA 3 u.l
def Xt(n:Nat)(P:Nat->Int->Prop)(ds:List (Lq Int)):Prop:=ds.length=n/\∀i q,ds[i]? =some q->pq q.2/\∀z,z∈q.2↔P i z
section
variable{w:ahs}{L:List aC}{g:ah}{x:GA}
theorem Xu{n a B k:Nat}{b:Int}{P:Nat->Int->Prop}(h:cY n P B k L w)(ha:a<n)(hB:(B+1)*8<=140737488355328):ρ bM [iI (a:Int),iI b,vP (some (aM k))] w λv w'=>v=.tuple (Array.mk [])/\cY n (λi z=>P i z\/i=a/\z=b) (B+1) k L w':=by
 refine q8 ?_;intro w1 hd;have h:=h.gr (Gr.drawn hd);obtain⟨o,c,es,a0,V,h⟩:=h;obtain⟨q,hq⟩:∃q,es[a]? =some q:=⟨_,afJ ω⟩;have Z:=(V a q hq).2;have hA:(es.map (bG 1 iv))[a]? =some (bG 1 iv q):=by simp_all
 have hV:(es.map bS)[a]? =some (bS q):=by simp_all
 have h:=St.out (h.pick 3 [2,0,1]) hA;have h:St w1 (own 1 q.1.1 q.2.length q.1.2 (iv q.2)::aV ((es.map (bG 1 iv)).eraseIdx a)::az k [vS o n c]::own 1 o n c (es.map bS)::L):=h;obtain⟨U,rfl,X⟩:=cH (h.pick 4 [3]) hV;refine⟨λu=>u.cell? (aM k)=some (vS (some U) n c)/\u.cell? (U.add a)=some (bS q),⟨(af 2 h.l).cell0 sZZ,X⟩,_,_,_,λu W=>W.1,_,_,_,λu W=>W.1,ay rfl ha ⟨_,_,_,λu W=>W.2,ag h λk7 w5 h=>?_⟩⟩;have Y:∀{u:ahs}{L':List aC},St u (own 1 (some U) n c (es.map bS)::L')->u.cell? (U.add a)=some (bS q):=λh=>by grind[cH]
 refine⟨⟨(af 3 h.l).cell0 sZZ,Y (h.pick 5 [4])⟩,?_⟩;refine(aU (us:=iv q.2) aT (rfl:ai Ty _=.slice _) (rfl:ai Ty _=.slice _) rfl rfl rfl h rfl (by simp[aK]) (by grind) ω).mono ?_;rintro _ w6⟨O,J,rfl,h⟩;refine⟨_,_,_,rfl,⟨(af 3 h.l).cell0 sZZ,Y (h.pick 5 [4])⟩,ay rfl ha (gE (h.pick 5 [4,0,2,3]) rfl (by simp_all) λw7 h=>?_)⟩
 refine⟨rfl,some U,c,es.set a ((O,J),q.2++[b]),by simp_all,λi r hr=>?_,?_⟩
 ·grind
 ·have e1:(vS O (q.2.length+1) J:Value)=bS (((O,J),q.2++[b]):Lq Int):=by simp[bS]
  have e2:own 1 O (q.2.length+1) J (iv q.2++[iI b])=bG 1 iv (((O,J),q.2++[b]):Lq Int):=by simp[bG,iv]
  have h:St w7 (own 1 (some U) n c ((es.map bS).set a (vS O (q.2.length+1) J))::own 1 O (q.2.length+1) J (iv q.2++[iI b])::aV ((es.map (bG 1 iv)).eraseIdx a)::az k [vS (some U) n c]::L):=h;rw[e1,<-ags] at h;have h:=St.back (B:=own 1 O (q.2.length+1) J (iv q.2++[iI b])) (h.pick 4 [1,2,0,3]) hA;rw[e2,<-ags] at h;exact h.pick 3 [2,1,0]
theorem SZ{n k:Nat}{ss:List SQ}{nn:List Bool}{fg:FuncId}{fc:List Value}{P:Nat->Int->Prop}(hw:Xs (hp w) g ss nn k)(hn:(bW g ss).length=n)(hn2:n<=33280)(hF:Fn fg=true)
  (hE:∀(k4:Nat)(w0:ahs),cY n (λ_ _=>False) 0 k4 (all w) w0->ρ fg (.func (.func bM) (Array.mk []) (Array.mk [vP (some (aM k4))])::fc) w0 λv w'=>v=.tuple (Array.mk [])/\∃B,B<=4611686018427387/\cY n P B k4 (all w) w'):
  ρ 340 [vP (some (aM k)),.func (.func fg) (Array.mk []) (Array.mk fc)] w λv w'=>∃(o:ahr)(c:Nat)(ds:List (Lq Int)),v=vS o n c/\Xt n P ds/\St w' (own 1 o n c (ds.map bS)::aV (ds.map (bG 1 iv))::all w):=by
 obtain⟨x,o,c,a,int,ol,cl,ka,kt,on,cn,kp,ma,mt,mp,rk,hg,hs,rT,_,_,_,_,_,_,_⟩:=hw.ex;rw[hn] at rk;refine vR ⟨_,_,_,rk.cell sZZ (j:=8) rfl,⟨ω,rfl,ω⟩,?_⟩;rw[afU];have e0:iX n [(vS none 0 0:Value)]=(List.replicate n (((none,0),[]):Lq Int)).map bS:=by simp[dR,bS]
 rw[e0];refine ag (St.all w) λk3 w1 h=>ag h λk4 w2 h=>aR h σ λZ h=>a_.2 ⟨hF,?_⟩;have h:St Z (az k4 [vS (some (aM k3)) n n]::az k3 ((List.replicate n (((none,0),[]):Lq Int)).map bS)::all w):=h;have h:St Z (own 1 (some (aM k3)) n n ((List.replicate n (((none,0),[]):Lq Int)).map bS)::az k4 [vS (some (aM k3)) n n]::all w):=bj (cs:=[]) (show St Z (az k3 ((List.replicate n (((none,0),[]):Lq Int)).map bS++[])::az k4 [vS (some (aM k3)) n n]::all w) by rw[agc];exact h.pick 2 [1,0]) σ σ (afR _);have h:=BQ (A:=bG 1 iv ((none,0),[])) (λw L h=>aI 1 h) n h;rw[<-List.map_replicate] at h
 have a5:cY n (λ_ _=>False) 0 k4 (all w) Z:=by
  refine⟨_,_,List.replicate n (((none,0),[]):Lq Int),σ,λi q X=>?_,h.pick 3 [2,1,0]⟩
  grind
 clear h;refine(hE k4 Z a5).mono ?_;rintro _ w4⟨rfl,B,hB,Y,c4,es,O,J,h⟩
 refine⟨rfl,_,_,_,(af 0 h.l).cell0 sZZ,λz w'=>∃(i:Nat)(es:List (Lq Int)),z=i/\i<=n/\es.length=n/\(∀j q,es[j]? =some q->(∀z,z∈q.2↔P j z)/\q.2.length<=B/\(j<i->pq q.2))/\St w' (az k4 [vS Y n c4]::own 1 Y n c4 (es.map bS)::aV (es.map (bG 1 iv))::all w),λz _=>n-z.toNat,
  ⟨0,es,rfl,afL _,O,λj q X=>⟨(J j q X).1,(J j q X).2,λh=>absurd h ω⟩,h⟩,?_⟩
 clear h J O;rintro _ _ w5⟨i,es,rfl,hi,O,J,h⟩;refine ae (λU=>?_) λU=>?_
 rotate_left
 ·have U:i=n:=by grind
  refine⟨_,_,_,(af 0 h.l).cell0 sZZ,Y,c4,es,rfl,⟨O,λj q X=>?_⟩,h.pick 3 [1,2]⟩
  grind
 have U:i<n:=by simp_all
 obtain⟨q,X⟩:∃q,es[i]? =some q:=⟨_,afJ ω⟩;obtain⟨a8,a6,_⟩:=J i q X;have hA:(es.map (bG 1 iv))[i]? =some (bG 1 iv q):=by simp_all
 have hV:(es.map bS)[i]? =some (bS q):=by simp_all
 have h:=St.out (h.pick 3 [2,0,1]) hA;have h:St w5 (own 1 q.1.1 q.2.length q.1.2 (iv q.2)::aV ((es.map (bG 1 iv)).eraseIdx i)::az k4 [vS Y n c4]::own 1 Y n c4 (es.map bS)::all w):=h;obtain⟨W,rfl,a4⟩:=cH (h.pick 4 [3]) hV;have cc:∀{u:ahs}{L':List aC},St u (own 1 (some W) n c4 (es.map bS)::L')->u.cell? (W.add i)=some (bS q):=λh=>by grind[cH]
 refine⟨_,_,_,(af 2 h.l).cell0 sZZ,ay rfl U ⟨_,_,_,a4,(SE h ω).mono ?_⟩⟩;rintro _ w6⟨rfl,h⟩;refine⟨rfl,?_⟩;intro w7 hd;have h:=h.eq (aP hd);generalize hso:(q.2.mergeSort λx y=>decide (x<=y))=so at h;have aa:∀z,z∈so↔z∈q.2:=λz=>by grind[List.mem_mergeSort]
 have al:so.Pairwise (·<=·):=by
  have:=List.pairwise_mergeSort (le:=λx y:Int=>decide (x<=y)) (λa b c U h2=>by grind) (λa b=>by grind) q.2
  simp_all
 have a9:so.length=q.2.length:=by grind[List.length_mergeSort]
 refine⟨λu=>u.cell? (aM k4)=some (vS (some W) n c4)/\u.cell? (W.add i)=some (bS q),⟨(af 2 h.l).cell0 sZZ,cc (h.pick 4 [3])⟩,_,_,_,λu hu=>hu.1,_,_,_,λu hu=>hu.1,ay rfl U ⟨_,_,_,λu hu=>hu.2,(Re h ω).mono ?_⟩⟩;rintro _ a7⟨V,c',rfl,h⟩;refine⟨_,_,_,rfl,⟨(af 2 h.l).cell0 sZZ,cc (h.pick 4 [3])⟩,bq (b9 (bI h) ?_)⟩;have h:=cj h;refine⟨_,_,_,rfl,⟨(af 2 h.l).cell0 sZZ,cc (h.pick 4 [3])⟩,ay rfl U (gE (h.pick 4 [3,0,1,2]) rfl (by simp_all) λa0 h=>?_)⟩;have am:=Ra so
 refine⟨⟨ω,ω⟩,⟨i+1,es.set i ((fE V 0 (dd so).length 1,(dd so).length),dd so),σ,U,by simp_all,λj r hr=>?_,?_⟩,bY U⟩
 ·grind[List.getElem?_set_self,dd,ME,MD,List.getElem?_set_ne]
 ·have e1:(.slice (fE V 0 (dd so).length 1) (dd so).length (dd so).length:Value)=bS (((fE V 0 (dd so).length 1,(dd so).length),dd so):Lq Int):=rfl;have h:St a0 (own 1 (some W) n c4 ((es.map bS).set i (.slice (fE V 0 (dd so).length 1) (dd so).length (dd so).length))::own 1 (fE V 0 (dd so).length 1) (dd so).length (dd so).length (iv (dd so))::aV ((es.map (bG 1 iv)).eraseIdx i)::az k4 [vS (some W) n c4]::all w):=h;rw[e1,<-ags] at h;have h:=St.back (B:=own 1 (fE V 0 (dd so).length 1) (dd so).length (dd so).length (iv (dd so))) (h.pick 4 [1,2,0,3]) hA;rw[show own 1 (fE V 0 (dd so).length 1) (dd so).length (dd so).length (iv (dd so))=bG 1 iv (((fE V 0 (dd so).length 1,(dd so).length),dd so):Lq Int) from rfl,<-ags] at h;exact h.pick 3 [2,1,0]
end
section
variable{g:ah}{ss:List SQ}{nn:List Bool}
theorem MI{s:Int}(h:zk g nn s=true):(g.T:Int)<=s:=by simp_all[zk,afO]
def Vq(g:ah)(nn:List Bool)(ss:List SQ)(j0:Nat)(es:List aH)(z:Int):Prop:=∃e∈es,zk g nn e.sym=true/\A6 g ss ⟨(j0:Int),e.sym⟩=z+1
theorem Vq.snoc{j0:Nat}{es:List aH}{e:aH}{z:Int}:Vq g nn ss j0 (es++[e]) z↔Vq g nn ss j0 es z\/(zk g nn e.sym=true/\A6 g ss ⟨(j0:Int),e.sym⟩=z+1):=by
 unfold Vq;simp
theorem Vq.all(hc:ax g)(hA:bR g ss){i j0:Nat}{t:aF}{r:SQ}(ht:(bW g ss)[i]? =some t)(hnx:dm ss t.st.toNat t.sym=some (j0:Int))(hr:ss[j0]? =some r)(z:Int):Vq g nn ss j0 r.2.2 z↔z∈dz (bW g ss).length (kY g nn ss i):=by
 rw[gb]
 constructor
 ·rintro⟨e,he,X,h2⟩
  have V:0<A6 g ss ⟨(j0:Int),e.sym⟩:=by
   obtain⟨k,hk⟩:=agb he;have:=Q6 hr hk (MI X)
   grind[Gl]
  grind[Cy,List.getElem?_eq_some_iff,kY]
 ·rintro⟨u,rfl,Z,h⟩;unfold kY at h;rw[ht,afJ Z] at h;simp only[afX,aga] at h;obtain⟨X,h2⟩:=h;have U:(bW g ss)[u]? =some (bW g ss)[u]:=afJ Z;obtain⟨Y,q',k',e',a5,J,O,a4,a0⟩:=kX (afI U);have W:(Y:Int)=j0:=by simp_all
  have W:Y=j0:=ω
  subst W;rw[hr] at J;cases J;refine⟨e',afI O,by simp_all,?_⟩
  grind[Gl]
end
section
variable{w:ahs}{L:List aC}{g:ah}{x:GA}{ss:List SQ}{nn:List Bool}
theorem acS{t:aF}{j0:Nat}(h0:0<=t.st)(h:dm ss t.st.toNat t.sym=some (j0:Int)):toK ss t=(j0:Int)+1:=by simp_all[toK,afV]
theorem UB{n kw kc k1 k4:Nat}{w0:ahs}(hw:Xs (hp w) g ss nn kw)(hcl:ax g)(hA:bR g ss)(hnn:u6 g nn)(hkc:aj (hp w) (aM kc) [vP (some (aM kw))])(B:GB (hp w) k1 x)(hTl:g.T=x.tl)(hn:(bW g ss).length=n)(hn2:n<=33280)
  (hR:cY n (λ_ _=>False) 0 k4 (all w) w0):
  ρ 341 [.func (.func bM) (Array.mk []) (Array.mk [vP (some (aM k4))]),vP (some (aM kc)),vP (some (aM k1))] w0 λv w'=>v=.tuple (Array.mk [])/\∃B,B<=4611686018427387/\cY n (λi z=>z∈dz n (kY g nn ss i)) B k4 (all w) w':=by
 obtain⟨x',o,c,a,int,ol,cl,ka,kt,on,cn,kp,ma,mt,mp,rk,hg,hs,rT,b1,hN,b7,b3,rN,_,_⟩:=hw.ex;rw[hn] at rk rT;have bi:=hA.JW hcl;obtain⟨sT,sN,sP,_,_,_⟩:=hcl.cX;have c5:=hA.dn.2.1;have g0:Gr w w0:=hR.gw
 refine zv ⟨_,hkc.cell0 g0,_,_,_,rk.cell g0 (j:=8) rfl,λz w'=>∃(i B:Nat),z=i/\i<=n/\B<=i*130/\cY n (λj z=>j<i/\z∈dz n (kY g nn ss j)) B k4 (all w) w',λz _=>n-z.toNat,
  ⟨0,0,rfl,afL _,afL _,hR.iff λj z _=>⟨λh=>h.elim,λh=>absurd h.1 ω⟩⟩,?_⟩
 clear hR;rintro _ _ w1⟨i,B0,rfl,hi,cT,hR⟩;have g1:Gr w w1:=hR.gw;refine ae (λY=>?_) λY=>?_
 rotate_left
 ·have Y:i=n:=by grind
  subst Y;exact⟨rfl,B0,ω,hR.iff λj z hj=>⟨λh=>h.2,λh=>⟨hj,h⟩⟩⟩
 have Y:i<n:=by simp_all
 obtain⟨t,cc,ht,bB,rt⟩:=xO rT Y;obtain⟨i0,q0,k0,e0,ck,d5,cF,ci,cg⟩:=kX (afI ht);have W:dm ss t.st.toNat t.sym=some e0.to:=by grind[Cn]
 obtain⟨c6,a6⟩:=fe hcl hA W;obtain⟨J,b8⟩:∃J:Nat,e0.to=J:=⟨e0.to.toNat,ω⟩;rw[b8] at W a6;have am:J<ss.length:=ω
 obtain⟨r,hr⟩:∃r,ss[J]? =some r:=⟨_,afJ am⟩;have d3:=(bi r (afI hr)).2;have a9:0<=t.st:=by simp_all
 have hk:toK ss t=(J:Int)+1:=acS a9 W;obtain⟨o9,c9,es,bc,Z,h⟩:=hR;refine aJ bB Y ⟨_,_,rt.at g1 rfl,ag h λk3 w2 h=>aL h rfl (by simp[aK]) λw3 h=>?_⟩;intro w4 hd;have h:=h.eq (aP hd);have g4:Gr w w4:=aA 4 h.l;have r3:aj (hp w4) (aM k3) [iI t.st,iI t.sym]:=af 0 h.l;refine⟨λu=>Gr w4 u,Gr.refl _,_,λu s=>hkc.cell0 (sub.trans g4 s),_,λu s=>rk.cell (sub.trans g4 s) (j:=10) rfl,_,_,λu s=>r3.at s rfl,(eJ (κ:=aF) b7 g4 aT (rfl:ai Ty _=.map _ _) gl rfl rfl t).mono ?_⟩;rintro _ w8⟨rfl,e8⟩;rw[e8,b3.all,hk];obtain⟨c8,eo,rs,_,re⟩:=hs J r hr;have e9:((J:Int)+1)-1=(J:Int):=ω
 refine⟨_,rfl,Gr.refl _,⟨ω,ω⟩,_,hkc.cell0 g4,_,_,_,rk.cell g4 (j:=5) rfl,?_⟩;rw[e9];have hR:cY n (λj z=>j<i/\z∈dz n (kY g nn ss j)) B0 k4 (all w) w4:=⟨o9,c9,es,bc,Z,h.pick 4 [1,2,3]⟩;clear h Z
 refine aJ eo am ⟨_,_,_,rs.cell g4 (j:=1) rfl,λz w'=>∃(k B1:Nat),z=k/\k<=r.2.2.length/\B1<=B0+k/\cY n (λj z=>j<i/\z∈dz n (kY g nn ss j)\/j=i/\Vq g nn ss J (r.2.2.take k) z) B1 k4 (all w) w',λz _=>r.2.2.length-z.toNat,
  ⟨0,B0,rfl,afL _,afR _,hR.iff λj z _=>⟨.inl,λh=>h.elim id λh=>by obtain⟨_,e,he,_⟩:=h;simp_all⟩⟩,?_⟩
 clear hR;rintro _ _ w9⟨k,B1,rfl,cA,cz,hR⟩;have g9:Gr w w9:=hR.gw;refine ae (λV=>?_) λV=>?_
 rotate_left
 ·have V:k=r.2.2.length:=by grind
  rw[V,af7] at hR;refine⟨⟨ω,ω⟩,⟨i+1,B1,σ,Y,ω,hR.iff λj z _=>?_⟩,bY Y⟩;rw[Vq.all hcl hA ht W hr,hn]
  grind
 have V:k<r.2.2.length:=by simp_all
 obtain⟨e,cx,he,b4,red⟩:=ph re V;have bl:r.2.2.take (k+1)=r.2.2.take k++[e]:=by simp_all[afM]
 obtain⟨cm,cI,_⟩:=fv hcl hA hr he;obtain⟨be,bz,a8,a5,X,h⟩:=hR;refine aJ b4 V ⟨_,_,red.at g9 rfl,ag h λk8 cp h=>aL h rfl (by simp[aK]) λcu h=>?_⟩;intro O ba;have h:=h.eq (aP ba);have U:Gr w O:=aA 4 h.l;have r8:aj (hp O) (aM k8) [iI e.sym,iI e.to]:=af 0 h.l;have hR:cY n (λj z=>j<i/\z∈dz n (kY g nn ss j)\/j=i/\Vq g nn ss J (r.2.2.take k) z) B1 k4 (all w) O:=⟨be,bz,a8,a5,X,h.pick 4 [1,2,3]⟩
 have skip:zk g nn e.sym≠true->aD ((k:Int)+1)/\(∃(k' al:Nat),(k:Int)+1=k'/\k'<=r.2.2.length/\al<=B0+k'/\cY n (λj z=>j<i/\z∈dz n (kY g nn ss j)\/j=i/\Vq g nn ss J (r.2.2.take k') z) al k4 (all w) O)/\r.2.2.length-((k:Int)+1).toNat<r.2.2.length-(k:Int).toNat:=λhv=>by
  refine⟨⟨ω,ω⟩,⟨k+1,B1,σ,V,ω,hR.iff λj z _=>?_⟩,bY V⟩
  grind[Vq.snoc]
 refine⟨λu=>Gr O u,Gr.refl _,_,λu s=>r8.cell0 s,_,_,_,λu s=>B.c0 (sub.trans U s),ae (λh3=>?_) λh3=>skip λhv=>?_⟩
 rotate_left
 ·grind[MI,of_decide_eq_false]
 have h3:(g.T:Int)<=e.sym:=by grind
 obtain⟨m,hm⟩:∃m:Nat,e.sym-(x.tl:Int)=m:=⟨(e.sym-(x.tl:Int)).toNat,ω⟩;have a7:m<g.N:=ω
 have bT:zk g nn e.sym=bt nn m:=by
  unfold zk;rw[agt h3,ahm,show e.sym.toNat-g.T=m by omega]
 obtain⟨bb,b2⟩:∃bb,nn[m]? =some bb:=⟨_,afJ (by rw[hnn.1];omega)⟩;have cd:bt nn m=bb:=by grind[bt]
 obtain⟨cC,ch,ad,bP,b6⟩:=rN.dS a7;rw[b2] at ad;cases ad;refine⟨_,λu s=>hkc.cell0 (sub.trans U s),_,_,_,λu s=>rk.cell (sub.trans U s) (j:=11) rfl,_,λu s=>r8.cell0 s,_,_,_,λu s=>B.c0 (sub.trans U s),⟨ω,ω⟩,?_⟩;rw[hm];refine ay bP a7 ⟨bb,λu s=>b6 _ (sub.trans U s),ae (λh4=>?_) λh4=>skip (by grind)⟩;subst h4;have c7:=Q6 hr he h3;obtain⟨u0,av,ca⟩:=Cy hA (t:=⟨(J:Int),e.sym⟩) (by grind[Gl]);have d6:u0<n:=by grind
 intro a0 aa;have h:=h.eq (aP aa);have a4:Gr w a0:=aA 4 h.l;have r8:aj (hp a0) (aM k8) [iI e.sym,iI e.to]:=af 0 h.l;have hR:=hR.gr (Gr.drawn aa);refine⟨λu=>Gr a0 u,Gr.refl _,_,λu s=>hkc.cell0 (sub.trans a4 s),_,λu s=>rk.cell (sub.trans a4 s) (j:=9) rfl,_,λu s=>r8.cell0 s,(eJ (κ:=aF) b1 a4 aT (rfl:ai Ty _=.map _ _) gl rfl rfl ⟨(J:Int),e.sym⟩).mono ?_⟩;rintro _ d4⟨rfl,bA⟩;rw[bA,hN.all,av];have b5:((u0:Int)+1)-1=(u0:Int):=ω
 refine⟨_,rfl,Gr.refl _,⟨ω,ω⟩,a_.2 ⟨rfl,?_⟩⟩;rw[b5];refine(Xu (a:=i) hR Y ω).mono ?_;rintro _ d0⟨rfl,hR⟩;refine⟨rfl,⟨ω,ω⟩,⟨k+1,B1+1,σ,V,ω,hR.iff λj z _=>?_⟩,bY V⟩;rw[bl,Vq.snoc,av]
 grind
end
theorem Xt.list{n:Nat}{f:Nat->Nat->Bool}{ds:List (Lq Int)}(h:Xt n (λi z=>z∈dz n (f i)) ds):ds.map (·.2)=(List.range n).map λi=>dz n (f i):=by
 obtain⟨V,J⟩:=h;apply agq;intro i;rw[afQ,afQ]
 by_cases hi:i<n
 ·have u:ds[i]? =some ds[i]:=afJ ω;rw[u,agR hi];obtain⟨U,O⟩:=J i _ u;exact congrArg some (MC U (tA n (f i)) O)
 simp_all
theorem cY.has{n B k:Nat}{P:Nat->Int->Prop}{h0 h1:Hp}{w:ahs}(h:cY n P B k [Proofs.YtaoaemnefghnbaaGreatDoor.has h1] w)(s:sub h0 h1):cY n P B k [Proofs.YtaoaemnefghnbaaGreatDoor.has h0] w:=by
 obtain⟨o,c,es,u,O,U⟩:=h;exact⟨o,c,es,u,O,EU (L:=[_,_,_]) (M:=[Proofs.YtaoaemnefghnbaaGreatDoor.has h1]) (N:=[Proofs.YtaoaemnefghnbaaGreatDoor.has h0]) (λh J=>bH (sub.trans s (lU J))) U⟩
theorem cY.frz{n B k:Nat}{P:Nat->Int->Prop}{L:List aC}{w:ahs}(h:cY n P B k L w):∃h0,aG L h0/\sub h0 (hp w)/\cY n P B k [Proofs.YtaoaemnefghnbaaGreatDoor.has h0] w:=by
 obtain⟨o,c,es,U,q2,V,Y,d1,s1,s2,ha,h3,W,d2,Z,J,hb,h5,O,X,s5,u,hc,hl⟩:=h;exact⟨O,hl,u.trans (J.trans s2),o,c,es,U,q2,V,Y,d1,s1,s2,ha,h3,W,d2,Z,J,hb,h5,O,X,s5,u,hc,bH sZZ⟩
theorem cY.sb{n B k:Nat}{P:Nat->Int->Prop}{h0:Hp}{w:ahs}(h:cY n P B k [Proofs.YtaoaemnefghnbaaGreatDoor.has h0] w):sub h0 (hp w):=by
 obtain⟨o,c,es,O,J,u⟩:=h;exact aA 3 u.l
section
variable{g:ah}{ss:List SQ}
theorem KV(hc:ax g)(hA:bR g ss){i m:Nat}{q:SQ}{p:aO}(hq:ss[i]? =some q)(hp:g.prods[m]? =some p)(hy:wi g q.1.2 ⟨(m:Int),0⟩):p.right.length<=256:=by
 obtain⟨j,r,_,J,U⟩:=AW hc hA hp p.right.length 0 ω i q hq ω;obtain⟨_,_,_,O,_,_⟩:=hc.cX;have V:=(jC (g:=g) ω j).dots j _ (mq hA J).1;have W:=(afK.1 J).1;have u:=hA.dn.2.1;have:=U.dot (d:=j) V (agu _)
 grind
theorem O2(hc:ax g)(hA:bR g ss){i:Nat}{t:aF}(ht:(bW g ss)[i]? =some t){m:Nat}{p:aO}(hp:g.prods[m]? =some p)(hl:p.left=t.sym):∃(i0:Nat)(q:SQ),t.st=i0/\ss[i0]? =some q/\wi g q.1.2 ⟨(m:Int),0⟩:=by
 obtain⟨i0,V,k0,e0,a0,u,O,Y,W⟩:=kX (afI ht);obtain⟨_,_,j,r,_,_,hr,X,J⟩:=fv hc hA u O;obtain⟨x,Z⟩:=agP _ J;obtain⟨y,U,h2,_⟩:=dW.1 Z;refine⟨i0,V,by grind,u,.step U ω hp ?_⟩
 simp_all
theorem Xv(hc:ax g)(hA:bR g ss){q:Int}{row:List Int}{k:Nat}{s:Int}(h0:0<=q)(h1:q<ss.length)(hs:row[k]? =some s):toK ss ⟨dy ss q (row.take k),s⟩-1=dy ss q (row.take (k+1)):=by
 have hn:∀i s j,dm ss i s=some j->0<=j/\j<ss.length:=λi s j h=>fe hc hA h;rw[cQ hs,Ct hn _ _ _ h0 h1];unfold toK
 rcases Cr hn (row.take k) q h0 h1 with e|⟨J,u⟩
 ·simp_all
 ·rw[afV (by simp_all),afV ω,oI]
  grind[dm,dy]
end
section
variable{w:ahs}{L:List aC}{g:ah}{x:GA}{ss:List SQ}{nn:List Bool}
theorem xT(hc:ax g)(hA:bR g ss):(bW g ss).length<=33280:=by
 have u:∀q∈ss,q.2.2.length<=130:=λq J=>(hA.JW hc q J).2;have U:=Cp (g:=g) u ss.length;have O:=hA.dn.2.1
 show(yw g ss ss.length).length<=_
 omega
theorem aap(hg:gR (hp w) g x)(hb:mi g)(ht:dK (hp w)):ρ pz [.agg ⟨x.cells⟩] w λv w'=>∃(ss:List SQ)(ask int f:Int)(nn:List Bool)(o:ahr)(c:Nat)(ds:List (Lq Int)),v=.tuple #[vS o ds.length c,iI f]/\EZ g ss ask int f/\(f=0->u6 g nn)/\ds.map (·.2)=xQ g nn ss/\St w' (own 1 o ds.length c (ds.map bS)::aV (ds.map (bG 1 iv))::all w):=by
 refine Ef (gH hg λk1 w1 gw hg B=>?_);refine⟨_,_,_,_,_,_,_,_,_,_,_,_,_,B.row sZZ,(Rh hg hb (ec.mono gw ht)).mono ?_⟩;rintro _ w2⟨ss,ask,int,f,p,rfl,Y,g2,h0,hn⟩;refine⟨_,_,rfl,ag (St.all w2) λa5 w3 h=>aR h σ λw4 h=>?_⟩;have U:Gr w2 w4:=h.aQ;have W:aj (hp w4) (aM a5) [.pointer p]:=af 0 h.l;clear h;have u:=g2.trans U
 refine ae (λJ=>?_) λJ=>?_
 ·have J:f≠0:=by simp_all
  have hz:ss=[]:=by rcases Y with⟨_,e,_⟩|⟨_,_,e,_⟩|⟨_,_,_,_,e⟩<;>first|omega|omega
  subst hz;exact⟨[],ask,int,f,[],none,0,[],rfl,Y,λh=>absurd h J,rfl,aI 1 ((St.flat (M:=[])).2 (St.here (gw.trans u)))⟩
 have J:f=0:=by simp_all
 subst J;obtain⟨hc,hA⟩:=Y.P7 rfl;obtain⟨k,nn,rfl,V,Z⟩:=h0 rfl;have Z:=Z.mono U;have B4:GB (hp w4) k1 x:=⟨λs=>B.c0 (sub.trans u s),λs=>B.c1 (sub.trans u s),λs=>B.c2 (sub.trans u s),λs=>B.c3 (sub.trans u s),λs=>B.c4 (sub.trans u s),λs=>B.row (sub.trans u s)⟩;have X:=xT hc hA;refine⟨_,W.cell0 sZZ,(SZ (P:=λi z=>z∈dz (bW g ss).length (kY g nn ss i)) Z rfl X rfl λk4 w0 a0=>UB Z hc hA V W B4 hg.t.1 rfl X a0).mono ?_⟩;rintro _ w5⟨o,c,ds,rfl,O,h⟩;have a4:=O.1;refine⟨_,_,_,rfl,ss,ask,int,0,nn,o,c,ds,by grind,Y,λ_=>V,O.list,?_⟩;rw[a4];exact St.N0 h (bH (gw.trans u))
theorem aaq{kw k1:Nat}{s:Int}(hw:Xs (hp w) g ss nn kw)(hnn:u6 g nn)(hc:ax g)(r1:aj (hp w) (aM k1) [vP (some (aM kw))])(hs0:0<=s)(hs1:s<g.T+g.N):ρ hZ [iI s,vP (some (aM k1))] w λv w'=>v=vB (!zk g nn s)/\Gr w w':=by
 obtain⟨W,o,c,a,int,ol,cl,ka,kt,on,cn,kp,ma,mt,mp,U,hg,hs,rT,Z,hN,a7,a4,rN,_,_⟩:=hw.ex;obtain⟨sT,sN,sP,_,_,_⟩:=hc.cX;have a5:g.T=W.tl:=hg.t.1;refine nD ?_;intro Y hd;have g1:Gr w Y:=Gr.drawn hd
 refine⟨λu=>Gr Y u,Gr.refl _,_,λu s=>r1.cell0 (sub.trans g1 s),_,_,_,λu s=>U.cell0 (sub.trans g1 s),ae (λO=>⟨?_,g1⟩) λO=>?_⟩
 ·have O:¬(g.T:Int)<=s:=by simp_all
  simp_all[zk,age]
 have O:(g.T:Int)<=s:=by simp_all
 obtain⟨m,hm⟩:∃m:Nat,s-(W.tl:Int)=m:=⟨(s-(W.tl:Int)).toNat,ω⟩;have J:m<g.N:=ω
 obtain⟨bb,a6,a0,X,V⟩:=rN.dS J;refine⟨_,λu s=>r1.cell0 (sub.trans g1 s),_,_,_,λu s=>U.cell (sub.trans g1 s) (j:=11) rfl,_,λu s=>r1.cell0 (sub.trans g1 s),_,_,_,λu s=>U.cell0 (sub.trans g1 s),⟨ω,ω⟩,?_⟩;rw[hm];refine ay X J ⟨bb,λu s=>V _ (sub.trans g1 s),?_,g1⟩;unfold zk;rw[agt O,ahm,show s.toNat-g.T=m by omega]
 simp_all[bt]
theorem Ri{kw l c:Nat}{a:ahr}{row:List Int}(hw:Xs (hp w) g ss nn kw)(hnn:u6 g nn)(hc:ax g)(hr:aY (hp w) row a l)(hl:l<=4611686018427387904)(hrow:∀s∈row,0<=s/\s<g.T+g.N):ρ 344 [vP (some (aM kw)),vS a l c] w λv w'=>v=vB (FU g nn row)/\Gr w w':=by
 refine qe (ag (St.all w) λX O h=>?_);have g1:Gr w O:=h.aQ;have Y:aj (hp O) (aM X) [vP (some (aM kw))]:=af 0 h.l;clear h;have hr:=hr.mono g1;have hw:=hw.mono g1;refine bV ?_
 have key:ρ 90 [vS a l c,.func (.func hZ) #[] #[vP (some (aM X))]] O λv w'=>(∃n:Int,v=iI n/\(decide (0<=n)= !FU g nn row))/\Gr O w':=by
  refine bJ ?_;refine⟨λn w'=>∃j:Nat,n=j/\j<=l/\FU g nn (row.take j)=true/\Gr O w',λn _=>l-n.toNat,⟨0,rfl,ω,rfl,Gr.refl _⟩,?_⟩;rintro _ n w2⟨j,rfl,hj,ha,g2⟩
  refine ae (λu=>?_) λu=>?_
  ·have u:j<l:=by simp_all
   obtain⟨y,ad,U,W,V⟩:=hr.dS u;have J:=afI U;refine ay W u ⟨y,V _ g2,a_.2 ⟨rfl,(aaq (hw.mono g2) hnn hc (Y.mono g2) (hrow y J).1 (hrow y J).2).mono ?_⟩⟩;rintro _ w3⟨rfl,g3⟩
   refine⟨_,rfl,ae (λZ=>⟨⟨_,rfl,?_⟩,g2.trans g3⟩) λZ=>⟨⟨ω,ω⟩,⟨j+1,σ,ω,?_,g2.trans g3⟩,bY u⟩⟩
   ·have hv:zk g nn y=false:=by simp_all
    have:FU g nn row=false:=by
     unfold FU
     grind
    simp_all
   simp_all[FU,cQ,List.all_append]
  ·have u:j=l:=by grind
   subst u;rw[af3 (by have:=hr.1;omega)] at ha
   simp_all
 refine key.mono ?_;rintro _ w2⟨⟨n,rfl,hn⟩,g2⟩;refine⟨n,rfl,_,rfl,?_,g1.trans g2⟩
 simp_all
theorem S0{J:Nat->ahs->Prop}{H:Hp}{kw l c:Nat}{a:ahr}{row:List Int}{q:Int}{fg:FuncId}{fc:List Value}(hw:Xs H g ss nn kw)(hc:ax g)(hA:bR g ss)(hr:aY H row a l)(hl:l<=4611686018427387904)(h0:0<=q)(h1:q<ss.length)(hF:Fn fg=true)
  (hJ0:J 0 w) (hJs:∀k u,J k u->sub H (hp u)) (hst:∀(k:Nat)(u:ahs)(s:Int),row[k]? =some s->J k u->ρ fg (iI (dy ss q (row.take k))::iI (k:Int)::fc) u λv u'=>v=.tuple (Array.mk [])/\J (k+1) u'):
  ρ 196 [vP (some (aM kw)),iI q,vS a l c,.func (.func fg) (Array.mk []) (Array.mk fc)] w λv w'=>v=iI (dy ss q row)/\J l w':=by
 obtain⟨x',o,c',a',int,ol,cl,ka,kt,on,cn,kp,ma,mt,mp,rk,hg,hs,rT,a4,hN,Z,W,rN,_,_⟩:=hw.ex;have a6:=hr.1;have a0:=hA.dn.2.1;have hn:∀i s j,dm ss i s=some j->0<=j/\j<ss.length:=λi s j h=>fe hc hA h;refine uG ⟨λst z w'=>∃k:Nat,z=k/\k<=l/\st=dy ss q (row.take k)/\J k w',λ_ z _=>l-z.toNat,⟨0,rfl,afL _,rfl,hJ0⟩,?_⟩;rintro _ _ _ w1⟨k,rfl,hk,rfl,V⟩;refine ae (λO=>?_) λO=>?_
 rotate_left
 ·grind
 have O:k<l:=by simp_all
 have s1:=hJs _ _ V;obtain⟨y,ad,U,Y,X⟩:=hr.dS O;refine ay Y O ⟨y,X _ s1,a_.2 ⟨hF,(hst k w1 y U V).mono ?_⟩⟩;rintro _ w2⟨rfl,V⟩;have s2:=hJs _ _ V;refine⟨rfl,_,rk.cell s2 (j:=10) rfl,(eJ (κ:=aF) Z s2 aT (rfl:ai Ty _=.map _ _) gl rfl rfl ⟨dy ss q (row.take k),y⟩).mono ?_⟩;rintro _ w3⟨rfl,rfl⟩;rw[W.all];have e:=Xv hc hA h0 h1 U;have a5:=Cr hn (row.take (k+1)) q h0 h1;refine⟨_,rfl,⟨ω,ω⟩,⟨ω,ω⟩,⟨k+1,σ,O,e,V⟩,bY O⟩
end
section
variable{g:ah}{ss:List SQ}{nn:List Bool}
def O3(g:ah)(nn:List Bool)(ss:List SQ)(t:aF)(p:aO)(k j:Nat):Prop:=∃(k':Nat)(s:Int),k'<k/\p.right[k']? =some s/\A6 g ss ⟨dy ss t.st (p.right.take k'),s⟩=(j:Int)+1/\FU g nn (p.right.drop (k'+1))=true
def CB(g:ah)(nn:List Bool)(ss:List SQ)(t:aF)(ms:List Nat)(j:Nat):Prop:=∃m∈ms,∃p,g.prods[m]? =some p/\O3 g nn ss t p p.right.length j
theorem O3.succ{t:aF}{p:aO}{k j:Nat}{s:Int}(hs:p.right[k]? =some s):O3 g nn ss t p (k+1) j↔O3 g nn ss t p k j\/(A6 g ss ⟨dy ss t.st (p.right.take k),s⟩=(j:Int)+1/\FU g nn (p.right.drop (k+1))=true):=by grind[O3]
theorem CB.snoc{t:aF}{ms:List Nat}{m j:Nat}{p:aO}(hp:g.prods[m]? =some p):CB g nn ss t (ms++[m]) j↔CB g nn ss t ms j\/O3 g nn ss t p p.right.length j:=by
 unfold CB
 simp_all
theorem O4(hA:bR g ss){t:aF}{j:Nat}:A6 g ss t=(j:Int)+1↔(bW g ss)[j]? =some t:=by
 constructor
 ·intro h;obtain⟨u,O,J⟩:=Cy hA (t:=t) ω
  grind
 grind[Gl]
theorem CB.iff(hA:bR g ss){i j:Nat}{t:aF}(ht:(bW g ss)[i]? =some t):CB g nn ss t (Jd g g.prods.length t.sym) j↔Cx g nn ss j i=true:=by
 unfold Cx;rw[ht];simp only[List.any_eq_true,agd,afX,aga]
 constructor
 ·rintro⟨m,U,p,hp,k,s,J,V,hn,O⟩;obtain⟨h0,W,u,hl⟩:=qC.1 U;rw[hp] at u;cases u;refine⟨m,(afK.1 hp).1,ω,?_⟩;rw[hp];simp only[afX,aga,List.any_eq_true,agd]
  grind[O4]
 ·rintro⟨m,U,h0,h⟩;cases hp:g.prods[m]? with
  |none=>simp_all
  |some p=>
   rw[hp] at h;simp only[afX,aga,List.any_eq_true,agd] at h;obtain⟨hl,k,J,hn,O⟩:=h;have V:p.right[k]? =some p.right[k]:=afJ J;refine⟨m,qC.2 ⟨ω,p,hp,hl⟩,p,hp,k,_,J,V,?_,O⟩
   simp_all[O4]
def Eg(g:ah)(nn:List Bool)(ss:List SQ)(i:Nat)(j:Nat)(z:Int):Prop:=∃(i':Nat)(t:aF),i'<i/\z=i'/\(bW g ss)[i']? =some t/\CB g nn ss t (Jd g g.prods.length t.sym) j
theorem Eg.succ{i j:Nat}{z:Int}{t:aF}(ht:(bW g ss)[i]? =some t):Eg g nn ss (i+1) j z↔Eg g nn ss i j z\/(z=i/\CB g nn ss t (Jd g g.prods.length t.sym) j):=by grind[Eg]
theorem Eg.all(hA:bR g ss){j:Nat}{z:Int}:Eg g nn ss (bW g ss).length j z↔z∈dz (bW g ss).length (Cx g nn ss j):=by
 rw[gb]
 constructor
 ·rintro⟨i,t,u,O,J,U⟩
  grind[CB.iff]
 ·rintro⟨i,O,u,U⟩;have J:(bW g ss)[i]? =some (bW g ss)[i]:=afJ u;exact⟨i,_,u,O,J,(CB.iff hA J).2 U⟩
end
section
variable{w:ahs}{L:List aC}{g:ah}{x:GA}{ss:List SQ}{nn:List Bool}
theorem Xw{H:Hp}{n kw kc kr ke ki k4 i k rl rc B:Nat}{ra:ahr}{row:List Int}{st s:Int}{P:Nat->Int->Prop}(hw:Xs H g ss nn kw)(hnn:u6 g nn)(hc:ax g)(hA:bR g ss)(r1:aj H (aM kc) [vP (some (aM kw))])(r2:aj H (aM kr) [vS ra rl rc])(r3:aj H (aM ke) [.func (.func bM) (Array.mk []) (Array.mk [vP (some (aM k4))])])(r4:aj H (aM ki) [iI (i:Int)])
  (hr:aY H row ra rl) (hlc:rl<=rc) (hl:rl<=4611686018427387904) (hrow:∀s∈row,0<=s/\s<g.T+g.N) (hs:row[k]? =some s) (hn:(bW g ss).length=n) (hn2:n<=33280) (hB:B<=4611686018427) (hR:cY n P B k4 [has H] w):
  ρ 343 [iI st,iI (k:Int),vP (some (aM kc)),vP (some (aM kr)),vP (some (aM ke)),vP (some (aM ki))] w λv w'=>v=.tuple (Array.mk [])/\∃B',B'<=B+1/\cY n (λj z=>P j z\/z=i/\A6 g ss ⟨st,s⟩=(j:Int)+1/\FU g nn (row.drop (k+1))=true) B' k4 [has H] w':=by
 obtain⟨x',o,c',a',int,ol,cl,ka,kt,on,cn,kp,ma,mt,mp,rk,hg,a6,rT,Y,hN,am,a9,rN,_,_⟩:=hw.ex;have W:k<rl:=by have:=hr.1;grind
 have s0:=hR.sb;refine qb ?_;intro w1 hd;have hR:=hR.gr (Gr.drawn hd);have s1:=hR.sb;obtain⟨y,ad,J,a4,a0⟩:=hr.dS W;rw[hs] at J;cases J;refine⟨λu=>Gr w1 u,Gr.refl _,_,λu g=>r1.cell0 (sub.trans s1 g),_,λu g=>rk.cell (sub.trans s1 g) (j:=9) rfl,_,_,_,λu g=>r2.cell0 (sub.trans s1 g),ay a4 W ⟨s,λu g=>a0 _ (sub.trans s1 g),(eJ (κ:=aF) Y s1 aT (rfl:ai Ty _=.map _ _) gl rfl rfl ⟨st,s⟩).mono ?_⟩⟩;rintro _ w6⟨rfl,e6⟩;rw[hN.all];refine⟨_,rfl,by simp_all[Gr.refl],?_⟩;intro w7 al;have hR:=hR.gr (by simp_all[Gr.drawn]:Gr w1 w7);have X:=hR.sb;refine⟨λu=>Gr w7 u,Gr.refl _,ae (λU=>?_) λU=>?_⟩
 rotate_left
 ·refine⟨rfl,B,ω,hR.iff λj z _=>⟨.inl,λh=>h.elim id λh=>?_⟩⟩;have:=afN U;omega
 have U:=afO U;obtain⟨u0,aa,av⟩:=Cy hA U;have a5:u0<n:=by grind
 have ek:(k:Int)+1=((k+1:Nat):Int):=by rfl
 refine⟨_,λu g=>r1.cell0 (sub.trans X g),_,_,_,λu g=>r2.cell0 (sub.trans X g),⟨ω,ω⟩,?_⟩;rw[ek];refine dw ω hlc ((Ri (hw.mono X) hnn hc ((hr.drop (k:=k+1) (m:=rc) ω hlc).mono X) ω λs hs=>hrow s (List.mem_of_mem_drop hs)).mono ?_);rintro _ a7⟨rfl,V⟩;have hR:=hR.gr V;have O:=hR.sb;refine⟨_,rfl,V,ae (λZ=>?_) λZ=>?_⟩
 rotate_left
 ·exact⟨rfl,B,ω,hR.iff λj z _=>⟨.inl,λh=>h.elim id λh=>by rw[h.2.2] at Z;cases Z⟩⟩
 have eu:A6 g ss ⟨st,s⟩-1=(u0:Int):=ω
 refine⟨_,_,r3.cell0 O,⟨ω,ω⟩,_,r4.cell0 O,a_.2 ⟨rfl,?_⟩⟩;rw[eu];refine(Xu (a:=u0) hR a5 ω).mono ?_;rintro _ a8⟨rfl,hR⟩;refine⟨rfl,rfl,B+1,ω,hR.iff λj z _=>?_⟩
 grind
theorem aar{n kw kc k1 k4:Nat}{w0:ahs}(hw:Xs (hp w) g ss nn kw)(hc:ax g)(hA:bR g ss)(hnn:u6 g nn)(hkc:aj (hp w) (aM kc) [vP (some (aM kw))])(B:GB (hp w) k1 x)(hgx:gR (hp w) g x)(hn:(bW g ss).length=n)(hn2:n<=33280)
  (hR:cY n (λ_ _=>False) 0 k4 (all w) w0):
  ρ 342 [.func (.func bM) (Array.mk []) (Array.mk [vP (some (aM k4))]),vP (some (aM kc)),vP (some (aM k1))] w0 λv w'=>v=.tuple (Array.mk [])/\∃B,B<=4611686018427387/\cY n (λj z=>z∈dz n (Cx g nn ss j)) B k4 (all w) w':=by
 obtain⟨x',o,c,a,int,ol,cl,ka,kt,on,cn,kp,ma,mt,mp,rk,hg,hs,rT,ca,hN,cg,cd,rN,be,bB⟩:=hw.ex;rw[hn] at rk rT;have bT:=hA.JW hc;obtain⟨sT,sN,sP,_,_,_⟩:=hc.cX;have c9:=hA.dn.2.1;have pl:=hgx.p.1;refine uK ?_;obtain⟨oo,co,es,q1,q2,h⟩:=hR;refine ag h λke w1 h=>?_;have hR:cY n (λ_ _=>False) 0 k4 (az ke [.func (.func bM) (Array.mk []) (Array.mk [vP (some (aM k4))])]::all w) w1:=⟨oo,co,es,q1,q2,h.pick 4 [1,2,3,0]⟩;clear h q1 q2;obtain⟨he,am,_,hR⟩:=hR.frz;have rE:aj he (aM ke) [.func (.func bM) (Array.mk []) (Array.mk [vP (some (aM k4))])]:=af 0 am;have U:sub (hp w) he:=aA 1 am;have s1:=sub.trans U hR.sb
 refine⟨_,hkc.cell0 s1,_,_,_,rk.cell s1 (j:=8) rfl,λz w'=>∃(i B:Nat),z=i/\i<=n/\B<=i*30000/\cY n (Eg g nn ss i) B k4 [has he] w',λz _=>n-z.toNat,
  ⟨0,0,rfl,afL _,afL _,hR.iff λj z _=>⟨λh=>h.elim,λh=>by obtain⟨_,_,h,_⟩:=h;omega⟩⟩,?_⟩
 clear hR s1;rintro _ _ w2⟨i,B0,rfl,hi,d3,hR⟩;have s2:=sub.trans U hR.sb;refine ae (λh1=>?_) λh1=>?_
 rotate_left
 ·have h1:i=n:=by grind
  subst h1;refine⟨rfl,B0,ω,(hR.has U).iff λj z _=>?_⟩
  grind[Eg.all]
 have h1:i<n:=by simp_all
 obtain⟨t,ci,ht,c7,rt⟩:=xO rT h1;obtain⟨i0,q0,k0,e0,O,d7,d0,cx,cp⟩:=kX (afI ht);have al:0<=t.st:=by simp_all
 have ad:t.st<ss.length:=by simp_all
 obtain⟨oo,co,es,q1,q2,h⟩:=hR;refine aJ c7 h1 ⟨_,_,rt.at s2 rfl,ag h λki w3 h=>ag h λk5 w4 h=>aR (h.pick 2 [1,0]) σ λw5 h=>aL (h.pick 2 [1,0]) rfl (by simp[aK]) λw6 h=>?_⟩;have h:St w6 (az k5 [iI t.st,iI t.sym]::az ki [iI (i:Int)]::az k4 [vS oo n co]::own 1 oo n co (es.map bS)::aV (es.map (bG 1 iv))::[has he]):=h;have hR:cY n (Eg g nn ss i) B0 k4 (az k5 [iI t.st,iI t.sym]::az ki [iI (i:Int)]::[has he]) w6:=⟨oo,co,es,q1,q2,h.pick 5 [2,3,4,0,1]⟩;clear h q1 q2;intro w7 hd;have hR:=hR.gr (Gr.drawn hd);obtain⟨O,a4,_,hR⟩:=hR.frz;have r5:aj O (aM k5) [iI t.st,iI t.sym]:=af 0 a4;have rI:aj O (aM ki) [iI (i:Int)]:=af 1 a4;have W:sub he O:=aA 2 a4;have s7:=hR.sb;have Z:=sub.trans U (sub.trans W s7);refine⟨λu=>Gr w7 u,Gr.refl _,_,λu g=>hkc.cell0 (sub.trans Z g),_,λu g=>rk.cell (sub.trans Z g) (j:=12) rfl,_,λu g=>r5.cell (sub.trans s7 g) (j:=1) rfl,(eJ (κ:=Int) be Z aT (rfl:ai Ty _=.map _ _) (wM.Hf bL) rfl rfl t.sym).mono ?_⟩;rintro _ cA⟨rfl,b1⟩;obtain⟨ba,bc,bA,b6⟩:=bB t.sym;rw[bA];generalize hbs:Jd g g.prods.length t.sym=bys at*;have ch:bys.length<=97:=by grind[Nat.le_trans,Gk]
 refine⟨_,_,_,rfl,by simp_all[Gr.refl],λz w'=>∃(m B:Nat),z=m/\m<=bys.length/\B<=B0+m*300/\cY n (λj z=>Eg g nn ss i j z\/z=i/\CB g nn ss t (bys.take m) j) B k4 [has O] w',λz _=>bys.length-z.toNat,
  ⟨0,B0,rfl,afL _,ω,by rw[b1];exact hR.iff λj z _=>⟨.inl,λh=>h.elim id λh=>by obtain⟨_,m,hm,_⟩:=h;simp_all⟩⟩,?_⟩
 clear hR b1 hd s7 Z;rintro _ _ cC⟨m,B1,rfl,hm,cF,hR⟩;have c6:=hR.sb;have X:=sub.trans U (sub.trans W c6);refine ae (λh2=>?_) λh2=>?_
 rotate_left
 ·have h2:m=bys.length:=by grind
  rw[h2,af7] at hR;refine⟨⟨ω,ω⟩,⟨i+1,B1,σ,h1,ω,(hR.has W).iff λj z _=>?_⟩,bY h1⟩
  simp_all[Eg.succ]
 have h2:m<bys.length:=by simp_all
 obtain⟨pm,a8⟩:∃pm,bys[m]? =some pm:=⟨_,afJ h2⟩;obtain⟨_,p,hp,b5⟩:=qC.1 (hbs▸afI a8);have a0:pm<x.pl:=by grind
 have bi:=afI hp;obtain⟨d8,q',ck,bP,aa⟩:=O2 hc hA ht hp b5;have d5:=KV hc hA bP hp aa;obtain⟨bv,cu,a9,c8,c5⟩:=b6.dS h2;rw[afQ,a8] at a9;cases a9;obtain⟨p',cm,d6,b3,bl,bb,ra,rl,rc,rfl,b7,a7⟩:=hgx.p.get a0;rw[hp] at b3;cases b3;have cT:=a7.1;refine ay c8 h2 ⟨_,c5 _ X,_,_,_,B.c4 X,aJ bl a0 ⟨_,_,_,bb.cell X (j:=1) rfl,?_⟩⟩;obtain⟨oo,co,es,q1,q2,h⟩:=hR;refine ag h λkr cz h=>aR h σ λbz h=>?_;have hR:cY n (λj z=>Eg g nn ss i j z\/z=i/\CB g nn ss t (bys.take m) j) B1 k4 (az kr [vS ra rl rc]::[has O]) bz:=⟨oo,co,es,q1,q2,h.pick 4 [1,2,3,0]⟩;clear h q1 q2;obtain⟨a6,av,_,hR⟩:=hR.frz;have rR:aj a6 (aM kr) [vS ra rl rc]:=af 0 av;have Y:sub O a6:=aA 1 av;have a5:=hR.sb;have V:=sub.trans U (sub.trans W Y);have b4:=sub.trans V a5;have b2:∀s∈p.right,0<=s/\s<g.T+g.N:=λs hs=>by have:=hc.sym bi hs;omega
 refine⟨_,hkc.cell0 b4,_,r5.cell0 (sub.trans Y a5),_,_,_,rR.cell0 a5,(S0 (J:=λk u=>∃B',B'<=B1+k/\cY n (λj z=>(Eg g nn ss i j z\/z=i/\CB g nn ss t (bys.take m) j)\/z=i/\O3 g nn ss t p k j) B' k4 [has a6] u) (hw.mono V) hc hA (a7.mono V) ω al ad rfl
  ⟨B1,ω,hR.iff λj z _=>⟨.inl,λh=>h.elim id λh=>by obtain⟨_,_,_,h,_⟩:=h;omega⟩⟩ (λk u ⟨_,_,h⟩=>h.sb) λk u s hs ⟨B',b8,h⟩=>?_).mono ?_⟩
 ·have bT:k<p.right.length:=(afK.1 hs).1;refine(Xw (hw.mono V) hnn hc hA (hkc.mono V) rR (rE.mono (sub.trans W Y)) (rI.mono Y) (a7.mono V) b7 ω b2 hs hn hn2 ω h).mono ?_;rintro _ u'⟨rfl,B2,cI,h⟩;refine⟨rfl,B2,ω,h.iff λj z _=>?_⟩
  grind[O3.succ]
 rintro _ cc⟨rfl,B',b8,hR⟩;have d4:bys.take (m+1)=bys.take m++[pm]:=by simp_all[afM]
 refine⟨_,rfl,⟨ω,ω⟩,⟨m+1,B',σ,h2,ω,(hR.has Y).iff λj z _=>?_⟩,bY h2⟩
 grind[CB.snoc]
end
section
variable{κ α:Type}[DecidableEq κ]{sz:Nat}{f:List α->List Value}{s t:κ}
theorem Xx{q:Lq α}:∀{ps:List (κ×Lq α)},(ps.map Prod.fst).Nodup->fF s ps=some q->(mO sz f ps).Perm (bG sz f q::mO sz f (ps.filter λe=>decide (e.1≠s)))
 |[],_,h=>by cases h
 |(a,u)::m,hn,h=>by
  rw[agv,agB] at hn
  unfold fF at h
  by_cases e:s=a
  ·subst e
   rw[afZ rfl] at h
   cases h
   have e2:((s,q)::m).filter (λe=>decide (e.1≠s))=m:=by
    rw[List.filter_cons,afV σ]
    refine List.filter_eq_self.2 λx hx=>?_
    grind
   rw[e2];rfl
  ·rw[afV e] at h
   have e2:((a,u)::m).filter (λe=>decide (e.1≠s))=(a,u)::m.filter λe=>decide (e.1≠s):=by grind
   rw[e2]
   exact(List.Perm.cons _ (Xx hn.2 h)).trans (.swap _ _ _)
theorem O5(h:t≠s)(ps:List (κ×Lq α)):fF t (ps.filter λe=>decide (e.1≠s))=fF t ps:=by
 induction ps with
 |nil=>rfl
 |cons x m ih=>
  obtain⟨a,u⟩:=x;rw[List.filter_cons]
  by_cases e:a=s
  ·simp_all[fF]
  ·rw[afZ (by simp_all)]
   simp_all[fF,decide]
end
section
variable{g:ah}{ss:List SQ}
theorem UC(i:Nat)(f:Nat->Bool):dz (i+1) f=dz i f++if f i=true then[(i:Int)] else[]:=by grind[dz,List.range_succ]
theorem yD{q m i:Nat}{t:aF}(ht:(bW g ss)[i]? =some t):gd g ss q m i=true↔m∈Jd g g.prods.length t.sym/\∃p,g.prods[m]? =some p/\dy ss t.st p.right=q:=by
 rw[qC];unfold gd
 grind
def BkI(g:ah)(ss:List SQ)(ps:List (aF×Lq Int))(i:Nat)(t:aF)(ms:List Nat):Prop:=(ps.map Prod.fst).Nodup/\(∀k,(jU k ps).length<=i+1)/\∀q m:Nat,jU ⟨(q:Int),(m:Int)⟩ ps=dz i (gd g ss q m)++if m∈ms/\(∃p,g.prods[m]? =some p/\dy ss t.st p.right=q) then[(i:Int)] else[]
abbrev pC:=(Int×Int)×Lq Int
def bkE(b:pC):List Value:=[iI b.1.1,iI b.1.2,bS b.2]
def gp(bs:List pC):List Value:=bs.flatMap bkE
def Bj(bs:List pC):List aC:=bs.map λb=>bG 1 iv b.2
def Rj(b:pC):mY:=⟨b.1.1,b.1.2,b.2.2⟩
theorem S3(bs:List pC):(gp bs).length=bs.length*3:=pf (f:=bkE) (n:=3) (λ_=>rfl) bs
theorem S4(xs ys:List pC):gp (xs++ys)=gp xs++gp ys:=agh
theorem Eh(g:ah)(ss:List SQ)(q:Nat):∀j,(gG g ss q j).length<=j
 |0=>by simp[gG]
 |j+1=>by
  have:=Eh g ss q j
  grind[A8,List.length_append,zl]
def H6(g:ah)(ss:List SQ)(q:Nat):List mY:=(List.range q).flatMap λq=>gG g ss q g.prods.length
theorem Ei(g:ah)(ss:List SQ)(q:Nat):H6 g ss (q+1)=H6 g ss q++gG g ss q g.prods.length:=by simp[H6,agx]
theorem CC(g:ah)(ss:List SQ):∀q,(H6 g ss q).length<=q*g.prods.length
 |0=>by simp[H6]
 |q+1=>by
  have:=CC g ss q
  grind[Eh,Ei,List.length_append,Nat.succ_mul]
end
section
variable{w:ahs}{L:List aC}{g:ah}{x:GA}{ss:List SQ}{nn:List Bool}
theorem Rk(hg:gR (hp w) g x)(hb:mi g)(ht:dK (hp w)):ρ kZ [.agg ⟨x.cells⟩] w λv w'=>∃(ss:List SQ)(ask int f:Int)(nn:List Bool)(o:ahr)(c:Nat)(ds:List (Lq Int)),v=.tuple #[vS o ds.length c,iI f]/\EZ g ss ask int f/\(f=0->u6 g nn)/\ds.map (·.2)=A7 g nn ss/\St w' (own 1 o ds.length c (ds.map bS)::aV (ds.map (bG 1 iv))::all w):=by
 refine zq (gH hg λk1 w1 gw hg B=>?_);refine⟨_,_,_,_,_,_,_,_,_,_,_,_,_,B.row sZZ,(Rh hg hb (ec.mono gw ht)).mono ?_⟩;rintro _ w2⟨ss,ask,int,f,p,rfl,Y,g2,h0,hn⟩;refine⟨_,_,rfl,ag (St.all w2) λa5 w3 h=>aR h σ λw4 h=>?_⟩;have U:Gr w2 w4:=h.aQ;have W:aj (hp w4) (aM a5) [.pointer p]:=af 0 h.l;clear h;have u:=g2.trans U
 refine ae (λJ=>?_) λJ=>?_
 ·have J:f≠0:=by simp_all
  have hz:ss=[]:=by rcases Y with⟨_,e,_⟩|⟨_,_,e,_⟩|⟨_,_,_,_,e⟩<;>first|omega|omega
  subst hz;exact⟨[],ask,int,f,[],none,0,[],rfl,Y,λh=>absurd h J,rfl,aI 1 ((St.flat (M:=[])).2 (St.here (gw.trans u)))⟩
 have J:f=0:=by simp_all
 subst J;obtain⟨hc,hA⟩:=Y.P7 rfl;obtain⟨k,nn,rfl,V,Z⟩:=h0 rfl;have Z:=Z.mono U;have B4:GB (hp w4) k1 x:=⟨λs=>B.c0 (sub.trans u s),λs=>B.c1 (sub.trans u s),λs=>B.c2 (sub.trans u s),λs=>B.c3 (sub.trans u s),λs=>B.c4 (sub.trans u s),λs=>B.row (sub.trans u s)⟩;have X:=xT hc hA;refine⟨_,W.cell0 sZZ,(SZ (P:=λi z=>z∈dz (bW g ss).length (Cx g nn ss i)) Z rfl X rfl λk4 w0 a0=>aar Z hc hA V W B4 (hg.mono u) rfl X a0).mono ?_⟩;rintro _ w5⟨o,c,ds,rfl,O,h⟩;have a4:=O.1;refine⟨_,_,_,rfl,ss,ask,int,0,nn,o,c,ds,by grind,Y,λ_=>V,O.list,?_⟩;rw[a4];exact St.N0 h (bH (gw.trans u))
theorem Rl(hg:gR (hp w) g x)(hb:mi g)(htb:dK (hp w)):ρ 101 [.agg ⟨x.cells⟩] w λv w'=>∃(ss:List SQ)(ask int f:Int)(o:ahr)(c:Nat)(ds:List pC),v=.tuple #[vS o ds.length c,iI f]/\EZ g ss ask int f/\ds.map Rj=vO g ss/\St w' (own 3 o ds.length c (gp ds)::aV (Bj ds)::all w):=by
 refine zo (gH hg λk1 w1 gw hg B=>?_);refine⟨_,_,_,_,_,_,_,_,_,_,_,_,_,B.row sZZ,(Rh hg hb (ec.mono gw htb)).mono ?_⟩;rintro _ Z⟨ss,ask,int,f,p,rfl,hR,a5,h0,hn⟩
 refine⟨_,_,rfl,ae (λV=>?_) λV=>?_⟩
 ·have V:f≠0:=by simp_all
  have hz:ss=[]:=by rcases hR with⟨_,e,_⟩|⟨_,_,e,_⟩|⟨_,_,_,_,e⟩<;>first|omega|omega
  subst hz;exact⟨[],ask,int,f,none,0,[],rfl,hR,rfl,aI 3 ((St.flat (M:=[])).2 (St.here (gw.trans a5)))⟩
 have V:f=0:=by simp_all
 subst V;obtain⟨hc,hA⟩:=hR.P7 rfl;obtain⟨kw,nn,rfl,e8,hw⟩:=h0 rfl;have f3:=xT hc hA;obtain⟨x',o,c,a,dk,ol,cl,ka,kt,on,cn,kp,ma,mt,mp,rk,eK,hs,rT,dF,hN,ef,e6,rN,ci,cx⟩:=hw.ex;have eG:=hA.JW hc;obtain⟨sT,sN,sP,_,_,_⟩:=hc.cX;have d8:=hA.dn.2.1;have pl:=hg.p.1;have cT:=hg.mono a5;refine nI (St.all Z) λkb w3 h=>?_;have h:=dT (κ:=aF) h;have cA:Gr Z w3:=aA 1 h.l
 refine⟨_,_,_,rk.cell cA (j:=8) rfl,λz w'=>∃(i:Nat)(U:List (aF×Lq Int)),z=i/\i<=(bW g ss).length/\BkI g ss U i ⟨0,0⟩ []/\St w' (mapA kb (mV U)::aV (mO 1 iv U)::all Z),λz _=>(bW g ss).length-z.toNat,
  ⟨0,[],rfl,afL _,⟨σ,λk=>afL _,λq m=>by rfl⟩,?_⟩,?_⟩
 ·exact((St.flat (M:=[])).2 h).swap
 clear h;rintro _ _ w4⟨i,U,rfl,hi,O,h⟩;have s4:sub (hp Z) (hp w4):=aA 2 h.l
 refine ae (λV=>?_) λV=>?_
 ·have V:i<(bW g ss).length:=by simp_all
  obtain⟨t,ej,ht,d6,rt⟩:=xO rT V;obtain⟨i0,q0,k0,e0,eB,eY,eL,eu,ep⟩:=kX (afI ht);have be:0<=t.st:=by simp_all
  have bb:t.st<ss.length:=by simp_all
  refine aJ d6 V ⟨_,_,rt.at s4 rfl,ag h λb1 w5 h=>aL h rfl (by simp[aK]) λw6 h=>?_⟩;intro w7 hd;have h:=h.eq (aP hd);have s7:sub (hp Z) (hp w7):=aA 3 h.l;have a8:aj (hp w7) (aM b1) [iI t.st,iI t.sym]:=af 0 h.l;refine⟨λu=>Gr w7 u,Gr.refl _,_,λu g=>rk.cell (sub.trans s7 g) (j:=12) rfl,_,λu g=>a8.cell g (j:=1) rfl,(eJ (κ:=Int) ci s7 aT (rfl:ai Ty _=.map _ _) (wM.Hf bL) rfl rfl t.sym).mono ?_⟩;rintro _ eD⟨rfl,bT⟩;obtain⟨ba,bc,cp,cc⟩:=cx t.sym;rw[cp]
  have eo:(Jd g g.prods.length t.sym).Nodup:=by
   unfold Jd Zl;exact(List.nodup_range.filter _).filter _
  have bl:∀m,m∈Jd g g.prods.length t.sym↔0<m/\∃p,g.prods[m]? =some p/\p.left=t.sym:=λm=>qC;have e5:∀q m:Nat,gd g ss q m i=true↔m∈Jd g g.prods.length t.sym/\∃p,g.prods[m]? =some p/\dy ss t.st p.right=q:=λq m=>yD ht;generalize a0:Jd g g.prods.length t.sym=bys at*;have av:bys.length<=97:=by grind[Nat.le_trans,Gk]
  refine⟨_,_,_,rfl,by simp_all[Gr.refl],λz w'=>∃(M:Nat)(U:List (aF×Lq Int)),z=M/\M<=bys.length/\BkI g ss U i t (bys.take M)/\St w' (mapA kb (mV U)::aV (mO 1 iv U)::az b1 [iI t.st,iI t.sym]::all Z),λz _=>bys.length-z.toNat,
   ⟨0,U,rfl,afL _,⟨O.1,O.2.1,λq m=>by rw[O.2.2 q m];simp⟩,by rw[bT];exact h.pick 3 [1,2,0]⟩,?_⟩
  clear h O bT hd a8 s7;rintro _ _ cu⟨M,U,rfl,hM,O,h⟩;have cF:sub (hp Z) (hp cu):=aA 3 h.l;refine ae (λW=>?_) λW=>?_
  rotate_left
  ·have W:M=bys.length:=by grind
   rw[W,af7] at O;refine⟨⟨ω,ω⟩,⟨i+1,U,σ,V,⟨O.1,λk=>by have:=O.2.1 k;omega,λq m=>?_⟩,h.pick 3 [0,1]⟩,bY V⟩;rw[O.2.2 q m,UC]
   simp_all
  have W:M<bys.length:=by simp_all
  obtain⟨pm,b5⟩:∃pm,bys[M]? =some pm:=⟨_,afJ W⟩;obtain⟨_,p,a6,c9⟩:=(bl pm).1 (afI b5);have al:pm<x.pl:=by grind
  obtain⟨d4,q',cg,bz,b8⟩:=O2 hc hA ht a6 c9;have eS:=KV hc hA bz a6 b8;obtain⟨bv,et,b6,d7,cI⟩:=cc.dS W;rw[afQ,b5] at b6;cases b6;obtain⟨p',ek,eU,bP,cm,ch,ra,rl,rc,rfl,eb,c7⟩:=cT.p.get al;rw[a6] at bP;cases bP;have eI:=c7.1;obtain⟨jw,_,b3,_,_⟩:=AW hc hA a6 p.right.length 0 ω d4 q' bz ω;rw[List.drop_zero,<-cg] at b3;refine ay d7 W ⟨_,cI _ cF,?_⟩;intro a9 hd;have h:=h.eq (aP hd);have c5:sub (hp Z) (hp a9):=aA 3 h.l;have a8:aj (hp a9) (aM b1) [iI t.st,iI t.sym]:=af 2 h.l
  refine⟨λu=>Gr a9 u,Gr.refl _,_,λu g=>a8.cell0 g,_,_,_,λu g=>B.c4 (sub.trans a5 (sub.trans c5 g)),aJ cm al ⟨_,_,_,λu g=>ch.cell (sub.trans c5 g) (j:=1) rfl,(S0 (J:=λk u=>hp u=hp a9) (H:=hp Z) hw hc hA c7 ω be bb rfl rfl (λk u e=>by simp_all) λk u s hs e=>?_).mono ?_⟩⟩
  ·exact uI ⟨rfl,e⟩
  rintro _ eT⟨rfl,bA⟩;have h:=h.eq bA;refine⟨_,rfl,Gr.of_eq bA,ag h λdl eC h=>aL h rfl (by simp[aK]) λem h=>?_⟩;refine⟨_,_,(af 0 h.l).at sZZ rfl,ag h λey eg h=>?_⟩;refine(map_take (κ:=aF) aT (rfl:ai Ty _=.map _ _) gl rfl rfl (h.pick 3 [2,0,1]) ⟨dy ss t.st p.right,(pm:Int)⟩).mono ?_;rintro _ ez⟨n,rfl,h⟩;obtain⟨q,M',e1,e2,hq,back⟩:=uB rfl (h.pick 4 [3,0,1,2]) ⟨dy ss t.st p.right,(pm:Int)⟩;have eP:q.2.length<=i+1:=by rw[e2];exact O.2.1 _
  rw[e1] at hq ⊢;refine⟨_,_,_,_,rfl,?_⟩;refine(aU (us:=iv q.2) aT (rfl:ai Ty _=.slice _) (rfl:ai Ty _=.slice _) rfl rfl rfl (hq.pick 5 [3,0,1,2,4]) rfl (by simp[aK]) (by grind) ω).mono ?_;rintro _ f2⟨o',c',rfl,h⟩;refine⟨_,_,_,rfl,(OY (h.pick 5 [3,0,2]) _).mono ?_⟩;rintro _ f4 h;rw[yC] at h;have h:=AP back (q.2++[(i:Int)]) σ (by simp[iv]) h;have d0:bys.take (M+1)=bys.take M++[pm]:=by simp_all[afM]
  have ad:pm∉bys.take M:=λhm=>by
   obtain⟨M2,b7⟩:=agb hm;have cC:=(afK.1 b7).1;rw[agj] at cC;rw[agH,afZ ω] at b7
   grind[List.getElem?_inj]
  refine⟨⟨ω,ω⟩,⟨M+1,pe ⟨dy ss t.st p.right,(pm:Int)⟩ ((o',c'),q.2++[(i:Int)]) U,σ,W,⟨Ml _ O.1,λk=>?_,λq2 m=>?_⟩,?_⟩,bY W⟩
  ·rw[mX]
   by_cases e:k=(⟨dy ss t.st p.right,(pm:Int)⟩:aF)
   ·rw[afZ e]
    show(q.2++[(i:Int)]).length<=i+1
    have h5:q.2.length<=i:=by
     rw[e2];rw[b3,O.2.2 jw pm,afV (λh=>ad h.1),agc];simp[py]
    simp_all
   ·rw[afV e];exact O.2.1 k
  ·rw[mX,d0]
   by_cases e:(⟨(q2:Int),(m:Int)⟩:aF)=⟨dy ss t.st p.right,(pm:Int)⟩
   ·rw[afZ e];have e3:(q2:Int)=dy ss t.st p.right:=congrArg aF.st e;have e4:m=pm:=by grind
    subst e4
    show q.2++[(i:Int)]=_
    rw[e2,<-e,O.2.2 q2 m,afV (λh=>ad h.1),agc,afZ ⟨σ,p,a6,e3.symm⟩]
   ·rw[afV e,O.2.2 q2 m];congr 1
    by_cases h5:m∈bys.take M/\∃p,g.prods[m]? =some p/\dy ss t.st p.right=q2
    ·grind
    grind
  ·exact h
 have V:i=(bW g ss).length:=by grind
 subst V;have bi:∀q m:Nat,jU ⟨(q:Int),(m:Int)⟩ U=dz (bW g ss).length (gd g ss q m):=λq m=>by rw[O.2.2 q m];simp
 have d5:=O.1;clear O;have eX:∀q,q<=ss.length->q*g.prods.length<=256*97:=λq hq=>Nat.mul_le_mul ω sP
 refine⟨_,_,_,rk.cell s4 (j:=5) rfl,λo n c z w'=>∃(q:Nat)(bs:List pC)(X:List (aF×Lq Int)),z=q/\q<=ss.length/\n=bs.length/\bs.map Rj=H6 g ss q/\(X.map Prod.fst).Nodup/\(∀k:aF,(q:Int)<=k.st->fF k X=fF k U)/\St w' (own 3 o n c (gp bs)::aV (Bj bs)::mapA kb (mV U)::aV (mO 1 iv X)::all Z),λ_ _ _ z _=>ss.length-z.toNat,
  ⟨0,[],U,rfl,afL _,rfl,rfl,d5,λ_ _=>rfl,aI 3 ((St.flat (M:=[])).2 h)⟩,?_⟩
 clear h s4;rintro _ eN _ ei _ cz⟨q,bs,X,rfl,hq,rfl,a0,Y,a4,h⟩;have c6:sub (hp Z) (hp cz):=aA 4 h.l;have av:bs.length<=24832:=by grind[CC,List.length_map]
 refine ae (λV=>?_) λV=>?_
 rotate_left
 ·have V:q=ss.length:=by grind
  subst V;refine jW (b9 (bI h) ⟨_,_,_,rfl,ss,ask,int,0,_,_,bs,rfl,hR,a0,?_⟩);have h:=cj h;exact St.N0 (h.pick 5 [0,1,4]) (bH (gw.trans a5))
 have V:q<ss.length:=by simp_all
 refine⟨_,_,_,B.c4 (sub.trans a5 c6),λo n c z w'=>∃(m:Nat)(bs:List pC)(X:List (aF×Lq Int)),z=m/\m<=x.pl/\n=bs.length/\bs.map Rj=H6 g ss q++gG g ss q m/\(X.map Prod.fst).Nodup/\(∀k:aF,((q:Int)<k.st\/(k.st=q/\(m:Int)<=k.sym))->fF k X=fF k U)/\St w' (own 3 o n c (gp bs)::aV (Bj bs)::mapA kb (mV U)::aV (mO 1 iv X)::all Z),λ_ _ _ z _=>x.pl-z.toNat,
  ⟨0,bs,X,rfl,afL _,rfl,by simp_all[gG],Y,λk hk=>a4 k ω,h⟩,?_⟩
 clear h c6 a0 Y a4 av;rintro _ bB _ b4 _ d3⟨m,bs,X,rfl,hm,rfl,a0,Y,a4,h⟩
 have av:bs.length<=25000:=by
  have V:=CC g ss q;have W:=Eh g ss q m;have h3:=congrArg List.length a0
  grind
 refine ae (λW=>?_) λW=>?_
 rotate_left
 ·have W:m=x.pl:=by grind
  subst W;refine⟨⟨ω,ω⟩,⟨q+1,bs,X,σ,V,rfl,?_,Y,λk hk=>a4 k (.inl ω),h⟩,bY V⟩
  simp_all[Ei]
 have W:m<x.pl:=by simp_all
 have el:=bi q m;refine(qu (κ:=aF) aT (rfl:ai Ty _=.map _ _) gl rfl rfl (h.pick 3 [2]) ⟨(q:Int),(m:Int)⟩).mono ?_;rintro _ b2⟨rfl,e7⟩;rw[js];have dc:gG g ss q (m+1)=gG g ss q m++zl g ss q m:=A8 g ss q m
 have a7:dz (bW g ss).length (gd g ss q m)=[]->aD ((m:Int)+1)/\(∃(m':Nat)(aa:List pC)(am:List (aF×Lq Int)),(m:Int)+1=m'/\m'<=x.pl/\bs.length=aa.length/\aa.map Rj=H6 g ss q++gG g ss q m'/\(am.map Prod.fst).Nodup/\(∀k:aF,((q:Int)<k.st\/(k.st=q/\(m':Int)<=k.sym))->fF k am=fF k U)/\St b2 (own 3 bB bs.length b4 (gp aa)::aV (Bj aa)::mapA kb (mV U)::aV (mO 1 iv am)::all Z))/\x.pl-((m:Int)+1).toNat<x.pl-(m:Int).toNat:=λe=>by
  refine⟨⟨ω,ω⟩,⟨m+1,bs,X,σ,W,rfl,?_,Y,λk hk=>a4 k (hk.elim .inl λhk=>.inr ⟨hk.1,ω⟩),by simp_all⟩,bY W⟩
  simp_all[zl]
 cases hgq:fF (⟨(q:Int),(m:Int)⟩:aF) U with
 |none=>
  have e:dz (bW g ss).length (gd g ss q m)=[]:=by simp_all[jU]
  exact⟨_,_,_,rfl,bn σ (a7 e)⟩
 |some r=>
  have er:r.2=dz (bW g ss).length (gd g ss q m):=by simp_all[jU]
  refine⟨_,_,_,rfl,ae (λh3=>?_) λh3=>?_⟩
  rotate_left
  ·refine a7 ?_
   simp_all
  have h3:0<r.2.length:=by simp_all
  have ea:dz (bW g ss).length (gd g ss q m)≠[]:=by grind
  have ck:fF (⟨(q:Int),(m:Int)⟩:aF) X=some r:=by simp_all
  have h:=h.eq (by grind:hp b2=hp d3);have h4:=(St.flat.1 (h.pick 4 [3,0,1,2])).perm ((Xx (sz:=1) (f:=iv) Y ck).append_right _);have h:St b2 (own 1 r.1.1 r.2.length r.1.2 (iv r.2)::aV (mO 1 iv (X.filter λe=>decide (e.1≠(⟨(q:Int),(m:Int)⟩:aF))))::own 3 bB bs.length b4 (gp bs)::aV (Bj bs)::mapA kb (mV U)::all Z):=(St.flat.2 (h4.perm agC.symm)).swap;clear h4;refine bq (b9 (bI h) ⟨_,_,_,rfl,?_⟩);have h:=cj h;refine ag h λeA e9 h=>?_;have z1:(bs.length+1)*40<=140737488355328/\bs.length<9223372036854775807:=ω
  refine(aU (us:=gp bs) aT (rfl:ai Ty _=.slice _) (rfl:ai Ty _=.slice _) rfl rfl rfl (h.pick 6 [0,3,1,2,4,5]) rfl (by simp[aK]) z1.1 z1.2).mono ?_;rintro _ ca⟨cd,c8,rfl,h⟩;have d9:Rj (((q:Int),(m:Int)),((fE r.1.1 0 r.2.length 1,r.2.length),r.2))=⟨(q:Int),(m:Int),dz (bW g ss).length (gd g ss q m)⟩:=by simp_all[Rj]
  refine⟨_,_,_,rfl,⟨ω,ω⟩,⟨m+1,bs++[(((q:Int),(m:Int)),((fE r.1.1 0 r.2.length 1,r.2.length),r.2))],X.filter λe=>decide (e.1≠(⟨(q:Int),(m:Int)⟩:aF)),σ,W,σ,?_,(Y.sublist (List.Sublist.map _ List.filter_sublist)),λk hk=>?_,?_⟩,bY W⟩
  ·simp_all[zl]
  ·rw[O5 (s:=(⟨(q:Int),(m:Int)⟩:aF)) ?_]
   ·grind
   grind
  ·have h:=St.snoc (h.pick 6 [2,4,0,5,3]);have h3:St ca (own 3 cd (bs.length+1) c8 (gp bs++[iI (q:Int),iI (m:Int),vS (fE r.1.1 0 r.2.length 1) r.2.length r.2.length])::aV (Bj bs++[own 1 (fE r.1.1 0 r.2.length 1) r.2.length r.2.length (iv r.2)])::mapA kb (mV U)::aV (mO 1 iv (X.filter λe=>decide (e.1≠(⟨(q:Int),(m:Int)⟩:aF))))::all Z):=h.pick 2 [1,0];rw[S4,show Bj (bs++[(((q:Int),(m:Int)),((fE r.1.1 0 r.2.length 1,r.2.length),r.2))])=Bj bs++[own 1 (fE r.1.1 0 r.2.length 1) r.2.length r.2.length (iv r.2)] by unfold Bj;rw[af8];rfl];exact h3
end
instance:tQ mY:={ n:=3,rd:=λh x vs=>∃(a:ahr)(c:Nat),vs=[iI x.st,iI x.prod,vS a x.tr.length c]/\aY h x.tr a x.tr.length,mono:=λs ⟨a,c,e,r⟩=>⟨a,c,e,r.mono s⟩,len:=λ⟨_,_,e,_⟩=>by simp_all }
section
variable{w:ahs}{L:List aC}{o:ahr}{c:Nat}
theorem acT{ds:List (Lq Int)}(h:St w (own 1 o ds.length c (ds.map bS)::aV (ds.map (bG 1 iv))::L)):aY (hp w) (ds.map (·.2)) o ds.length:=by
 have U:=dE 0 h.l;refine⟨σ,λi x hi=>?_⟩;rw[afQ] at hi;cases hd:ds[i]? with
 |none=>simp_all
 |some p=>
  rw[hd] at hi;simp only[ahg,Option.some.injEq] at hi;subst hi;have hA:(ds.map (bG 1 iv))[i]? =some (bG 1 iv p):=by simp_all
  have J:=St.out (h.pick 2 [1]) hA;have u:p.2.length<=p.1.2:=bI J;have V:aY (hp w) p.2 p.1.1 p.2.length:=bp rfl (dE 0 J.l)
  rcases U with e|⟨W,e,hc⟩
  ·simp_all
  ·refine⟨W,[bS p],e,λj v O=>?_,p.1.1,p.2.length,p.1.2,rfl,u,V⟩;cases j with
   |zero=>
    simp at O;subst O;rw[add_add,bg];have:=hc i (bS p) (by simp_all)
    simp_all[tQ.n]
   |succ j=>simp_all
theorem Xy{h:Hp}{xss:List (List Int)}{i l:Nat}(r:aY h xss o l)(hi:i<l):∃x ad a c,xss[i]? =some x/\o=some ad/\(∀u:ahs,sub h (hp u)->u.cell? (ad.add i)=some (vS a x.length c))/\aY h x a x.length:=by
 obtain⟨x,ad,vs,W,ha,V,a,l',O,rfl,U,J⟩:=r.get hi;have hl:=J.1;subst hl;refine⟨x,ad,a,O,W,ha,λu s=>?_,J⟩;have:=V.cell0 s
 simp_all[bg,tQ.n]
theorem afv{ds:List pC}(h:St w (own 3 o ds.length c (gp ds)::aV (Bj ds)::L)):aY (hp w) (ds.map Rj) o ds.length:=by
 have J:=dE 0 h.l;refine⟨σ,λi x hi=>?_⟩;rw[afQ] at hi;cases hd:ds[i]? with
 |none=>simp_all
 |some p=>
  rw[hd] at hi;simp only[ahg,Option.some.injEq] at hi;subst hi;have hA:(Bj ds)[i]? =some (bG 1 iv p.2):=by simp_all[Bj]
  have O:=St.out (h.pick 2 [1]) hA;have U:aY (hp w) p.2.2 p.2.1.1 p.2.2.length:=bp rfl (dE 0 O.l)
  rcases J with e|⟨u,e,hc⟩
  ·have V:=congrArg List.length e
   grind[S3,List.length_nil,List.getElem?_eq_some_iff]
  ·exact⟨u,bkE p,e,cG (n:=3) (λ_=>rfl) ds u hc i p hd,p.2.1.1,p.2.1.2,rfl,U⟩
theorem Xz{h:Hp}{xs:List mY}{l i:Nat}(r:aY h xs o l)(hi:i<l):∃x ad a c,xs[i]? =some x/\o=some ad/\aj h (ad.add (eV i 3)) [iI x.st,iI x.prod,vS a x.tr.length c]/\aY h x.tr a x.tr.length:=by
 obtain⟨x,ad,vs,U,ha,O,a,J,rfl,u⟩:=r.get hi;exact⟨x,ad,a,J,U,ha,O,u⟩
end
section
variable{g:ah}{nn:List Bool}{ss ss':List SQ}
theorem XA(h:cr ss=cr ss')(i k:Nat):kY g nn ss i k=kY g nn ss' i k:=by grind[kY,xP,dm,HS]
theorem aas(h:cr ss=cr ss')(i k:Nat):Cx g nn ss i k=Cx g nn ss' i k:=by
 unfold Cx;rw[xP h];have e:∀q l,dy ss q l=dy ss' q l:=λq l=>Mz h l q
 simp_all
theorem XB(h:cr ss=cr ss')(q m i:Nat):gd g ss q m i=gd g ss' q m i:=by grind[gd,xP,dy,Mz]
theorem S5(h:cr ss=cr ss'):xQ g nn ss=xQ g nn ss':=by
 unfold xQ;rw[xP h];refine agV λi _=>?_;rw[show kY g nn ss i=kY g nn ss' i from funext λk=>XA h i k]
theorem S6(h:cr ss=cr ss'):A7 g nn ss=A7 g nn ss':=by
 unfold A7;rw[xP h];refine agV λi _=>?_;rw[show Cx g nn ss i=Cx g nn ss' i from funext λk=>aas h i k]
theorem aat(h:cr ss=cr ss')(q m:Nat):zl g ss q m=zl g ss' q m:=by
 unfold zl;rw[xP h,show gd g ss q m=gd g ss' q m from funext λk=>XB h q m k]
theorem S7(h:cr ss=cr ss'):vO g ss=vO g ss':=by
 unfold vO;rw[My h];have e:∀q j,gG g ss q j=gG g ss' q j:=λq j=>by unfold gG;rw[show zl g ss q=zl g ss' q from funext λm=>aat h q m]
 simp_all
end
def q9(es:List (List Int)):Bool:=!es.any λl=>l.any λx=>decide (x<0)||decide ((es.length:Int)<=x)
theorem H7{es:List (List Int)}:q9 es=true↔Hw es:=by simp[q9,Hw,List.any_eq_false]
section
variable{w:ahs}{a:ahr}{l c:Nat}{d:FuncId}{e:List Value}
theorem abU{xs:List Int}{p:Int->Bool}(hfl:Fn d=true)(hr:aY (hp w) xs a l)(hb:l<=4611686018427387904)
  (hP:∀x∈xs,∀u,hp u=hp w->ρ d (iI x::e) u λv u'=>v=vB (p x)/\hp u'=hp w):
  ρ 126 [vS a l c,.func (.func d) (Array.mk []) ⟨e⟩] w λv w'=>v=vB (xs.any p)/\hp w'=hp w:=by
 refine bV ?_
 have key:ρ 90 [vS a l c,.func (.func d) (Array.mk []) ⟨e⟩] w λv w'=>∃n:Int,v=iI n/\(xs.any p=decide (0<=n))/\hp w'=hp w:=by
  refine bJ ?_;have Z:=hr.1;refine⟨λz w'=>∃j:Nat,z=j/\j<=l/\(∀k∈xs.take j,p k=false)/\hp w'=hp w,λz _=>l-z.toNat,⟨0,rfl,afL _,λk O=>by simp_all,rfl⟩,?_⟩;rintro _ z W⟨j,rfl,hj,X,V⟩;refine ae (λJ=>?_) λJ=>?_
  rotate_left
  ·grind
  have J:j<l:=by simp_all
  obtain⟨k,O⟩:∃k,xs[j]? =some k:=⟨xs[j]'ω,afJ _⟩;obtain⟨ad,U,hc⟩:=hr.at O;refine ay U J ⟨k,hc W (Gr.of_eq V),a_.2 ⟨hfl,(hP k (afI O) W V).mono ?_⟩⟩;rintro _ w2⟨rfl,Y⟩
  refine⟨_,rfl,ae (λhb=>?_) λhb=>?_⟩
  ·grind
  ·refine⟨⟨ω,ω⟩,⟨j+1,σ,ω,λy hy=>?_,Y⟩,bY J⟩
   grind[List.take_add_one]
 refine key.mono ?_
 simp_all
theorem aeN{xs:List (List Int)}{p:List Int->Bool}(hfl:Fn d=true)(hr:aY (hp w) xs a l)(hb:l<=4611686018427387904)
  (hP:∀x∈xs,∀u o l c,hp u=hp w->aY (hp w) x o l->ρ d (vS o l c::e) u λv u'=>v=vB (p x)/\hp u'=hp w):
  ρ 380 [vS a l c,.func (.func d) (Array.mk []) ⟨e⟩] w λv w'=>v=vB (xs.any p)/\hp w'=hp w:=by
 refine jL ?_
 have key:ρ 394 [vS a l c,.func (.func d) (Array.mk []) ⟨e⟩] w λv w'=>∃n:Int,v=iI n/\(xs.any p=decide (0<=n))/\hp w'=hp w:=by
  refine lH ?_;have a0:=hr.1;refine⟨λz w'=>∃j:Nat,z=j/\j<=l/\(∀k∈xs.take j,p k=false)/\hp w'=hp w,λz _=>l-z.toNat,⟨0,rfl,afL _,λk Y=>by simp_all,rfl⟩,?_⟩;rintro _ z w1⟨j,rfl,hj,Z,W⟩;refine ae (λO=>?_) λO=>?_
  rotate_left
  ·grind
  have O:j<l:=by simp_all
  obtain⟨k,ad,vs,Y,U,J,o,X,c1,rfl,a4,V⟩:=hr.get O;rw[bg,show j*tQ.n (List Int)=j from agE j] at J;refine ay U O ⟨o,X,c1,J.cell0 (Gr.of_eq W),a_.2 ⟨hfl,(hP k (afI Y) w1 o X c1 W V).mono ?_⟩⟩;rintro _ w2⟨rfl,e2⟩
  refine⟨_,rfl,ae (λhb=>?_) λhb=>?_⟩
  ·grind
  ·refine⟨⟨ω,ω⟩,⟨j+1,σ,ω,λy hy=>?_,e2⟩,bY O⟩
   grind[List.take_add_one]
 refine key.mono ?_
 simp_all
theorem aau{es:List (List Int)}(hr:aY (hp w) es a l)(hb:l<=4611686018427387904)(hB:∀x∈es,x.length<=4611686018427387904):
  ρ 345 [vS a l c] w λv w'=>v=vB (q9 es)/\Gr w w':=by
 refine B5 ?_;have hl:=hr.1;refine ag (St.all w) λX Z V=>?_;have g1:Gr w Z:=V.aQ;have J:=(af 0 V.l).cell0 sZZ
 refine⟨_,_,_,J,(aeN (p:=λl=>l.any λx=>decide (x<0)||decide ((es.length:Int)<=x)) (d:=Ax) (e:=[vP (some (aM X))]) rfl (hr.mono g1) hb ?_).mono ?_⟩
 ·intro x hx u o l' c' W O
  refine xh ((abU (p:=λx=>decide (x<0)||decide ((es.length:Int)<=x)) (d:=vu) (e:=[vP (some (aM X))]) rfl (by rw[W];exact O) (by have:=O.1;grind) ?_).mono ?_)
  ·intro y hy u2 U
   refine sD (ae (λh=>?_) λh=>?_)
   ·simp_all
   ·refine⟨_,_,_,by rw[cD (U.trans W)];exact J,by grind,U⟩
  simp_all
 ·rintro _ w2⟨rfl,Y⟩;exact⟨_,rfl,rfl,g1.trans (Gr.of_eq Y)⟩
end
theorem UD{P:Program}{w:ahs}(d:Nat){t e:TypeId}{a b:Addr}{q:Bool}{i:TypeInfo}(h:P.underlying t=some (.pointer e))(hi:P.info? e=some i)(hz:i.size≠0)(hs:(sameAddr a b).run P w=.ok q w):
  (Op.equalIn (d+1) t (.pointer (some a)) (.pointer (some b))).run P w=.ok q w:=by
 simp[Op.equalIn,bm h,sizeOf,typeInfo,hi,hz,hs]
theorem Rm{P:Program}{w:ahs}{t e:TypeId}{a b:Addr}{q:Bool}{i:TypeInfo}(h:P.underlying t=some (.pointer e))(hi:P.info? e=some i)(hz:i.size≠0)(hs:(sameAddr a b).run P w=.ok q w):
  (Op.equal t (.pointer (some a)) (.pointer (some b))).run P w=.ok q w:=UD 9999 h hi hz hs
theorem E0{P:Program}{w:ahs}{t e:TypeId}{xo yo:Operand}{a b:Addr}{q:Bool}{i:TypeInfo}(h:P.underlying t=some (.pointer e))(hi:P.info? e=some i)(hz:i.size≠0)(hs:(sameAddr a b).run P w=.ok q w):
  (qH .neq t xo yo (.pointer (some a)) (.pointer (some b))).run P w=.ok (vB (!q)) w:=by simp_all[qH,eqGuard,Go.binOp,Rm]
theorem UE{P:Program}{w:ahs}{L:List aC}{Ty:TypeId->Option dp}(hT:dY P Ty){t e:TypeId}{i:dp}{xo yo:Operand}{k1 k2:Nat}{v1 v2:List Value}(hk:ai Ty t=.ptr e)(hi:Ty e=some i)(hz:i.size≠0)(h:St w (az k1 v1::az k2 v2::L)):
  (qH .neq t xo yo (.pointer (some ⟨k1,0,none⟩)) (.pointer (some ⟨k2,0,none⟩))).run P w=.ok (vB true) w:=by
 obtain⟨d,U,u⟩:=dv hT hk σ;rw[Qm u] at U;obtain⟨O,d2,ha⟩:=rU hT hi;obtain⟨e1,V⟩:=jF.1 h;obtain⟨e2,X⟩:=jF.1 h.swap
 have J:(⟨k1,0,none⟩:Addr)≠⟨k2,0,none⟩:=by
  intro e;cases e;obtain⟨g1,g2,dd,s1,s2,⟨_,x1⟩,g3,g4,W,Y,s4,⟨_,Z⟩,_⟩:=h
  rcases dd k1 with h|h
  ·simp_all
  ·rw[Y k1 _ Z] at h;grind
 exact E0 U ha.inf (by rw[<-ha.size];omega) (run_sameAddr_other w J V.get X.get)
theorem UF{P:Program}{w:ahs}{Ty:TypeId->Option dp}(hT:dY P Ty){t e:TypeId}{i:dp}{xo yo:Operand}{a:Addr}(hk:ai Ty t=.ptr e)(hi:Ty e=some i)(hz:i.size≠0):
  (qH .neq t xo yo (.pointer (some a)) (.pointer (some a))).run P w=.ok (vB false) w:=by
 obtain⟨d,O,u⟩:=dv hT hk σ;rw[Qm u] at O;obtain⟨J,d2,ha⟩:=rU hT hi;exact E0 O ha.inf (by rw[<-ha.size];omega) (run_sameAddr_same w a)
def h_(es ow:List (List Int))(v:Nat)(x:Nat):Prop:=∃u,cP.Rc (En es) v u/\(x:Int)∈ow.getD u []
structure XC(es ow:List (List Int))(v:Nat)(bs:List Bool):Prop where
 ln:bs.length=1024
 fn:∀x,bt bs x=true↔x<1024/\h_ es ow v x
theorem h_.mutual{es ow:List (List Int)}{v u x:Nat}(h:cP.Rc (En es) v u)(hx:h_ es ow u x):h_ es ow v x:=by
 obtain⟨y,O,J⟩:=hx;exact⟨y,h.trans O,J⟩
theorem h_.step{es ow:List (List Int)}{g:List Nat}{v:Nat}(hv:v∈g)(hg:∀a∈g,∀b∈g,cP.Rc (En es) a b){x:Nat}:
  h_ es ow v x↔(∃n∈g,(x:Int)∈ow.getD n [])\/∃n∈g,∃m∈En es n,m∉g/\h_ es ow m x:=by
 constructor
 ·rintro⟨u,W,V⟩
  have key:∀a b,cP.Rc (En es) a b->a∈g->(x:Int)∈ow.getD b []->(∃n∈g,(x:Int)∈ow.getD n [])\/∃n∈g,∃m∈En es n,m∉g/\h_ es ow m x:=by
   intro a b h
   induction h with
   |refl a=>grind
   | @step a m b U hr ih=>
    intro ha J
    by_cases O:m∈g
    ·simp_all
    ·exact .inr ⟨a,ha,m,U,O,b,hr,J⟩
  grind
 ·rintro(⟨n,hn,J⟩|⟨n,hn,m,U,_,J⟩)
  ·exact⟨n,hg v hv n hn,J⟩
  ·exact((hg v hv n hn).trans (cP.Rc.one U)) |> λh=>J.mutual h
def S8(l:List (ahr)):List Value:=l.map λp=>Value.pointer p
theorem aav(l:List (ahr))(i:Nat)(p:ahr):(S8 l).set i (.pointer p)=S8 (l.set i p):=by simp[S8]
theorem MJ{l:List (ahr)}{i:Nat}{p:ahr}(h:l[i]? =some p):(S8 l)[i]? =some (.pointer p):=by grind[S8]
def A9(p:ahr)(l:List (ahr))(g:List Nat):List (ahr):=g.foldl (λl m=>l.set m p) l
theorem H8(p:ahr):∀(g:List Nat)(l:List (ahr)),(A9 p l g).length=l.length
 |[],_=>rfl
 |m::g,l=>by show(A9 p (l.set m p) g).length=_;rw[H8 p g];simp
theorem UG(p:ahr)(l:List (ahr))(g:List Nat)(m:Nat):A9 p l (g++[m])=(A9 p l g).set m p:=by simp[A9]
theorem O6(p:ahr):∀(g:List Nat)(l:List (ahr)),(∀m∈g,m<l.length)->∀v,(A9 p l g)[v]? =if v∈g then some p else l[v]?
 |[],l,_,v=>by rfl
 |m::g,l,h,v=>by
  have:=O6 p g (l.set m p) (λy hy=>by simp_all) v
  show(A9 p (l.set m p) g)[v]? =_
  grind
theorem XD{L:List aC}{h:Hp}{A:aC}(i:Nat)(hl:aG L h)(e:vc L i=A:=by rfl)(hi:Nat.blt i (DG L)=true:=by rfl):∃h1,sub h1 h/\A h1:=by
 have:=ew i (by simp_all[kQ]) hl
 simp_all
structure aeO(es ow:List (List Int))(N:Nat)(gs:List (List Nat))(sets:List (ahr))(ps:List Go.Proofs.YtaoaemnefghnbaaGreatDoor.Ls)(gr:List (Nat×List Bool)):Prop where
 ls:sets.length=N
 lp:ps.length=N
 lg:gr.length=gs.length
 st:∀(i:Nat) g b B,gs[i]? =some g->gr[i]? =some (b,B)->∀v∈g,sets[v]? =some (some ⟨b,0,none⟩)/\XC es ow v B/\∃p,ps[v]? =some p/\p.2=iW B
section
variable{w:ahs}{L:List aC}{a oa:ahr}{N c oc l ks bs ko bo ke kn:Nat}{es ow:List (List Int)}{h0:Hp}
def Ej(gr:List (Nat×List Bool)):List aC:=gr.map λp=>cN (some ⟨p.1,0,none⟩) p.2
def UH(es ow:List (List Int))(ks bs ko bo N:Nat)(gs:List (List Nat)):aC:=Proofs.YtaoaemnefghnbaaGreatDoor.ex λy:List (ahr)×List Ls×List (Nat×List Bool)=>
 aV [Proofs.YtaoaemnefghnbaaGreatDoor.pu (aeO es ow N gs y.1 y.2.1 y.2.2),az ks [vS (some ⟨bs,0,none⟩) N N],az bs (S8 y.1),az ko [vS (some ⟨bo,0,none⟩) N N],az bo (y.2.1.map Ht),aV (y.2.1.map DQ),aV (Ej y.2.2)]
theorem CD{gs:List (List Nat)}:St w (UH es ow ks bs ko bo N gs::L)↔∃(sets:List (ahr))(ps:List Ls)(gr:List (Nat×List Bool)),aeO es ow N gs sets ps gr/\
  St w (az ks [vS (some ⟨bs,0,none⟩) N N]::az bs (S8 sets)::az ko [vS (some ⟨bo,0,none⟩) N N]::az bo (ps.map Ht)::aV (ps.map DQ)::aV (Ej gr)::L):=by simp[UH,St.ex,St.pu,St.flat]
theorem XE{k1 k2:Nat}{B1 B2:List Bool}{xo yo:Operand}(h:St w (cN (some ⟨k1,0,none⟩) B1::cN (some ⟨k2,0,none⟩) B2::L)):
  (qH .neq qN xo yo (.pointer (some ⟨k1,0,none⟩)) (.pointer (some ⟨k2,0,none⟩))).run Tryz.prog w=.ok (vB true) w:=by
 rcases mg h with⟨e,_⟩|⟨b,a,c,ws,e,_,h⟩
 ·grind
 ·cases e
  rcases mg (h.pick 3 [2,0,1]) with⟨e,_⟩|⟨O,U,J,u,e,_,h⟩
  ·grind
  ·cases e;exact UE aT (rfl:ai Ty qN=.ptr _) rfl σ (h.pick 4 [2,0,1,3])
structure aeP(es ow:List (List Int))(h0:Hp)(ke kn N:Nat)(a oa:ahr)(c oc:Nat):Prop where
 ce:aj h0 ⟨ke,0,none⟩ [vS a N c]
 cn:aj h0 ⟨kn,0,none⟩ [vS oa N oc]
 re:aY h0 es a N
 rn:aY h0 ow oa N
 Vw:dK h0
 bE:∀x∈es,x.length*8<=140737488355328
 bO:∀x∈ow,x.length*8<=140737488355328
 bN:N*24<=140737488355328
 rO:∀x∈ow,∀y∈x,0<=y/\y<1024
theorem acU(hR:Hw es)(C:aeP es ow h0 ke kn N a oa c oc):abR Aw [vP (some (aM ks)),vP (some (aM kn)),vP (some (aM ke)),vP (some (aM ko))] es λgs=>[UH es ow ks bs ko bo N gs,has h0]:=by
 intro gs g F w o gc hG d5 h;have hN:es.length=N:=C.re.1;have b6:∀v∈g,v<N:=λv V=>by simp_all
 have eg:g.length<=N:=(hG.len d5).2 g σ |> λh=>ω
 have ch:∀x∈g,∀y∈g,cP.Rc (En es) x y:=(hG.2 gs g [] rfl).2.1;have cp:∀x∈g,∀y∈En es x,y∈g\/y∈gs.flatten:=(hG.2 gs g [] rfl).2.2;have cI:∀x∈g,x∉gs.flatten:=λx hx=>(cP.Ol hG.1 rfl hx).1;have bN:=C.bN;obtain⟨J,ps,gr,hF,h⟩:=CD.1 (h.pick 3 [1,0,2]);refine xf ((Ud 1024 (xs:=[]) aY.nil σ).mono ?_);rintro _ w1⟨b,rfl,U⟩;have h:=U.fb h
 --[0 set,1 ks,2 bs,3 ko,4 bo,5 lists,6 J,7 group,8 has]
 refine⟨_,rfl,λz w'=>∃i:Nat,z=i/\i<=g.length/\St w' (cN (some ⟨b,0,none⟩) (yk 1024 [])::az ks [vS (some ⟨bs,0,none⟩) N N]::az bs (S8 (A9 (some ⟨b,0,none⟩) J (g.take i)))::az ko [vS (some ⟨bo,0,none⟩) N N]::az bo (ps.map Ht)::aV (ps.map DQ)::aV (Ej gr)::own 1 o g.length gc (dN g)::has h0::F),
  λz _=>g.length-z.toNat,⟨0,rfl,afL _,h⟩,?_⟩
 rintro _ z w2⟨i,rfl,hi,h⟩
 refine ae (λU=>?_) λU=>?_
 ·have U:i<g.length:=by simp_all
  obtain⟨v,V⟩:∃v,g[i]? =some v:=⟨g[i],afJ _⟩;have b7:=b6 v (afI V);obtain⟨ba,a7,a6⟩:=cH (h.pick 9 [7,0,1,2,3,4,5,6,8]) (kT V);refine ay a7 U ⟨_,a6,_,_,_,(af 1 h.l).cell0 sZZ,ay rfl b7 ?_⟩;rw[ak];refine aR (h.pick 9 [2,0,1,3,4,5,6,7,8]) (by simp[S8,H8,hF.ls];omega) λw3 h=>⟨⟨ω,ω⟩,⟨i+1,rfl,U,?_⟩,bY U⟩;rw[aav] at h;rw[afM,V,agQ,UG];exact h.pick 9 [1,2,0,3,4,5,6,7,8]
 have U:i=g.length:=by grind
 subst U;rw[af7] at h;have bT:∀x:Nat,(yk 1024 []).length=1024/\bt (yk 1024 []) x=false:=λx=>⟨by unfold yk;rw[bu,agT];rfl,by simp[yk,eF,fY,qt]⟩;have cT:∀v,(A9 (some ⟨b,0,none⟩) J g)[v]? =if v∈g then some (some (⟨b,0,none⟩:Addr)) else J[v]?:=O6 _ g J λm hm=>by rw[hF.ls];simp_all
 --the numbers come together
 let Z:Nat->Nat->Prop:=λi x=>(∃n∈g.take i,(x:Int)∈ow.getD n [])\/∃n∈g.take i,∃m∈En es n,m∉g/\h_ es ow m x
 refine⟨λz w'=>∃(i:Nat)(B:List Bool),z=i/\i<=g.length/\B.length=1024/\(∀x,bt B x=true↔x<1024/\Z i x)/\St w' (cN (some ⟨b,0,none⟩) B::az ks [vS (some ⟨bs,0,none⟩) N N]::az bs (S8 (A9 (some ⟨b,0,none⟩) J g))::az ko [vS (some ⟨bo,0,none⟩) N N]::az bo (ps.map Ht)::aV (ps.map DQ)::aV (Ej gr)::own 1 o g.length gc (dN g)::has h0::F),
  λz _=>g.length-z.toNat,⟨0,_,rfl,afL _,(bT 0).1,λx=>?_,h⟩,?_⟩
 ·grind
 rintro _ z w4⟨i,B,rfl,hi,c9,bb,h⟩
 refine ae (λU=>?_) λU=>?_
 ·have U:i<g.length:=by simp_all
  obtain⟨n,hn⟩:∃n,g[i]? =some n:=⟨g[i],afJ _⟩;have bB:=afI hn;have aa:=b6 n bB;have s0:=aA 8 h.l;obtain⟨ba,a7,a6⟩:=cH (h.pick 9 [7,0,1,2,3,4,5,6,8]) (kT hn);obtain⟨xo,eb,ov,ci,cz,a9,o4,l4,c4,rfl,dF,am⟩:=C.rn.get (i:=n) aa;rw[bg,show n*tQ.n (List Int)=n from agE n] at a9;obtain⟨xe,e8,ev,b1,ca,a4,o6,l6,c6,rfl,dk,av⟩:=C.re.get (i:=n) aa;rw[bg,show n*tQ.n (List Int)=n from agE n] at a4;have ea:=am.1;have e7:=av.1;have d9:=C.bO xo (afI ci);have dl:=C.bE xe (afI b1);refine ay a7 U ⟨_,a6,_,_,_,C.cn.cell0 s0,ay cz aa ⟨o4,l4,c4,a9.cell0 s0,(zP (xs:=xo) h (λhh hl=>am.mono (aA 7 hl)) ω).mono ?_⟩⟩;rintro _ w5⟨rfl,h⟩;have s0:=aA 8 h.l;refine⟨_,rfl,_,_,_,C.ce.cell0 s0,ay ca aa ⟨o6,l6,c6,a4.cell0 s0,?_⟩⟩;have e5:=WV b1;have ef:ow.getD n []=xo:=by simp_all
  refine⟨λz w'=>∃(j:Nat)(B':List Bool),z=j/\j<=l6/\B'.length=1024/\(∀x,bt B' x=true↔x<1024/\(Z i x\/(x:Int)∈xo\/∃m∈(En es n).take j,m∉g/\h_ es ow m x))/\St w' (cN (some ⟨b,0,none⟩) B'::az ks [vS (some ⟨bs,0,none⟩) N N]::az bs (S8 (A9 (some ⟨b,0,none⟩) J g))::az ko [vS (some ⟨bo,0,none⟩) N N]::az bo (ps.map Ht)::aV (ps.map DQ)::aV (Ej gr)::own 1 o g.length gc (dN g)::has h0::F),
   λz _=>l6-z.toNat,⟨0,_,rfl,afL _,by simp_all[bu],λx=>?_,h⟩,?_⟩
  ·rw[eF,fY,c9,agA,bb,afX,aga,List.contains_iff_mem]
   grind
  rintro _ z w6⟨j,B',rfl,hj,a8,al,h⟩;have s0:=aA 8 h.l
  refine ae (λh2=>?_) λh2=>?_
  ·have h2:j<l6:=by simp_all
   obtain⟨mI,bz⟩:∃mI,xe[j]? =some mI:=⟨xe[j]'ω,afJ _⟩
   obtain⟨m,b3,rfl⟩:∃m:Nat,(En es n)[j]? =some m/\mI=(m:Int):=by
    refine⟨mI.toNat,by simp_all,?_⟩;have:=hR xe (afI b1) mI (afI bz);omega
   have bc:m<N:=by have:=abQ hR (afI b3);omega
   have c7:∀{b5:List Bool},(∀x,bt b5 x=true↔bt B' x=true\/(x<1024/\m∉g/\h_ es ow m x))->∀x,bt b5 x=true↔x<1024/\(Z i x\/(x:Int)∈xo\/∃m∈(En es n).take (j+1),m∉g/\h_ es ow m x):=by
    intro b5 hB x;rw[hB,al,afM,b3,agQ]
    constructor
    ·rintro(⟨p1,p2|p2|⟨y,q1,q2⟩⟩|⟨p1,p2⟩)
     ·simp_all
     ·simp_all
     ·grind
     simp_all
    ·rintro⟨p1,p2|p2|⟨y,q1,q2⟩⟩
     ·simp_all
     ·simp_all
     grind
   obtain⟨dc,c8,d3⟩:=av.at bz;have a0:=(af 2 h.l);refine ay c8 h2 ⟨(m:Int),d3 w6 s0,_,_,_,(af 1 h.l).cell0 sZZ,ay rfl bc ?_⟩
   by_cases be:m∈g
   ·have ad:(A9 (some ⟨b,0,none⟩) J g)[m]? =some (some (⟨b,0,none⟩:Addr)):=by simp_all
    refine⟨some ⟨b,0,none⟩,a0.cell sZZ (MJ ad),⟨_,UF aT (rfl:ai Ty qN=.ptr _) rfl σ,false,rfl,?_⟩⟩;refine⟨⟨ω,ω⟩,⟨j+1,B',rfl,h2,a8,c7 λx=>⟨.inl,λh=>h.resolve_right λh=>h.2.1 be⟩,h⟩,bY h2⟩
   ·have d7:m∈gs.flatten:=(cp n bB m (afI b3)).resolve_left be;obtain⟨g2,cF,bl⟩:=List.mem_flatten.1 d7;obtain⟨k2,cC⟩:=agb cF;obtain⟨⟨b2,B2⟩,cg⟩:∃y,gr[k2]? =some y:=⟨gr[k2]'(by rw[hF.lg];grind),afJ _⟩;obtain⟨f1,f2,_⟩:=hF.st k2 g2 b2 B2 cC cg m bl;have ad:(A9 (some ⟨b,0,none⟩) J g)[m]? =some (some (⟨b2,0,none⟩:Addr)):=by grind
    have bA:(Ej gr)[k2]? =some (cN (some ⟨b2,0,none⟩) B2):=by grind[Ej]
    have b8:=XE (xo:=Operand.tmp 52) (yo:=Operand.tmp 53) ((St.QK (h.pick 9 [6,0,1,2,3,4,5,7,8]) bA).pick 3 [0,2]);refine⟨some ⟨b2,0,none⟩,a0.cell sZZ (MJ ad),⟨_,b8,true,rfl,?_⟩⟩;refine⟨_,_,_,(af 1 h.l).cell0 sZZ,ay rfl bc ⟨some ⟨b2,0,none⟩,a0.cell sZZ (MJ ad),ag h λd6 w7 h=>?_⟩⟩;have h:=h.pick 10 [1,0,2,3,4,5,6,7,8,9]
    refine(Sx (os:=[some ⟨b2,0,none⟩]) (vss:=[B2]) h (λhh hl=>gV rfl (.inr ⟨_,rfl,(show aj hh ⟨d6,0,none⟩ [.pointer (some ⟨b2,0,none⟩)] from af 0 hl)⟩)) rfl (λhh hl y q v hq V=>?_) (λhh hl=>ec.mono (aA 8 hl) C.Vw) σ).mono ?_
    ·obtain⟨U,s1,ha⟩:=XD 6 hl (A:=aV (Ej gr));obtain⟨h3,s3,h4⟩:=kP (afI bA) ha;cases y with
     |zero=>cases hq;cases V;exact .inl ((DE h4).mono (s3.trans s1))
     |succ y=>grind
    rintro _ w8⟨rfl,h⟩;refine⟨_,rfl,⟨ω,ω⟩,⟨j+1,dr B' [B2],rfl,h2,by grind[Aj],c7 λx=>?_,h.pick 10 [0,2,3,4,5,6,7,8,9]⟩,bY h2⟩
    show bt (db B' (iW B2)) x=true↔_
    rw[gW,a8,agA,afX,aga,f2.fn]
    constructor
    ·grind
    grind
  ·have h2:j=l6:=by grind
   subst h2;refine⟨⟨ω,ω⟩,⟨i+1,B',rfl,U,a8,λx=>?_,h⟩,bY U⟩;have d0:(En es n).take j=En es n:=af3 (by simp_all);rw[al,d0];refine and_congr_right λ_=>?_
   show _↔(∃n∈g.take (i+1),_)\/∃n∈g.take (i+1),_
   rw[afM,hn,agQ]
   constructor
   ·rintro((⟨y,q1,q2⟩|⟨y,q1,q2⟩)|q|q)
    ·grind
    ·grind
    ·simp_all
    simp_all
   ·rintro(⟨y,q1,q2⟩|⟨y,q1,q2⟩)
    ·grind
    grind
 have U:i=g.length:=by grind
 subst U
 have e0:∀v∈g,XC es ow v B:=λv V=>⟨c9,λx=>by
  rw[bb];refine and_congr_right λ_=>?_
  show(∃n∈g.take g.length,_)\/(∃n∈g.take g.length,_)↔_
  rw[af7,h_.step V ch]⟩
 refine(DF (h.eH) (ec.mono (aA 8 h.l) C.Vw)).mono ?_;rintro _ w9⟨a5,c5,rfl,h5⟩;have h:=h5.fb h;have cA:(iW B).length=bF B:=BG B;have e3:bF B<=1024:=by grind[im]
 refine⟨_,_,_,rfl,λz w'=>∃(i:Nat)(O:List Ls),z=i/\i<=g.length/\O.length=N/\(∀v∈g.take i,∃p,O[v]? =some p/\p.2=iW B)/\(∀v,v∉g->O[v]? =ps[v]?)/\
   St w' (own 1 a5 (bF B) c5 (iv (iW B))::cN (some ⟨b,0,none⟩) B::az ks [vS (some ⟨bs,0,none⟩) N N]::az bs (S8 (A9 (some ⟨b,0,none⟩) J g))::az ko [vS (some ⟨bo,0,none⟩) N N]::az bo (O.map Ht)::aV (O.map DQ)::aV (Ej gr)::own 1 o g.length gc (dN g)::has h0::F),
  λz _=>g.length-z.toNat,⟨0,ps,rfl,afL _,hF.lp,λv V=>by simp_all,λ_ _=>rfl,h⟩,?_⟩
 rintro _ z cu⟨i,O,rfl,hi,cc,d4,e4,h⟩
 refine ae (λU=>?_) λU=>?_
 ·have U:i<g.length:=by simp_all
  obtain⟨v,V⟩:∃v,g[i]? =some v:=⟨g[i],afJ _⟩;have b7:=b6 v (afI V);obtain⟨ba,a7,a6⟩:=cH (h.pick 10 [8,0,1,2,3,4,5,6,7,9]) (kT V);refine ay a7 U ⟨_,a6,λbP hd=>?_⟩;have h:=h.eq (aP hd);have cm:=af 4 h.l;refine⟨λu=>Gr bP u,Gr.refl _,_,_,_,λu hu=>cm.cell0 hu,(Ot (xs:=iW B) (bp cA (dE 0 h.l)) ω ω).mono ?_⟩;rintro _ cx⟨X,W,rfl,bi⟩;have ck:Gr bP cx:=bi.aQ;have h:=bi.fb h;refine⟨_,_,_,rfl,ck,ay rfl b7 ?_⟩;rw[ak]
  refine aR (h.pick 11 [6,0,1,2,3,4,5,7,8,9,10]) (by simp_all) λe6 h=>⟨⟨ω,ω⟩,⟨i+1,O.set v ((X,W),iW B),rfl,U,by simp_all,λu hu=>?_,λu hu=>?_,?_⟩,bY U⟩
  ·by_cases e:u=v
   ·grind
   ·rw[afM,V,agQ] at hu
    grind
  ·grind
  ·have h:=St.Wx (A:=own 1 X (iW B).length W (iv (iW B))) (M:=O.map DQ) (h.pick 11 [1,7,0,2,3,4,5,6,8,9,10]) (n:=v) (by simp_all);have e1:(O.map Ht).set v (.slice X (iW B).length W)=(O.set v ((X,W),iW B)).map Ht:=by rw[ags];rfl
   have e2:(O.map DQ).set v (own 1 X (iW B).length W (iv (iW B)))=(O.set v ((X,W),iW B)).map DQ:=by rw[ags];rfl
   rw[e1,e2] at h;exact h.pick 10 [2,3,4,5,6,1,0,7,8,9]
 have U:i=g.length:=by grind
 subst U;rw[af7] at d4;refine⟨rfl,?_⟩
 show St cu (UH es ow ks bs ko bo N (gs++[g])::has h0::F)
 refine CD.2 ⟨A9 (some ⟨b,0,none⟩) J g,O,gr++[(b,B)],⟨by rw[H8];exact hF.ls,cc,by simp[hF.lg],λi g' b' B' Y b4 v V=>?_⟩,?_⟩
 ·by_cases e:i<gs.length
  ·rw[af5 e] at Y;rw[af5 (by rw[hF.lg];omega)] at b4;have d8:v∈gs.flatten:=List.mem_flatten.2 ⟨g',afI Y,V⟩;have e9:v∉g:=λh=>cI v h d8;obtain⟨q1,q2,q3⟩:=hF.st i g' b' B' Y b4 v V
   grind
  ·have cd:=(afK.1 Y).1;simp at cd;have e:i=gs.length:=ω
   subst e;rw[agf (afR _),agX] at Y;rw[agf (by rw[hF.lg];omega),hF.lg,agX] at b4
   grind
 ·have e1:Ej (gr++[(b,B)])=Ej gr++[cN (some ⟨b,0,none⟩) B]:=by simp[Ej]
  rw[e1];exact(St.snoc (h.pick 10 [1,7,2,3,4,5,6,9])).pick 7 [1,2,3,4,5,0,6]
end
def UI(l:List Int):Bool:=!l.any λx=>decide (x<0)||decide (1024<=x)
theorem O7{l:List Int}:UI l=true↔∀x∈l,0<=x/\x<1024:=by simp[UI,List.any_eq_false]
def E1(es ow:List (List Int)):Bool:=q9 es&&ow.length==es.length&&ow.all UI
section
variable{w:ahs}{L:List aC}{a oa:ahr}{N M c oc l:Nat}{es ow:List (List Int)}
def S9(es ow:List (List Int))(ps:List Ls):Prop:=ps.length=es.length/\∀v,v<es.length->∃B p,XC es ow v B/\ps[v]? =some p/\p.2=iW B
theorem aaw(hr:aY (hp w) es a N)(ho:aY (hp w) ow oa M)(ht:dK (hp w))(hB:∀l∈es,l.length*8<=140737488355328)(hO:∀l∈ow,l.length*8<=140737488355328)(hb:N*24<=140737488355328)(hM:M*24<=140737488355328):
  ρ 288 [vS a N c,vS oa M oc] w λv w'=>(E1 es ow=false/\v=.tuple (Array.mk [vS none 0 0,iI 1])/\Gr w w')\/
   (E1 es ow=true/\∃(bo:Nat)(ps:List Ls),S9 es ow ps/\v=.tuple (Array.mk [vS (some ⟨bo,0,none⟩) N N,iI 0])/\St w' (own 1 (some ⟨bo,0,none⟩) N N (ps.map Ht)::aV (ps.map DQ)::all w)):=by
 have hN:=hr.1;have ba:=ho.1;refine BZ ?_;refine ag (St.all w) λke w1 h=>ag h λkn w2 h=>?_;have g2:Gr w w2:=h.tail.aQ
 refine⟨λb w'=>b= !(q9 es&&M==N)/\Gr w2 w',⟨_,_,_,(af 1 h.l).cell0 sZZ,(aau (hr.mono g2) ω λx hx=>by grind).mono ?_⟩,?_⟩
 ·rintro _ w3⟨rfl,g3⟩;have h:=h.gr g3
  refine⟨_,rfl,ae (λh1=>?_) λh1=>?_⟩
  ·simp_all
  ·have h1:q9 es=true:=by simp_all
   refine⟨_,_,_,(af 0 h.l).cell0 sZZ,_,_,_,(af 1 h.l).cell0 sZZ,?_,g3⟩
   grind
 rintro _ b2 w4⟨rfl,X⟩
 refine ae (λh1=>?_) λh1=>?_
 ·refine .inl ⟨?_,rfl,g2.trans X⟩
  grind[q9,E1]
 have h1:(q9 es&&M==N)=true:=by simp_all
 obtain⟨h2,h3⟩:=Bool.and_eq_true_iff.1 h1;have h3:M=N:=by simp_all
 subst h3;have h:=h.gr X;have bl:=hr.mono (g2.trans X);have am:=ho.mono (g2.trans X);refine⟨_,_,_,(af 0 h.l).cell0 sZZ,λz w'=>∃i:Nat,z=i/\i<=M/\(∀x∈ow.take i,UI x=true)/\hp w'=hp w4,λz _=>M-z.toNat,⟨0,rfl,afL _,λx hx=>by simp_all,rfl⟩,?_⟩;rintro _ z V⟨i,rfl,hi,a5,Z⟩
 refine ae (λJ=>?_) λJ=>?_
 ·have J:i<M:=by simp_all
  obtain⟨x,ad,vs,hx,aa,O,o,l1,c1,rfl,b8,a6⟩:=am.get J;rw[bg,show i*tQ.n (List Int)=i from agE i] at O;have bi:=hO x (afI hx);have b7:=a6.1
  refine ay aa J ⟨o,l1,c1,O.cell0 (Gr.of_eq Z),(abU (p:=λx=>decide (x<0)||decide (1024<=x)) (d:=Av) (e:=[]) rfl (by rw[Z];exact a6) ω ?_).mono ?_⟩
  ·intro y hy u hu
   refine xc (ae (λh=>?_) λh=>?_)
   ·simp_all
   grind
  rintro _ w6⟨rfl,e6⟩
  refine⟨_,rfl,ae (λh5=>?_) λh5=>?_⟩
  ·refine .inl ⟨?_,rfl,(g2.trans X).trans (Gr.of_eq (e6.trans Z))⟩
   grind[E1,Bool.and_eq_false_iff,List.all_eq_false,List.mem_of_getElem?,UI]
  ·refine⟨⟨ω,ω⟩,⟨i+1,rfl,J,λy hy=>?_,e6.trans Z⟩,bY J⟩
   grind[List.take_add_one,UI]
 have J:i=M:=by grind
 subst J;rw[af3 ω] at a5;have h:=h.eq Z;have b5:E1 es ow=true:=by simp_all[E1]
 refine⟨_,_,_,(af 1 h.l).cell0 sZZ,⟨ω,rfl,ω⟩,?_⟩
 --from here on what there is stays as it is
 have a7:=St.all V;refine ag a7 λbs w7 h7=>ag h7 λks w8 h8=>aR h8 σ λw9 h9=>?_;have c1:∀{u:ahs}{v:List Value}{L':List aC}{b:Nat},Gr V u->u.cell? (aM ke)=some (vS a i c):=λg=>(af 1 h.l).cell0 g;refine⟨_,_,_,c1 (v:=[]) (L':=[]) (b:=0) h9.tail.tail.has,⟨ω,rfl,ω⟩,ag h9 λbo bb al=>ag al λko be a8=>aR a8 σ λav Y=>?_⟩;refine⟨_,_,_,c1 (v:=[]) (L':=[]) (b:=0) Y.tail.tail.tail.tail.has,?_⟩;have U:aY (hp V) es a i:=by simp_all
 have a0:aY (hp V) ow oa i:=by simp_all
 have C:aeP es ow (hp V) ke kn i a oa c oc:=⟨af 1 h.l,af 0 h.l,U,a0,by rw[Z];exact ec.mono (g2.trans X) ht,hB,hO,hb,λx hx=>O7.1 (a5 x hx)⟩;have hR:=H7.1 h2
 have b3:St av ([UH es ow ks bs ko bo i [],has (hp V)]++[]):=by
  have q1:iX (Int.toNat (i:Int)) [vP none]=S8 (List.replicate i none):=by simp[dR,S8]
  have q2:iX (Int.toNat (i:Int)) [vS none 0 0]=(List.replicate i (((none,0),[]):Ls)).map Ht:=by simp[dR,Ht]
  rw[q1,q2] at Y;have a4:=(St.flat (M:=Ej [])).2 (BQ (A:=DQ ((none,0),[])) (λw L h=>aI 1 h) i Y);have q3:List.replicate i (DQ ((none,0),[]))=(List.replicate i (((none,0),[]):Ls)).map DQ:=σ
  rw[q3] at a4;exact CD.2 ⟨_,_,[],⟨σ,σ,rfl,λk g b B hk=>σ⟩,a4.pick 7 [4,5,2,3,1,0,6]⟩
 refine(acH (Q:=λgs=>[UH es ow ks bs ko bo i gs,has (hp V)]) (L:=[]) rfl (acU hR C) (λgs hh hs=>U.mono (aA 1 hs)) hR hB hb b3).mono ?_;rintro _ bc⟨rfl,gs,hG,W,h⟩;obtain⟨b6,ps,gr,hF,h⟩:=CD.1 h
 refine⟨rfl,_,_,_,(af 2 h.l).cell0 sZZ,.inr ⟨b5,bo,ps,⟨by rw[hF.lp,hN],λv hv=>?_⟩,rfl,?_⟩⟩
 ·have b4:=(W v).2 ω;obtain⟨g,hg,b1⟩:=List.mem_flatten.1 b4;obtain⟨k,hk⟩:=agb hg;obtain⟨⟨b,B⟩,a9⟩:∃y,gr[k]? =some y:=⟨gr[k]'(by rw[hF.lg];grind),afJ _⟩;obtain⟨_,q2,p,q3,q4⟩:=hF.st k g b B hk a9 v b1
  grind
 ·have h:=h.pick 7 [3,4,6];have h:=bj (sz:=1) (l:=i) (c:=i) (cs:=[]) (by rw[agc];exact h) (by simp[hF.lp]) (by simp[hF.lp]) (afR _);have g5:Gr w V:=(g2.trans X).trans (Gr.of_eq Z);exact((h.pick 3 [2,0,1]).head (B:=has (hp w)) λhh hs=>sub.trans g5 hs).pick 3 [1,2,0]
end
section
variable{es ow:List (List Int)}
open Classical in
noncomputable def q_(es ow:List (List Int))(v:Nat):List Int:=dz 1024 λx=>decide (h_ es ow v x)
noncomputable def H9(es ow:List (List Int)):List (List Int):=(List.range es.length).map (q_ es ow)
theorem H_:(H9 es ow).length=es.length:=by simp[H9]
theorem Ia{v:Nat}(h:v<es.length):(H9 es ow)[v]? =some (q_ es ow v):=by simp_all[H9]
theorem mu{v:Nat}{z:Int}:z∈q_ es ow v↔∃x:Nat,z=x/\x<1024/\h_ es ow v x:=by simp[q_,gb]
theorem O8{v:Nat}:pq (q_ es ow v):=tA _ _
theorem Rn{v:Nat}:(q_ es ow v).length<=1024:=py _ _
theorem h_.iff{v x:Nat}:h_ es ow v x↔(x:Int)∈ow.getD v []\/∃m∈En es v,h_ es ow m x:=by
 constructor
 ·rintro⟨u,h,U⟩;cases h with
  |refl=>simp_all
  |step O J=>exact .inr ⟨_,O,_,J,U⟩
 ·rintro(h|⟨m,O,u,J,U⟩)
  ·exact⟨v,.refl v,h⟩
  ·exact⟨u,.step O J,U⟩
theorem h_.least{Q:Nat->Nat->Prop}(h1:∀v x:Nat,(x:Int)∈ow.getD v []->Q v x)(h2:∀v m x:Nat,m∈En es v->Q m x->Q v x){v x:Nat}(h:h_ es ow v x):Q v x:=by
 obtain⟨u,h,J⟩:=h
 induction h with
 |refl a=>exact h1 a x J
 |step ha hb ih=>exact h2 _ _ _ ha (ih J)
theorem S_(B:List Bool):iW B=dz B.length (bt B):=by rfl
theorem Ib{n:Nat}{f f':Nat->Bool}(h:∀k,k<n->f k=f' k):dz n f=dz n f':=by grind[dz,List.filter_congr]
open Classical in
theorem XC.row{v:Nat}{B:List Bool}(h:XC es ow v B):iW B=q_ es ow v:=by
 rw[S_,h.ln];unfold q_;refine Ib λk u=>?_;have:=h.fn k
 grind
theorem S9.rows{ps:List Ls}(h:S9 es ow ps):ps.map (·.2)=H9 es ow:=by
 apply agq;intro v
 by_cases u:v<es.length
 ·obtain⟨B,p,J,U,O⟩:=h.2 v u;rw[afQ,U,Ia u];simp only[ahg];rw[O,J.row]
 ·rw[agl (by rw[af4,h.1];omega),agl (by grind[H_])]
end
section
variable{g:ah}{nn nn':List Bool}{ss ss':List SQ}
def vV(g:ah)(ss:List SQ):List (List Int):=(bW g ss).map (kj g ss)
noncomputable def Ta(g:ah)(nn:List Bool)(ss:List SQ):List (List Int):=H9 (xQ g nn ss) (vV g ss)
noncomputable def Ro(g:ah)(nn:List Bool)(ss:List SQ):List (List Int):=H9 (A7 g nn ss) (Ta g nn ss)
theorem Tb(h:cr ss=cr ss'):vV g ss=vV g ss':=by grind[vV,xP,List.map_congr_left,Xg]
theorem XF(h:cr ss=cr ss'):Ta g nn ss=Ta g nn ss':=by grind[Ta,S5,Tb]
theorem acW(h:cr ss=cr ss'):Ro g nn ss=Ro g nn ss':=by grind[Ro,S6,XF]
theorem Ic:(xQ g nn ss).length=(bW g ss).length:=by simp[xQ]
theorem Ie:(A7 g nn ss).length=(bW g ss).length:=by simp[A7]
theorem XG:(vV g ss).length=(bW g ss).length:=by simp[vV]
theorem aax:(Ta g nn ss).length=(bW g ss).length:=by simp[Ta,H_,Ic]
theorem aay:(Ro g nn ss).length=(bW g ss).length:=by simp[Ro,H_,Ie]
structure iE where
 st:Int
 prod:Int
 tm:List Int
deriving DecidableEq
instance:Inhabited iE:=⟨⟨0,0,[]⟩⟩
open Classical in
noncomputable def nE(g:ah)(fs:List (List Int))(b:mY):iE:=⟨b.st,b.prod,dz g.T λx=>decide (∃t∈b.tr,(x:Int)∈fs.getD t.toNat [])⟩
noncomputable def dt(g:ah)(nn:List Bool)(ss:List SQ):List iE:=(vO g ss).map (nE g (Ro g nn ss))
theorem KW(h:cr ss=cr ss'):dt g nn ss=dt g nn ss':=by grind[dt,S7,acW]
end
section
variable{g:ah}{nn:List Bool}{ss:List SQ}
theorem aeQ(hc:ax g):∃nn,u6 g nn:=by
 refine⟨(List.range g.N).map λi=>@decide (Q8 g ((g.T+i:Nat):Int)) (Classical.propDecidable _),σ,λi=>?_⟩;unfold bt;rw[afP,afQ]
 by_cases hi:i<g.N
 ·simp_all
 ·rw[agl (by simp_all)];simp only[Option.map_none,Option.getD_none,Bool.false_eq_true,false_iff];intro h
  have:((g.T+i:Nat):Int)<g.T+g.N:=by
   cases hs:((g.T+i:Nat):Int) with
   |ofNat n=>
    rw[hs] at h;generalize hz:(Int.ofNat n)=z at h;cases h with
    |mk p hp _=>
     have:=(Jc (.inr hc)).1 p hp|>.1
     omega
   |negSucc n=>omega
  omega
structure O9(F:ah->List Bool->List SQ->List (List Int)):Prop where
 es:∀{g nn ss ss'},cr ss=cr ss'->F g nn ss=F g nn ss'
 ln:∀{g nn ss},(F g nn ss).length=(bW g ss).length
def E2(F:ah->List Bool->List SQ->List (List Int))(g:ah)(w:ahs)(v:Value)(w':ahs):Prop:=∃(ss:List SQ)(ask int f:Int)(nn:List Bool)(o:ahr)(c:Nat)(ds:List (Lq Int)),v=.tuple #[vS o ds.length c,iI f]/\EZ g ss ask int f/\(f=0->u6 g nn)/\ds.map (·.2)=F g nn ss/\St w' (own 1 o ds.length c (ds.map bS)::aV (ds.map (bG 1 iv))::all w)
theorem O9.nil{F:ah->List Bool->List SQ->List (List Int)}(h:O9 F):F g nn []=[]:=by
 have:=h.ln (g:=g) (nn:=nn) (ss:=[])
 simp_all[afY,bW,yw]
theorem acX:O9 λg _ ss=>vV g ss:=⟨λh=>Tb h,XG⟩
theorem acY:O9 xQ:=⟨λh=>S5 h,Ic⟩
theorem acZ:O9 A7:=⟨λh=>S6 h,Ie⟩
theorem aeR:O9 Ta:=⟨λh=>XF h,aax⟩
theorem EZ.nil{a i f:Int}(h:EZ g ss a i f)(hf:f≠0):ss=[]:=by
 rcases h with⟨_,e,_⟩|⟨_,_,e,_⟩|⟨_,_,_,_,e⟩<;>first|omega|omega
theorem Tc(hc:ax g)(hA:bR g ss){l:List Int}(hl:l∈vV g ss):l.length<=66/\pq l/\∀z∈l,0<=z/\z<g.T:=by
 obtain⟨t,ht,rfl⟩:=afW.1 hl;obtain⟨Z,hN,_⟩:=hc.cX;obtain⟨i,q,k,e,hi,W,J,V,rfl⟩:=kX ht;obtain⟨_,_,j,r,X,U,u,O,_⟩:=fv hc hA W J;rw[HR (j:=j) (q:=r) (by grind[Cn]) u,aal hc hA u]
 refine⟨?_,tA _ _,λz Y=>?_⟩
 ·grind
 grind
theorem KX{n:Nat}{f:Nat->Nat->Bool}:q9 ((List.range n).map λi=>dz n (f i))=true:=by
 rw[H7];intro l hl x u;obtain⟨i,_,rfl⟩:=afW.1 hl;obtain⟨k,rfl,J,_⟩:=gb.1 u
 simp_all
theorem Td{es ow:List (List Int)}{l:List Int}(h:l∈H9 es ow):l.length<=1024/\pq l/\∀z∈l,0<=z/\z<1024:=by
 unfold H9 at h;obtain⟨v,_,rfl⟩:=afW.1 h;refine⟨Rn,O8,λz u=>?_⟩;obtain⟨x,rfl,J,_⟩:=mu.1 u;omega
end
section
variable{w:ahs}{L:List aC}{g:ah}{x:GA}
theorem Ig{f1 f2:FuncId}{E O:ah->List Bool->List SQ->List (List Int)}(hE:O9 E)(hO:O9 O)(hf1:Fn f1=true)(hf2:Fn f2=true)(hg:gR (hp w) g x)(ht:dK (hp w))
  (C1:∀u,Gr w u->ρ f1 [.agg ⟨x.cells⟩] u (E2 O g u)) (C2:∀u,Gr w u->ρ f2 [.agg ⟨x.cells⟩] u (E2 E g u))
  (hOb:∀{nn ss},ax g->bR g ss->∀l∈O g nn ss,l.length<=33280/\∀z∈l,0<=z/\z<1024) (hEb:∀{nn ss},ax g->bR g ss->q9 (E g nn ss)=true/\∀l∈E g nn ss,l.length<=33280):
  ρ 194 [.agg #[.func (.func f1) #[] #[],.func (.func f2) #[] #[]],.agg ⟨x.cells⟩] w (E2 (λg nn ss=>H9 (E g nn ss) (O g nn ss)) g w):=by
 refine qQ (ag (St.all w) λk1 w1 h=>?_);have aa:Gr w w1:=h.aQ;have r1:aj (hp w1) (aM k1) _:=af 0 h.l;clear h;refine gH (hg.mono aa) λk2 w2 Z b6 B=>?_;have a8:Gr w w2:=aa.trans Z;refine⟨_,_,r1.cell Z (j:=0) rfl,_,_,_,_,_,_,_,_,_,_,_,_,_,B.row sZZ,a_.2 ⟨hf1,(C1 w2 a8).mono ?_⟩⟩;rintro _ w3⟨ss,ask,int,f,nn,o,c,ds,rfl,hR,hn,a5,h⟩;have Y:Gr w2 w3:=aA 2 h.l;have X:=a8.trans Y
 refine⟨_,_,_,_,rfl,ae (λW=>?_) λW=>?_⟩
 ·have W:f≠0:=by simp_all
  have hz:=hR.nil W;subst hz;refine⟨[],ask,int,f,nn,none,0,[],rfl,hR,hn,?_,aI 1 ((St.flat (M:=[])).2 (St.here X))⟩
  show[]=H9 (E g nn []) (O g nn [])
  rw[hE.nil,hO.nil];rfl
 have W:f=0:=by simp_all
 subst W;obtain⟨hc,hA⟩:=hR.P7 rfl;have al:=hn rfl;have rO:=acT h;rw[a5] at rO;have b7:ds.length=(bW g ss).length:=by have:=congrArg List.length a5;rw[af4,hO.ln] at this;omega
 have b8:=xT hc hA;clear h;refine⟨_,_,r1.cell (Z.trans Y) (j:=1) rfl,_,_,_,_,_,_,_,_,_,_,_,_,_,B.row Y,a_.2 ⟨hf2,(C2 w3 X).mono ?_⟩⟩;rintro _ w4⟨b3,b5,b4,b2,J,o2,c2,V,rfl,am,b1,U,h⟩;have a4:Gr w3 w4:=aA 2 h.l;have a0:=X.trans a4
 obtain⟨ef,ad⟩:b2=0/\cr ss=cr b3:=by
  obtain⟨e1,e2,_⟩:=hR.one am
  simp_all
 subst ef;have en:=(b1 rfl).inj al;subst en;rw[<-hE.es ad] at U;have a7:=acT h;rw[U] at a7;have a9:V.length=(bW g ss).length:=by have:=congrArg List.length U;rw[af4,hE.ln] at this;omega
 clear h;obtain⟨q1,q2⟩:=hEb (nn:=J) hc hA;have q3:=hOb (nn:=J) hc hA;refine⟨_,_,_,_,rfl,ae (λW=>by simp_all) λ_=>?_⟩;refine(aaw a7 (rO.mono a4) (ec.mono a0 ht) (λl hl=>by grind) (λl hl=>by grind) ω ω).mono ?_
 have ba:E1 (E g J ss) (O g J ss)=true:=by
  unfold E1;rw[q1,hO.ln,hE.ln,ahm];simp only[beq_self_eq_true,ahm,ag1]
  grind[O7]
 rintro _ w5 (⟨W,_⟩|⟨_,bo,ps,a6,rfl,h⟩)
 ·simp_all
 have av:ps.length=V.length:=by rw[a6.1,hE.ln,a9]
 refine⟨_,_,_,_,rfl,ss,ask,int,0,J,some ⟨bo,0,none⟩,V.length,ps,by grind,hR,hn,S9.rows a6,?_⟩;rw[av];exact St.N0 h (bH a0)
variable{w:ahs}{L:List aC}{g:ah}{x:GA}
theorem E3:ρ 193 [] w λv w'=>∃k:Nat,v=vS (some (aM k)) 2 2/\St w' (az k [.func (.func pk) #[] #[],.func (.func pz) #[] #[],.func (.func xa) #[] #[],.func (.func kZ) #[] #[]]::all w):=
 Au (ag (St.all w) λu J h=>⟨u,rfl,h⟩)
theorem XH(hg:gR (hp w) g x)(hb:mi g):ρ pk [.agg ⟨x.cells⟩] w (E2 (λg _ ss=>vV g ss) g w):=by
 refine(Q5 hg hb).mono ?_;rintro _ O⟨ss,ask,int,f,o,c,ds,rfl,J,u,h⟩
 by_cases hf:f=0
 ·obtain⟨nn,hn⟩:=aeQ (J.P7 hf).1;exact⟨ss,ask,int,f,nn,o,c,ds,rfl,J,λ_=>hn,u,h⟩
 ·exact⟨ss,ask,int,f,[],o,c,ds,rfl,J,λh=>absurd h hf,u,h⟩
theorem aaz(hg:gR (hp w) g x)(hb:mi g)(ht:dK (hp w)):ρ pz [.agg ⟨x.cells⟩] w (E2 xQ g w):=aap hg hb ht
theorem Rp(hg:gR (hp w) g x)(hb:mi g)(ht:dK (hp w)):ρ kZ [.agg ⟨x.cells⟩] w (E2 A7 g w):=Rk hg hb ht
theorem UJ(hg:gR (hp w) g x)(hb:mi g)(ht:dK (hp w)):ρ xa [.agg ⟨x.cells⟩] w (E2 Ta g w):=by
 refine DN (gH hg λk1 Z gw O B=>?_);intro w2 hd;have V:Gr Z w2:=Gr.of_eq (aP hd);refine⟨λu=>Gr Z u,V,_,_,_,_,_,_,_,_,_,_,_,_,_,λu g=>B.row g,E3.mono ?_⟩;rintro _ W⟨k,rfl,h⟩;have Y:Gr w2 W:=aA 1 h.l;have J:=V.trans Y;have r:aj (hp W) (aM k) _:=af 0 h.l;clear h;have U:Gr w W:=sub.trans gw J;refine⟨_,_,_,rfl,λu=>Gr W u,Gr.refl _,λu g=>J.trans g,aJ (i:=0) rfl σ ⟨_,_,_,_,λu g=>(r.part 0 2).at g rfl,?_⟩⟩
 refine(Ig acY acX rfl rfl (O.mono J) (ec.mono U ht) (λu g=>XH (O.mono (J.trans g)) hb) (λu g=>aaz (O.mono (J.trans g)) hb (ec.mono (sub.trans U g) ht)) (λhc hA l hl=>?_) λhc hA=>⟨KX,λl hl=>?_⟩).mono ?_
 ·obtain⟨h1,_,h2⟩:=Tc hc hA hl;obtain⟨hT,_⟩:=hc.cX
  grind
 ·unfold xQ at hl;obtain⟨j,_,rfl⟩:=afW.1 hl
  grind[Nat.le_trans,py,xT]
 ·rintro _ w4⟨ss,ask,int,f,nn,o,c,ds,rfl,hR,hn,X,h⟩;exact⟨_,_,_,_,rfl,aA 2 h.l,ss,ask,int,f,nn,o,c,ds,rfl,hR,hn,X,St.N0 h (bH U)⟩
theorem O_(hg:gR (hp w) g x)(hb:mi g)(ht:dK (hp w)):ρ 100 [.agg ⟨x.cells⟩] w (E2 Ro g w):=by
 refine Aq (gH hg λk1 Z gw U B=>?_);intro w2 hd;have V:Gr Z w2:=Gr.of_eq (aP hd);refine⟨λu=>Gr Z u,V,_,_,_,_,_,_,_,_,_,_,_,_,_,λu g=>B.row g,E3.mono ?_⟩;rintro _ W⟨k,rfl,h⟩;have Y:Gr w2 W:=aA 1 h.l;have J:=V.trans Y;have r:aj (hp W) (aM k) _:=af 0 h.l;clear h;have O:Gr w W:=sub.trans gw J;refine⟨_,_,_,rfl,λu=>Gr W u,Gr.refl _,λu g=>J.trans g,aJ (i:=1) rfl σ ⟨_,_,_,_,λu g=>(r.part 1 2).at g rfl,?_⟩⟩
 refine(Ig acZ aeR rfl rfl (U.mono J) (ec.mono O ht) (λu g=>UJ (U.mono (J.trans g)) hb (ec.mono (sub.trans O g) ht)) (λu g=>Rp (U.mono (J.trans g)) hb (ec.mono (sub.trans O g) ht)) (λhc hA l hl=>?_) λhc hA=>⟨KX,λl hl=>?_⟩).mono ?_
 ·obtain⟨h1,_,h2⟩:=Td hl
  grind
 ·unfold A7 at hl;obtain⟨j,_,rfl⟩:=afW.1 hl
  grind[Nat.le_trans,py,xT]
 ·rintro _ w4⟨ss,ask,int,f,nn,o,c,ds,rfl,hR,hn,X,h⟩;exact⟨_,_,_,_,rfl,aA 2 h.l,ss,ask,int,f,nn,o,c,ds,rfl,hR,hn,X,St.N0 h (bH O)⟩
end
section
variable{g:ah}{nn:List Bool}{ss:List SQ}
theorem MK{b:mY}(h:b∈vO g ss):∃q m:Nat,q<ss.length/\m<g.prods.length/\b=⟨(q:Int),(m:Int),dz (bW g ss).length (gd g ss q m)⟩/\dz (bW g ss).length (gd g ss q m)≠[]:=by grind[vO,gG,zl,List.mem_singleton]
theorem ac0{b:mY}(h:b∈vO g ss){t:Int}(ht:t∈b.tr):∃j:Nat,t=j/\j<(bW g ss).length:=by
 obtain⟨q,m,_,_,rfl,_⟩:=MK h;obtain⟨j,rfl,u,_⟩:=gb.1 ht
 grind
theorem Te(hc:ax g)(hA:bR g ss):(vO g ss).length<=24832/\∀b∈vO g ss,b.tr.length<=33280:=by
 refine⟨?_,λb hb=>?_⟩
 ·have V:=CC g ss ss.length;have u:=hA.dn.2.1;obtain⟨W,U,J,_⟩:=hc.cX;have O:ss.length*g.prods.length<=256*97:=Nat.mul_le_mul u J
  show(H6 g ss ss.length).length<=_
  omega
 ·obtain⟨q,m,_,_,rfl,_⟩:=MK hb
  grind[Nat.le_trans,py,xT]
def xU(b:pC):iE:=⟨b.1.1,b.1.2,b.2.2⟩
def LkB(g:ah)(fs:List (List Int))(tr:List Int)(B:List Bool):Prop:=B.length=g.T/\∀y,bt B y=true↔y<g.T/\∃t∈tr,(y:Int)∈fs.getD t.toNat []
theorem LkB.nil(hT:g.T<=1024)(fs:List (List Int)):LkB g fs [] (yk (g.T:Int) []):=by
 have e:Kx (g.T:Int)=g.T:=ZK hT;refine⟨by rw[LJ,e],λy=>?_⟩;simp[yk,eF,fY,qt]
theorem LkB.snoc{fs:List (List Int)}{tr row:List Int}{t:Int}{B:List Bool}(h:LkB g fs tr B)(hr:fs.getD t.toNat []=row):LkB g fs (tr++[t]) (db B row):=by
 refine⟨by rw[bu];exact h.1,λy=>?_⟩;rw[eF];unfold fY;rw[agA,afX,aga,h.2,h.1,List.contains_iff_mem]
 grind
open Classical in
theorem LkB.row{fs:List (List Int)}{b:mY}{B:List Bool}(h:LkB g fs b.tr B):nE g fs b=⟨b.st,b.prod,iW B⟩:=by
 unfold nE;rw[S_,h.1];congr 1;refine Ib λk u=>?_;have:=h.2 k
 grind
theorem Rq:(dt g nn ss).length=(vO g ss).length:=by simp[dt]
end
section
variable{w:ahs}{L:List aC}{g:ah}{x:GA}
theorem XI(hg:gR (hp w) g x)(hb:mi g)(ht:dK (hp w)):ρ 42 [.agg ⟨x.cells⟩] w λv w'=>∃(ss:List SQ)(ask int f:Int)(nn:List Bool)(o:ahr)(c:Nat)(ds:List pC),v=.tuple #[vS o ds.length c,iI f]/\EZ g ss ask int f/\(f=0->u6 g nn)/\ds.map xU=dt g nn ss/\St w' (own 3 o ds.length c (gp ds)::aV (Bj ds)::all w):=by
 refine JF (gH hg λk1 w1 gw al B=>?_)
 have zero:∀{ss:List SQ}{ask int f:Int}{w':ahs},EZ g ss ask int f->f≠0->Gr w w'->∃(ss:List SQ)(ask int f':Int)(nn:List Bool)(o:ahr)(c:Nat)(ds:List pC),(.tuple #[vS none 0 0,iI f]:Value)=.tuple #[vS o ds.length c,iI f']/\EZ g ss ask int f'/\(f'=0->u6 g nn)/\ds.map xU=dt g nn ss/\St w' (own 3 o ds.length c (gp ds)::aV (Bj ds)::all w):=λ{ss ask int f w'} hR J hw=>by
  have hz:=hR.nil J;subst hz;exact⟨[],ask,int,f,[],none,0,[],rfl,hR,λh=>absurd h J,rfl,aI 3 ((St.flat (M:=[])).2 (St.here hw))⟩
 refine⟨_,_,_,_,_,_,_,_,_,_,_,_,_,B.row sZZ,(O_ al hb (ec.mono gw ht)).mono ?_⟩;rintro _ w2⟨ss,ask,int,f,nn,o,c,fs,rfl,hR,hn,Z,h⟩;have U:Gr w1 w2:=aA 2 h.l;refine⟨_,_,_,_,rfl,ae (λJ=>zero hR (by simp_all) (gw.trans U)) λJ=>?_⟩;have J:f=0:=by simp_all
 subst J;obtain⟨hc,hA⟩:=hR.P7 rfl;have bB:=hn rfl;have rF:=acT h;rw[Z] at rF;have b8:fs.length=(bW g ss).length:=by have:=congrArg List.length Z;grind[List.length_map,aay]
 rw[b8] at rF ⊢;have cd:=xT hc hA;clear h Z;refine⟨_,_,_,_,_,_,_,_,_,_,_,_,_,B.row U,(Rl (al.mono U) hb (ec.mono (gw.trans U) ht)).mono ?_⟩;rintro _ Y⟨bP,bz,bl,f2,o2,c2,b5,rfl,b1,V,h⟩;have aa:Gr w2 Y:=aA 2 h.l;obtain⟨_,b6,_,_,ef,_⟩:=hR.one b1;subst ef;rw[<-S7 b6] at V;have rB:=afv h;rw[V] at rB;have bc:b5.length=(vO g ss).length:=by grind
 rw[bc] at rB ⊢;clear h V;obtain⟨bT,b4⟩:=Te hc hA;obtain⟨sT,_⟩:=hc.cX;have a5:=U.trans aa;have a7:Gr w Y:=gw.trans a5;have rF:=rF.mono aa;have tl:=hg.t.1;refine⟨_,_,_,_,rfl,ae (λJ=>by simp_all) λ_=>?_⟩
 refine⟨λo n c z w'=>∃(i:Nat)(bs:List pC),z=i/\i<=(vO g ss).length/\n=bs.length/\bs.map xU=((vO g ss).take i).map (nE g (Ro g nn ss))/\St w' (own 3 o n c (gp bs)::aV (Bj bs)::all Y),λ_ _ _ z _=>(vO g ss).length-z.toNat,
  ⟨0,[],rfl,afL _,rfl,rfl,aI 3 ((St.flat (M:=[])).2 (St.all Y))⟩,?_⟩
 rintro _ o4 _ c4 _ w4⟨i,bs,rfl,hi,rfl,W,h⟩;have b3:sub (hp Y) (hp w4):=aA 2 h.l;have bi:bs.length=i:=by have:=congrArg List.length W;grind
 refine ae (λJ=>?_) λJ=>?_
 rotate_left
 ·have J:i=(vO g ss).length:=by grind
  rw[J,af7] at W;refine jS (b9 (bI h) ⟨_,_,_,rfl,ss,ask,int,0,nn,_,_,bs,rfl,hR,hn,W,?_⟩);have h:=cj h;exact St.N0 h (bH a7)
 have J:i<(vO g ss).length:=by simp_all
 obtain⟨b,ad,ta,tc,a8,rfl,rb,rt⟩:=Xz rB J;have a9:=afI a8;have ca:=b4 b a9;refine aJ rfl J ⟨_,_,_,_,_,rb.at b3 rfl,ag h λkb w5 h=>aL h rfl (by simp[aK]) λw6 h=>?_⟩;have b2:sub (hp Y) (hp w6):=aA 3 h.l;refine⟨_,_,_,B.c0 (sub.trans a5 b2),?_⟩;rw[<-tl];refine(Ud (xs:=[]) (l:=0) (a:=none) (g.T:Int) aY.nil ω).mono ?_;rintro _ w7⟨kp,rfl,h7⟩;have h:=h7.fb h;clear h7
 refine⟨_,rfl,_,_,_,(af 1 h.l).cell sZZ (j:=2) rfl,λz w'=>∃(k:Nat)(O:List Bool),z=k/\k<=b.tr.length/\LkB g (Ro g nn ss) (b.tr.take k) O/\St w' (cN (some ⟨kp,0,none⟩) O::az kb [iI b.st,iI b.prod,vS ta b.tr.length tc]::own 3 o4 bs.length c4 (gp bs)::aV (Bj bs)::all Y),λz _=>b.tr.length-z.toNat,
  ⟨0,_,rfl,afL _,LkB.nil ω _,h⟩,?_⟩
 clear h;rintro _ _ w8⟨k,O,rfl,hk,hB,h⟩;have am:sub (hp Y) (hp w8):=aA 4 h.l
 refine ae (λX=>?_) λX=>?_
 ·have X:k<b.tr.length:=by simp_all
  obtain⟨t,c6,ht1,be,ba⟩:=rt.dS X;obtain⟨j,rfl,hj⟩:=ac0 a9 (afI ht1);obtain⟨row,c7,ra,rc,b7,rfl,av,bb⟩:=Xy rF hj;have cc:=(Td (es:=A7 g nn ss) (ow:=Ta g nn ss) (afI b7)).1;refine ay be X ⟨_,ba _ am,ay rfl hj ⟨_,_,_,av _ am,(zP h (λhh hl=>bb.mono (aA 3 hl)) ω).mono ?_⟩⟩;rintro _ w9⟨rfl,h⟩;refine⟨_,rfl,⟨ω,ω⟩,⟨k+1,_,σ,X,?_,h⟩,bY X⟩;rw[cQ ht1];exact hB.snoc (by simp_all)
 have X:k=b.tr.length:=by grind
 rw[X,af7] at hB;intro a6 hd;have h:=h.eq (aP hd);have rk:aj (hp a6) (aM kb) _:=af 1 h.l
 have a0:eH (hp a6) (some ⟨kp,0,none⟩) O:=by
  obtain⟨g1,g2,_,s1,_,ha,_⟩:=h;exact(DE ha).mono s1
 refine⟨λu=>aj (hp u) (aM kb) [iI b.st,iI b.prod,vS ta b.tr.length tc],rk,_,λu r=>r.cell0 sZZ,_,λu r=>r.cell sZZ (j:=1) rfl,(DF a0 (ec.mono (sub.trans a7 (aA 4 h.l)) ht)).mono ?_⟩;rintro _ c9⟨a',c',rfl,a4⟩;have h:=a4.fb h;clear a4;refine⟨_,_,_,rfl,af 2 h.l,ag h λkn c8 h=>⟨af 3 h.l,?_⟩⟩;refine(aU (us:=gp bs) aT (rfl:ai Ty _=.slice _) (rfl:ai Ty _=.slice _) rfl rfl rfl (h.pick 6 [0,4,1,2,3,5]) rfl (by simp[aK]) (by grind) ω).mono ?_;rintro _ bA⟨o',c5,rfl,h⟩
 refine⟨_,_,_,rfl,af 4 h.l,⟨ω,ω⟩,⟨i+1,bs++[((b.st,b.prod),((a',c'),iW O))],σ,J,σ,?_,?_⟩,bY J⟩
 ·rw[af8,W,afM,a8,af8]
  show _++[(⟨b.st,b.prod,iW O⟩:iE)]=_++[nE g (Ro g nn ss) b]
  rw[hB.row]
 ·have e1:gp (bs++[((b.st,b.prod),((a',c'),iW O))])=gp bs++[iI b.st,iI b.prod,vS a' (bF O) c']:=by simp[gp,bkE,bS,BG]
  have e2:Bj (bs++[((b.st,b.prod),((a',c'),iW O))])=Bj bs++[own 1 a' (bF O) c' (iv (iW O))]:=by simp[Bj,bG,BG]
  rw[e1,e2];have h:=St.snoc (h.pick 6 [2,5,0,1,3,4]);exact h.pick 6 [1,0,5]
end
section
instance:tQ iE:={ n:=3,rd:=λh x vs=>∃(a:ahr)(c:Nat),vs=[iI x.st,iI x.prod,vS a x.tm.length c]/\aY h x.tm a x.tm.length,mono:=λs ⟨a,c,e,r⟩=>⟨a,c,e,r.mono s⟩,len:=λ⟨_,_,e,_⟩=>by simp_all }
open Classical in
section
variable{g:ah}{ss:List SQ}
theorem KY{q m:Nat}{b:mY}(h:b∈zl g ss q m):b=⟨(q:Int),(m:Int),dz (bW g ss).length (gd g ss q m)⟩/\dz (bW g ss).length (gd g ss q m)≠[]:=by simp_all[zl]
theorem KZ{q j:Nat}{b:mY}:b∈gG g ss q j↔∃m,m<j/\dz (bW g ss).length (gd g ss q m)≠[]/\b=⟨(q:Int),(m:Int),dz (bW g ss).length (gd g ss q m)⟩:=by
 unfold gG;rw[agN]
 constructor
 ·grind[KY]
 ·rintro⟨m,u,J,rfl⟩;refine⟨m,agd.2 u,?_⟩
  simp_all[zl]
theorem Ih(q:Nat):∀j,pq ((gG g ss q j).map (·.prod))
 |0=>by simp[gG,pq]
 |j+1=>by
  rw[A8,af8]
  unfold pq
  rw[List.pairwise_append]
  refine⟨Ih q j,?_,λa ha b hb=>?_⟩
  ·unfold zl
   split<;>simp
  ·obtain⟨x,hx,rfl⟩:=afW.1 ha
   obtain⟨y,hy,rfl⟩:=afW.1 hb
   obtain⟨m,hm,_,rfl⟩:=KZ.1 hx
   obtain⟨rfl,_⟩:=KY hy
   simp_all
end
inductive JZ (g:ah) (ss:List SQ):Nat->Nat->Prop
 |now (j x:Nat):x<g.T->(dm ss j (x:Int)).isSome->JZ g ss j x
 |via (j k x:Nat) (s:Int):(g.T:Int)<=s->Q8 g s->dm ss j s=some (k:Int)->JZ g ss k x->JZ g ss j x
section
variable{g:ah}{nn:List Bool}{ss:List SQ}
theorem ac1{n m:Nat}{p:aO}(hp:g.prods[n]? =some p):mQ g ⟨(n:Int),(m:Int)⟩=p.right.getD m (-1):=by simp_all[wR]
theorem mD{n m:Nat}{p:aO}{s:Int}(hp:g.prods[n]? =some p)(hs:p.right[m]? =some s):mQ g ⟨(n:Int),(m:Int)⟩=s:=by simp_all[ac1]
theorem XJ(hc:ax g){s:Int}(h:Q8 g s):(g.T:Int)<=s/\s<g.T+g.N:=by
 cases h with
 |mk p hp _=>exact(Jc (.inr hc)).1 p hp|>.1
theorem CE(hn:u6 g nn){s:Int}(h:(g.T:Int)<=s):zk g nn s=true↔Q8 g s:=by
 unfold zk;rw[agt h,ahm,hn.2,show((g.T+(s.toNat-g.T):Nat):Int)=s by omega]
theorem Pa(hc:ax g)(hn:u6 g nn){row:List Int}:FU g nn row=true↔Xl g row:=by
 unfold FU Xl;rw[ag1];refine forall_congr' λs=>forall_congr' λ_=>⟨λh=>(CE hn (MI h)).1 h,λh=>(CE hn (XJ hc h).1).2 h⟩
theorem JZ.along(hc:ax g)(hA:bR g ss){n x:Nat}{p:aO}(hp:g.prods[n]? =some p):∀(d m j:Nat)(q:SQ),ss[j]? =some q->wi g q.1.2 ⟨(n:Int),(m:Int)⟩->m+d<=p.right.length->(∀y∈(p.right.drop m).take d,Q8 g y)->
  (∀(k:Nat)(r:SQ),ss[k]? =some r->wi g r.1.2 ⟨(n:Int),((m+d:Nat):Int)⟩->JZ g ss k x)->JZ g ss j x
 |0,m,j,q,hq,hy,_,_,h=>h j q hq hy
 |d+1,m,j,q,hq,hy,hm,hn,h=>by
  have hlt:m<p.right.length:=ω
  have hgs:p.right[m]? =some p.right[m]:=afJ hlt
  rw[agm hlt,List.take_succ_cons] at hn
  have hnu:=hn _ List.mem_cons_self
  have hge:=XJ hc hnu
  obtain⟨k,r,h1,h2,h3⟩:=yx hc hA hq hy (mD hp hgs) ω
  refine .via j k x _ hge.1 hnu h1 (JZ.along hc hA hp d (m+1) k r h2 (.base (by simp_all)) ω (λy hy=>hn y (agO _ hy)) ?_)
  grind
theorem JZ.ac2(hc:ax g)(hA:bR g ss){s:Int}{x:Nat}(h:Vp g s x):∀(n m j:Nat)(p:aO)(q:SQ),g.prods[n]? =some p->p.right[m]? =some s->ss[j]? =some q->wi g q.1.2 ⟨(n:Int),(m:Int)⟩->JZ g ss j x:=by
 induction h with
 |tm t ht=>
  intro n m j p q hp U O J;obtain⟨k,r,Z,_⟩:=yx hc hA O J (mD hp U) (agu _);exact .now j t ht (by simp_all)
 |pr p' i s t hp' hs' hn hf ih=>
  intro n m j p q hp U O J;obtain⟨V,u⟩:=agb hp';have W:=((Jc (.inr hc)).1 p' hp').1;have X:=(afK.1 hs').1;have h0:wi g q.1.2 ⟨(V:Int),((0:Nat):Int)⟩:=.step (y:=⟨(n:Int),(m:Int)⟩) J (by grind[mD]) u (by grind[mD]);refine JZ.along hc hA u i 0 j q O h0 ω (by simp_all) λk r hr Y=>?_
  grind
theorem JZ.ac3(hc:ax g)(hA:bR g ss){n m j x:Nat}{p:aO}{q:SQ}(hp:g.prods[n]? =some p)(hq:ss[j]? =some q)(hy:wi g q.1.2 ⟨(n:Int),(m:Int)⟩)(h:Cv g (p.right.drop m) x):JZ g ss j x:=by
 obtain⟨i,s,u,O,W⟩:=h;rw[agG] at u;have V:=(afK.1 u).1;exact JZ.along hc hA hp i m j q hq hy ω O λk r U J=>JZ.ac2 hc hA W n (m+i) k p r hp u U J
def rest(g:ah)(y:au):List Int:=match g.prods[y.prod.toNat]? with
 |some p=>p.right.drop y.dot.toNat
 |none=>[]
theorem CF{y:au}(h:0<=mQ g y):∃p,g.prods[y.prod.toNat]? =some p/\p.right[y.dot.toNat]? =some (mQ g y)/\rest g y=mQ g y::p.right.drop (y.dot.toNat+1):=by
 unfold mQ at h ⊢;unfold rest;cases hp:g.prods[y.prod.toNat]? with
 |none=>simp_all
 |some p=>
  rw[hp] at h;simp only at h ⊢;have hl:y.dot.toNat<p.right.length:=by grind
  simp_all
theorem Cv.head{s:Int}{l:List Int}{x:Nat}(h:Vp g s x):Cv g (s::l) x:=⟨0,s,rfl,σ,h⟩
theorem Cv.skip{s:Int}{l:List Int}{x:Nat}(h:Q8 g s)(hl:Cv g l x):Cv g (s::l) x:=by
 obtain⟨i,y,u,O,J⟩:=hl;refine⟨i+1,y,u,λz U=>?_,J⟩
 grind
theorem Cv.left{p:aO}{x:Nat}(hp:p∈g.prods)(h:Cv g p.right x):Vp g p.left x:=by
 obtain⟨i,s,J,u,O⟩:=h;exact .pr p i s x hp J u O
theorem Tf{I:List au}{y:au}(h:wi g I y):∀x,Cv g (rest g y) x->∃z∈I,Cv g (rest g z) x:=by
 induction h with
 |base hx=>grind
 | @step y i p h1 h2 h3 h4 ih=>
  intro x u;obtain⟨O,_,_,J⟩:=CF h2;refine ih x ?_;rw[J,<-h4];have e:rest g ⟨(i:Int),0⟩=p.right:=by simp_all[rest]
  rw[e] at u;exact .head (u.left (afI h3))
theorem JZ.item(hc:ax g)(hA:bR g ss){j x:Nat}(h:JZ g ss j x):∀q,ss[j]? =some q->∃z∈q.1.2,Cv g (rest g z) x:=by
 induction h with
 |now j x hx U=>
  intro q V;obtain⟨hT,hN,_⟩:=hc.cX;rw[tz hA V ω] at U;have U:=afO U;obtain⟨z,X⟩:=agP _ U;obtain⟨y,W,O,_⟩:=dW.1 X;refine Tf W x ?_;obtain⟨_,_,_,h5⟩:=CF (y:=y) (by rw[O];omega);rw[h5,O];exact .head (.tm x hx)
 |via j k x s U hn hk hr ih=>
  intro q V;obtain⟨q',i,e,J,he,a6,a5⟩:=qB hk;rw[V] at J;cases J;obtain⟨_,_,k',r,a0,_,Y,a4,_⟩:=fv hc hA V he;rw[a5] at a0;have Z:k=k':=ω
  subst Z;obtain⟨z,X,hf⟩:=ih r Y;rw[a4,a6] at X;obtain⟨y,W,O,rfl⟩:=dW.1 X;refine Tf W x ?_;obtain⟨p,hp,_,h5⟩:=CF (y:=y) (by rw[O];omega);rw[h5,O];refine .skip hn ?_;unfold rest at hf;rw[show g.prods[((⟨y.prod,y.dot+1⟩:au).prod).toNat]? =some p from hp] at hf;obtain⟨hT,hN,hP,a7,_,_⟩:=hc.cX;have hK:=(mq hA V).1;have u:=W.fit ((jC (g:=g) ω j).fit _ (afI hK));have hd:(y.dot+1).toNat=y.dot.toNat+1:=by have:=u.2.1;omega
  simp_all
end
section
variable{g:ah}{nn:List Bool}{ss:List SQ}
theorem aaA{v:Nat}{t:aF}(ht:(bW g ss)[v]? =some t):(vV g ss).getD v []=kj g ss t:=by simp_all[vV]
theorem XK{n:Nat}{f:Nat->Nat->Bool}{v m:Nat}:m∈En ((List.range n).map λi=>dz n (f i)) v↔v<n/\m<n/\f v m=true:=by
 unfold En;rw[afP]
 by_cases U:v<n
 ·rw[afQ,agR U];simp only[ahg,Option.getD_some,afW]
  constructor
  ·rintro⟨z,O,rfl⟩;obtain⟨k,rfl,J,u⟩:=gb.1 O
   simp_all
  ·rintro⟨_,J,u⟩;exact⟨(m:Int),gb.2 ⟨m,rfl,J,u⟩,rfl⟩
 grind
theorem XL{v m:Nat}:m∈En (xQ g nn ss) v↔v<(bW g ss).length/\m<(bW g ss).length/\kY g nn ss v m=true:=XK
theorem XM{v m:Nat}:m∈En (A7 g nn ss) v↔v<(bW g ss).length/\m<(bW g ss).length/\Cx g nn ss v m=true:=XK
theorem A_{v:Nat}{t:aF}(hc:ax g)(hA:bR g ss)(ht:(bW g ss)[v]? =some t):∃(i j:Nat)(q r:SQ),t.st=i/\ss[i]? =some q/\(g.T:Int)<=t.sym/\dm ss i t.sym=some (j:Int)/\1<=j/\ss[j]? =some r/\r.1.2=bx g q.1.2 t.sym:=by
 obtain⟨i,q,k,e,hi,U,V,u,rfl⟩:=kX (afI ht);obtain⟨_,_,j,r,X,J,W,O,_⟩:=fv hc hA U V;exact⟨i,j,q,r,rfl,U,u,by grind[Cn],J,W,O⟩
theorem XN{i:Nat}{s j:Int}(h:dm ss i s=some j)(hs:(g.T:Int)<=s):∃v:Nat,(bW g ss)[v]? =some ⟨(i:Int),s⟩:=by
 obtain⟨q,k,e,J,u,rfl,_⟩:=qB h;exact⟨_,Q6 J u hs⟩
theorem ML(hc:ax g)(hA:bR g ss){v i j x:Nat}{t:aF}(ht:(bW g ss)[v]? =some t)(hi:t.st=i)(hj:dm ss i t.sym=some (j:Int)):(x:Int)∈(vV g ss).getD v []↔(t=⟨0,g.start⟩/\x=0)\/(x<g.T/\(dm ss j (x:Int)).isSome):=by
 have O:=hc.cX;obtain⟨V,J,q,r,Z,Y,X,W,h5,u,_⟩:=A_ hc hA ht;have:V=i:=ω
 subst this;rw[hj] at W;have:j=J:=by grind
 subst this;rw[aaA ht,HR (j:=j) (q:=r) (by simp_all) u,afT,Xk hA u,afW]
 refine or_congr ?_ ?_
 ·simp[oh]
 ·constructor
  ·grind[tz]
  ·rintro⟨h7,U⟩;rw[tz hA u ω] at U
   grind
theorem JZ.has(hc:ax g)(hA:bR g ss)(hn:u6 g nn){j x:Nat}(h:JZ g ss j x):∀(v i:Nat) t,(bW g ss)[v]? =some t->t.st=i->dm ss i t.sym=some (j:Int)->h_ (xQ g nn ss) (vV g ss) v x:=by
 induction h with
 |now j x hx hs=>grind[h_.iff,ML]
 |via j k x s hs hnu hk hr ih=>
  intro v i t ht hi O;obtain⟨u,J⟩:=XN (g:=g) hk hs;refine h_.iff.2 (.inr ⟨u,XL.2 ⟨(afK.1 ht).1,(afK.1 J).1,?_⟩,ih u j _ J rfl hk⟩)
  simp_all[kY,CE]
theorem ac4{v u:Nat}{t:aF}(ht:(bW g ss)[v]? =some t)(h:u∈En (xQ g nn ss) v):∃t',(bW g ss)[u]? =some t'/\dm ss t.st.toNat t.sym=some t'.st/\zk g nn t'.sym=true:=by
 obtain⟨_,J,O⟩:=XL.1 h
 simp_all[bW,kY]
theorem aaB(hc:ax g)(hA:bR g ss)(hn:u6 g nn){v x:Nat}(h:h_ (xQ g nn ss) (vV g ss) v x):∀(i j:Nat) t,(bW g ss)[v]? =some t->t.st=i->dm ss i t.sym=some (j:Int)->(t=⟨0,g.start⟩/\x=0)\/JZ g ss j x:=by
 refine h_.least (Q:=λv x=>∀(i j:Nat) t,(bW g ss)[v]? =some t->t.st=i->dm ss i t.sym=some (j:Int)->(t=⟨0,g.start⟩/\x=0)\/JZ g ss j x) (λv x hx i j t ht hi O=>?_) (λv u x hu ih i j t ht hi O=>?_) h
 ·rcases(ML hc hA ht hi O).1 hx with h|⟨U,W⟩
  ·simp_all
  ·exact .inr (.now j x U W)
 ·obtain⟨X,J,U,W⟩:=ac4 ht hu;obtain⟨V,j2,_,_,e1,_,Z,Y,_⟩:=A_ hc hA J;rw[hi,afU,O] at U;have e5:V=j:=by grind
  subst e5
  rcases ih V j2 X J e1 Y with⟨rfl,_⟩|h3
  ·obtain⟨i',j',_,_,f1,_,_,f4,f5,_⟩:=A_ hc hA ht;have:i'=i:=ω
   grind
  ·exact .inr (.via V j2 x X.sym Z ((CE hn Z).1 W) Y h3)
theorem Rr{v:Nat}(hv:v<(bW g ss).length):(Ta g nn ss).getD v []=q_ (xQ g nn ss) (vV g ss) v:=by simp_all[Ta,Ia,Ic]
theorem XO{v:Nat}(hv:v<(bW g ss).length):(Ro g nn ss).getD v []=q_ (A7 g nn ss) (Ta g nn ss) v:=by simp_all[Ro,Ia,Ie]
end
section
variable{g:ah}{nn:List Bool}{ss:List SQ}{w w':ahs}{v:Value}{a i f:Int}
theorem aeS(hc:ax g)(hA:bR g ss){v x:Nat}(h:h_ (xQ g nn ss) (vV g ss) v x):x<g.T:=by
 refine h_.least (Q:=λ_ x=>x<g.T) (λv x J=>?_) (λ_ _ _ _ h=>h) h
 by_cases u:v<(vV g ss).length
 ·rw[afP,afJ u] at J;have:=(Tc hc hA (ahd u)).2.2 _ J;omega
 simp_all
theorem XP{fs:List (List Int)}{b:mY}{z:Int}:z∈(nE g fs b).tm↔∃x:Nat,z=x/\x<g.T/\∃t∈b.tr,(x:Int)∈fs.getD t.toNat []:=by simp[nE,gb]
theorem UK{fs:List (List Int)}{b:mY}:pq (nE g fs b).tm:=tA _ _
theorem XQ{fs:List (List Int)}{b:mY}:(nE g fs b).tm.length<=g.T:=py _ _
end
section
variable{n k i j:Nat}{f f0:Nat->List Int}{L:List aC}{A:aC}{w w' w0:ahs}
theorem aaC{l:List Int}(h:pq l):l.Nodup:=agI.2 (h.imp λh e=>ω)
theorem Rs{l:List Int}{B:Nat}(h:pq l)(hb:∀z∈l,0<=z/\z<B):l.length<=B:=by
 have e:l=dz B λk=>decide ((k:Int)∈l):=by
  refine MC h (tA _ _) λz=>?_;rw[gb]
  constructor
  ·intro u;have:=hb z u;exact⟨z.toNat,ω,ω,by grind⟩
  simp_all
 grind[py]
end
section
variable{α:Type}{k:α->Int}{l m:List α}
abbrev nk(k:α->Int)(l:List α):Prop:=l.Pairwise λx y=>k x<=k y
theorem k_:nk k (l++m)↔nk k l/\nk k m/\∀x∈l,∀y∈m,k x<=k y:=List.pairwise_append
theorem XR(h:nk k l){z:α}(hz:l.getLast? =some z):∀x∈l,k x<=k z:=λx u=>by
 obtain⟨i,hi⟩:=agb u
 rw[ahf] at hz
 have U:=(afK.1 hi).1
 by_cases e:i=l.length-1
 ·simp_all
 ·obtain⟨O,rfl⟩:=afK.1 hi
  obtain⟨J,rfl⟩:=afK.1 hz
  grind[List.pairwise_iff_getElem]
theorem XS(h:nk k l){z:α}(hz:l.head? =some z):∀x∈l,k z<=k x:=λx u=>by
 cases l with
 |nil=>grind
 |cons a l=>
  cases hz
  rcases af6.1 u with rfl|u
  ·omega
  simp_all
theorem yE(hl:nk k l)(hm:nk k m)(h:∀x y,l.getLast? =some x->m.head? =some y->k x<=k y):∀x∈l,∀y∈m,k x<=k y:=λx J y u=>by
 obtain⟨a,ha⟩:∃a,l.getLast? =some a:=⟨_,List.getLast?_eq_some_getLast (List.ne_nil_of_mem J)⟩
 obtain⟨b,hb⟩:∃b,m.head? =some b:=⟨_,List.head?_eq_some_head (List.ne_nil_of_mem u)⟩
 have U:=XR hl ha x J
 have O:=XS hm hb y u
 grind
theorem Rt{L1 L2 R1 R2 S1 S2:List α}(hL:nk k (L1++L2))(hR:nk k (R1++R2))(h1:∀x y,L1.getLast? =some x->R2.head? =some y->k x<=k y)(h2:∀x y,R1.getLast? =some x->L2.head? =some y->k x<=k y)
  (p1:S1.Perm (L1++R1)) (s1:nk k S1) (p2:S2.Perm (L2++R2)) (s2:nk k S2):nk k (S1++S2)/\(S1++S2).Perm ((L1++L2)++(R1++R2)):=by
 obtain⟨a1,a2,a3⟩:=k_.1 hL;obtain⟨J,u,V⟩:=k_.1 hR;have c1:=yE a1 u h1;have c2:=yE J a2 h2
 refine⟨k_.2 ⟨s1,s2,λx U y O=>?_⟩,?_⟩
 ·grind
 ·refine(p1.append p2).trans ?_
  grind[List.append_assoc,List.Perm.append_left,List.Perm.append_right,List.perm_append_comm]
theorem MM{R1 R2:List α}{x:α}(hR:nk k (R1++R2))(h1:∀y,R1.getLast? =some y->k y<=k x)(h2:∀y,R2.head? =some y->k x<=k y):nk k (R1++x::R2):=by
 obtain⟨U,O,V⟩:=k_.1 hR
 refine k_.2 ⟨U,agL.2 ⟨λy u=>?_,O⟩,λy u z J=>?_⟩
 ·exact yE (l:=[x]) (List.pairwise_singleton _ _) O (λa b ha hb=>by simp_all) x σ y u
 ·rcases af6.1 J with rfl|J
  ·exact yE U (m:=[z]) (List.pairwise_singleton _ _) (λa b ha hb=>by simp_all) y u z σ
  simp_all
theorem CG{P M Q:List α}{x y:α}{i j:Nat}(hi:i=P.length)(hj:j=P.length+1+M.length):((P++x::(M++y::Q)).set i y).set j x=P++y::(M++x::Q):=by
 subst hi hj
 grind
theorem uL{P Q:List α}{x:α}{i:Nat}(hi:i=P.length):(P++x::Q)[i]? =some x:=by simp_all
end
structure aE where
 kind:Int
 to:Int
deriving DecidableEq
instance:Inhabited aE:=⟨⟨0,0⟩⟩
structure iR where
 st:Int
 tm:Int
deriving DecidableEq
structure cK where
 st:Int
 tm:Int
 acts:List aE
deriving DecidableEq
instance:Inhabited cK:=⟨⟨0,0,[]⟩⟩
section
variable{g:ah}{nn:List Bool}{ss ss':List SQ}{α:Type}
def UL(ss:List SQ)(q t:Nat):List aE:=match dm ss q (t:Int) with
 |some j=>[⟨1,j⟩]
 |none=>[]
def Vr(ss:List SQ)(q t:Nat):List aE:=match ss[q]? with
 |some r=>if t=0/\(⟨0,1⟩:au)∈r.1.2 then[⟨3,0⟩] else[]
 |none=>[]
def P8(ls:List iE)(q t:Nat):List aE:=(ls.filter λl=>decide (l.st=(q:Int))&&decide ((t:Int)∈l.tm)).map λl=>⟨2,l.prod⟩
noncomputable def gf(g:ah)(nn:List Bool)(ss:List SQ)(q t:Nat):List aE:=UL ss q t++Vr ss q t++P8 (dt g nn ss) q t
noncomputable def cellAt(g:ah)(nn:List Bool)(ss:List SQ)(least q t:Nat):List cK:=if least<=(gf g nn ss q t).length then[⟨(q:Int),(t:Int),gf g nn ss q t⟩] else[]
noncomputable def qD(g:ah)(nn:List Bool)(ss:List SQ)(least q n:Nat):List cK:=(List.range n).flatMap (cellAt g nn ss least q)
noncomputable def mZ(g:ah)(nn:List Bool)(ss:List SQ)(least n:Nat):List cK:=(List.range n).flatMap λq=>qD g nn ss least q g.T
noncomputable def pD(g:ah)(nn:List Bool)(ss:List SQ)(least:Nat):List cK:=mZ g nn ss least ss.length
theorem uM{least q n:Nat}:qD g nn ss least q (n+1)=qD g nn ss least q n++cellAt g nn ss least q n:=by simp[qD,agx]
theorem Ba{least n:Nat}:mZ g nn ss least (n+1)=mZ g nn ss least n++qD g nn ss least n g.T:=by simp[mZ,agx]
abbrev Ek:=List (iR×aE)
def qE(g:ah)(q:Nat)(es:List aH):Ek:=(es.filter λe=>decide (e.sym<(g.T:Int))).map λe=>(⟨(q:Int),e.sym⟩,⟨1,e.to⟩)
def xV(q:Nat)(K:List au):Ek:=if(⟨0,1⟩:au)∈K then[(⟨(q:Int),0⟩,⟨3,0⟩)] else[]
def E4(g:ah)(ss:List SQ)(q:Nat):Ek:=match ss[q]? with
 |some r=>qE g q r.2.2++xV q r.1.2
 |none=>[]
def pE(g:ah)(ss:List SQ)(n:Nat):Ek:=(List.range n).flatMap (E4 g ss)
def xW(l:iE)(n:Nat):Ek:=(l.tm.take n).map λt=>(⟨l.st,t⟩,⟨2,l.prod⟩)
def tD(ls:List iE)(n:Nat):Ek:=(ls.take n).flatMap λl=>xW l l.tm.length
theorem Ii{n:Nat}:pE g ss (n+1)=pE g ss n++E4 g ss n:=by simp[pE,agx]
theorem Ij{q:Nat}{es:List aH}{e:aH}:qE g q (es++[e])=if e.sym<(g.T:Int) then qE g q es++[(⟨(q:Int),e.sym⟩,⟨1,e.to⟩)] else qE g q es:=by grind[qE]
theorem Ru{l:iE}{n:Nat}{t:Int}(h:l.tm[n]? =some t):xW l (n+1)=xW l n++[(⟨l.st,t⟩,⟨2,l.prod⟩)]:=by simp_all[xW,afM]
theorem Ik{ls:List iE}{n:Nat}{l:iE}(h:ls[n]? =some l):tD ls (n+1)=tD ls n++xW l l.tm.length:=by simp_all[tD,afM]
def Je(ps:Ek)(p:iR):List aE:=(ps.filter λx=>decide (x.1=p)).map (·.2)
theorem Gn{ps qs:Ek}{p:iR}:Je (ps++qs) p=Je ps p++Je qs p:=by simp[Je]
theorem Il{ps:Ek}{p:iR}(h:∀x∈ps,x.1≠p):Je ps p=[]:=by grind[Je,List.filter_eq_nil_iff]
theorem Pb{β:Type}{l:List β}{f:β->Ek}{p:iR}:Je (l.flatMap f) p=l.flatMap λx=>Je (f x) p:=by
 induction l with
 |nil=>rfl
 |cons a l ih=>simp_all[Gn]
theorem Pc{f:Nat->List α}{q:Nat}(h:∀i,i≠q->f i=[]):∀n,q<n->(List.range n).flatMap f=f q
 |0,hq=>ω
 |n+1,hq=>by
  rw[agx,agh]
  by_cases e:q=n
  ·grind[List.range,List.flatMap_eq_nil_iff]
  ·rw[Pc h n ω]
   grind
theorem XT{q:Nat}{r:SQ}{s:Int}(hr:ss[q]? =some r):dm ss q s=(r.2.2.find? λe=>decide (e.sym=s)).map (·.to):=tw hr s
theorem K1:∀{es:List aH}{s:Int},(es.map (·.sym)).Nodup->(es.filter λe=>decide (e.sym=s))=(es.find? λe=>decide (e.sym=s)).toList
 |[],s,_=>rfl
 |e::es,s,h=>by
  rw[agv,agB] at h
  by_cases he:e.sym=s
  ·simp_all
  ·rw[List.filter_cons_of_neg (by simp_all),List.find?_cons_of_neg (by simp_all)]
   exact K1 h.2
theorem atE(hA:bR g ss){q t:Nat}{r:SQ}(hr:ss[q]? =some r)(ht:t<g.T):Je (qE g q r.2.2) ⟨(q:Int),(t:Int)⟩=UL ss q t:=by
 unfold UL;rw[XT hr];have u:=D8 hA hr;unfold Je qE;rw[List.filter_map,List.filter_filter,List.map_map];have e:(r.2.2.filter λe=>(((λx:iR×aE=>decide (x.1=⟨(q:Int),(t:Int)⟩))∘λe:aH=>((⟨(q:Int),e.sym⟩:iR),(⟨1,e.to⟩:aE))) e)&&decide (e.sym<(g.T:Int)))=r.2.2.filter λe=>decide (e.sym=(t:Int)):=by grind
 rw[e,K1 u];cases r.2.2.find? λe=>decide (e.sym=(t:Int)) with
 |none=>rfl
 |some e=>rfl
theorem atQ(hA:bR g ss){q t:Nat}{r:SQ}(hr:ss[q]? =some r)(ht:t<g.T):Je (E4 g ss q) ⟨(q:Int),(t:Int)⟩=UL ss q t++Vr ss q t:=by
 unfold E4 Vr;rw[hr]
 show Je (qE g q r.2.2++xV q r.1.2) _=_
 rw[Gn,atE hA hr ht];congr 1
 show _=if t=0/\(⟨0,1⟩:au)∈r.1.2 then[(⟨3,0⟩:aE)] else[]
 unfold xV
 by_cases h:(⟨0,1⟩:au)∈r.1.2
 ·rw[afZ h]
  by_cases J:t=0
  ·subst J;rw[afZ ⟨rfl,h⟩];simp[Je]
  ·rw[afV (λu=>J u.1)];grind[Il]
 ·rw[afV h,afV (λu=>h u.2)];rfl
theorem XU{q:Nat}{x:iR×aE}(h:x∈E4 g ss q):x.1.st=(q:Int):=by
 unfold E4 at h
 split at h
 ·rcases afT.1 h with h|h
  ·unfold qE at h
   grind
  simp_all[xV]
 simp_all
theorem atS(hA:bR g ss){q t:Nat}(hq:q<ss.length)(ht:t<g.T):Je (pE g ss ss.length) ⟨(q:Int),(t:Int)⟩=UL ss q t++Vr ss q t:=by
 unfold pE;rw[Pb,Pc (q:=q) (λi hi=>Il λx u e=>hi (by have:=XU u;grind)) _ hq]
 simp_all[atQ]
theorem atK{l:iE}{q t:Nat}(hr:pq l.tm):Je (xW l l.tm.length) ⟨(q:Int),(t:Int)⟩=if l.st=(q:Int)/\(t:Int)∈l.tm then[⟨2,l.prod⟩] else[]:=by
 unfold Je xW;rw[af7,List.filter_map,List.map_map]
 by_cases h:l.st=(q:Int)/\(t:Int)∈l.tm
 ·rw[afZ h]
  have e:(l.tm.filter ((λx:iR×aE=>decide (x.1=⟨(q:Int),(t:Int)⟩))∘λt=>((⟨l.st,t⟩:iR),(⟨2,l.prod⟩:aE))))=[(t:Int)]:=by
   have key:∀{l:List Int},l.Nodup->(t:Int)∈l->(l.filter λx=>decide (x=(t:Int)))=[(t:Int)]:=by
    intro l
    induction l with
    |nil=>simp
    |cons a l ih=>
     intro hn O;obtain⟨U,J⟩:=agB.1 hn
     by_cases u:a=(t:Int)
     ·grind[List.filter_cons_of_pos,List.filter_eq_nil_iff]
     grind
   grind[aaC,List.filter_congr,decide]
  simp_all
 ·rw[afV h,ahb.2 λx V=>?_];rfl
  grind
theorem atL{ls:List iE}{q t:Nat}(hr:∀l∈ls,pq l.tm):Je (tD ls ls.length) ⟨(q:Int),(t:Int)⟩=P8 ls q t:=by
 unfold tD P8;rw[af7,Pb]
 induction ls with
 |nil=>rfl
 |cons l ls ih=>
  rw[agr,atK (hr l σ),ih λl hl=>hr l (by grind)]
  grind
theorem Pe{k:α->Int}:∀{l m:List α},l.Perm m->(l.Pairwise λx y=>k x<k y)->(m.Pairwise λx y=>k x<k y)->l=m
 |[],m,p,_,_=>(p.symm.eq_nil).symm
 |a::l,[],p,_,_=>absurd p.eq_nil σ
 |a::l,b::m,p,hl,hm=>by
  obtain⟨h1,h2⟩:=agL.1 hl
  obtain⟨h3,h4⟩:=agL.1 hm
  have e:a=b:=by grind
  subst e
  rw[Pe ((List.perm_cons a).1 p) h2 h4]
theorem K2(q:Nat):((dt g nn ss).filter λl=>decide (l.st=(q:Int))).Pairwise λx y=>x.prod<y.prod:=by
 have key:∀n,((H6 g ss n).filter λb=>decide (b.st=(q:Int)))=if q<n then gG g ss q g.prods.length else[]:=by
  intro n
  induction n with
  |zero=>rfl
  |succ n ih=>
   rw[Ei,ago,ih];have J:∀b∈gG g ss n g.prods.length,b.st=(n:Int):=λb hb=>by obtain⟨m,_,_,rfl⟩:=KZ.1 hb;rfl
   by_cases e:q=n
   ·simp_all
   ·have:((gG g ss n g.prods.length).filter λb=>decide (b.st=(q:Int)))=[]:=ahb.2 λb hb=>by grind
    grind
 have O:=key ss.length
 have e:((dt g nn ss).filter λl=>decide (l.st=(q:Int)))=(((vO g ss).filter λb=>decide (b.st=(q:Int)))).map (nE g (Ro g nn ss)):=by
  unfold dt;rw[List.filter_map];rfl
 rw[e,agz]
 show List.Pairwise _ ((H6 g ss ss.length).filter _)
 rw[O]
 by_cases h:q<ss.length
 ·rw[afZ h];have u:=Ih (g:=g) (ss:=ss) q g.prods.length;unfold pq at u;rw[agz] at u;exact u
 simp_all[afV]
theorem aaD{ls:List iE}(p:ls.Perm (dt g nn ss))(h:nk (·.prod) ls)(q t:Nat):P8 ls q t=P8 (dt g nn ss) q t:=by
 have e:∀m:List iE,P8 m q t=((m.filter λl=>decide (l.st=(q:Int))).filter λl=>decide ((t:Int)∈l.tm)).map λl=>⟨2,l.prod⟩:=λm=>by simp[P8,List.filter_filter,Bool.and_comm]
 rw[e,e];congr 2;have hp:=p.filter λl=>decide (l.st=(q:Int));have hS:=K2 (g:=g) (nn:=nn) (ss:=ss) q;refine Pe (k:=(·.prod)) hp ?_ hS;have J:(ls.filter λl=>decide (l.st=(q:Int))).Pairwise λx y=>x.prod<=y.prod:=List.Pairwise.filter _ h;have u:((ls.filter λl=>decide (l.st=(q:Int))).map (·.prod)).Nodup:=by grind
 rw[agI,agz] at u;exact J.imp₂ (λ_ _ a b=>ω) u
theorem aeT(hA:bR g ss){ls:List iE}(p:ls.Perm (dt g nn ss))(h:nk (·.prod) ls){q t:Nat}(hq:q<ss.length)(ht:t<g.T):Je (pE g ss ss.length++tD ls ls.length) ⟨(q:Int),(t:Int)⟩=gf g nn ss q t:=by
 rw[Gn,atS hA hq ht,atL,aaD p h]
 ·rfl
 ·intro l hl;obtain⟨b,_,rfl⟩:=afW.1 (p.mem_iff.1 hl);exact UK
end
structure dH where
 df:List Int
 ac:fM
 tg:List Int
 gt:fM
abbrev FV:=ahr×Nat×Nat
abbrev fT(x:FV):Value:=vS x.1 x.2.1 x.2.2
structure PA where
 d:FV
 a1:FV
 a2:FV
 a3:FV
 t:FV
 g1:FV
 g2:FV
 g3:FV
def PA.cells(x:PA):List Value:=[fT x.d,fT x.a1,fT x.a2,fT x.a3,fT x.t,fT x.g1,fT x.g2,fT x.g3]
structure UM(h:Hp)(p:dH)(x:PA):Prop where
 d:aY h p.df x.d.1 x.d.2.1
 a:PkR h p.ac x.a1.1 x.a1.2.1 x.a2.1 x.a2.2.1 x.a3.1 x.a3.2.1
 t:aY h p.tg x.t.1 x.t.2.1
 g:PkR h p.gt x.g1.1 x.g1.2.1 x.g2.1 x.g2.2.1 x.g3.1 x.g3.2.1
theorem UM.mono{h h':Hp}{p:dH}{x:PA}(s:sub h h')(r:UM h p x):UM h' p x:=⟨r.d.mono s,r.a.mono s,r.t.mono s,r.g.mono s⟩
def MN(v:Int):aE:=if 0<v then⟨1,v-1⟩ else if v< -1 then⟨2,-1-v⟩ else if v<0 then⟨3,0⟩ else⟨4,0⟩
def bX(p:dH)(q t:Int):aE:=match atR p.ac q t with
 |some v=>MN v
 |none=>if 0<=q/\q<p.df.length/\0<p.df.getD q.toNat 0 then⟨2,p.df.getD q.toNat 0⟩ else⟨0,0⟩
def dI(p:dH)(q n:Int):Int:=match atR p.gt n q with
 |some v=>v
 |none=>if 0<=n/\n<p.tg.length then p.tg.getD n.toNat 0 else-1
theorem ac5{r:fM}{B:Int}(hb:∀x∈r.vs,-B<=x/\x<=B)(h0:0<=B){row place v:Int}(h:atR r row place=some v):-B<=v/\v<=B:=by
 unfold atR at h
 split at h
 ·cases h
 ·cases h;rw[afP];cases hx:r.vs[(DY r row+place).toNat]? with
  |none=>exact⟨by show-B<=0;omega,h0⟩
  |some x=>exact hb x (afI hx)
end
section
variable{w:ahs}{p:dH}{x:PA}
theorem XV(r:UM (hp w) p x)(q t:Int):ρ 423 [.agg ⟨x.cells⟩,iI q,iI t] w λv w'=>v=.agg ⟨[iI (bX p q t).kind,iI (bX p q t).to]⟩/\Gr w w':=by
 refine FM (ag (St.all w) λk1 w1 h1=>ag h1 λk2 w2 h2=>?_);have g2:Gr w w2:=h2.tail.aQ
 have Y:aj (hp w2) (aM k1) x.cells:=by
  obtain⟨h0,s,ha⟩:=h2.tail.first;exact(kM ha).mono s
 have a0:aj (hp w2) ((aM k1).add 1) [fT x.a1,fT x.a2,fT x.a3]:=(aj.drop (us:=[fT x.d]) Y).take (vs:=[fT x.t,fT x.g1,fT x.g2,fT x.g3]);refine⟨_,_,_,_,_,_,_,_,_,a0.at sZZ rfl,(aeE (r.a.mono g2) q t).mono ?_⟩;rintro _ X⟨rfl,g3⟩;have h3:=h2.gr g3;have gw:Gr w X:=g2.trans g3
 have U:∀(kd to:Int),bX p q t=⟨kd,to⟩->bC X (aM k2) [iI kd,iI to] λV=>∃n2 n3,rowAt V (aM k2) 0 2=some [iI n2,iI n3]/\(λv w'=>v=.agg ⟨[iI (bX p q t).kind,iI (bX p q t).to]⟩/\Gr w w') (vG [iI n2,iI n3]) V:=λkd to e=>by
  refine aL h3 rfl (by intro v hv;simp at hv;rcases hv with rfl|rfl<;>rfl) λV J=>⟨kd,to,?_,by rw[e],J.tail.aQ⟩;obtain⟨h0,s,ha⟩:=J.first;exact((kM ha).mono s).at sZZ rfl
 cases hA:atR p.ac q t with
 |some v=>
  have hp:bX p q t=MN v:=by unfold bX;rw[hA]
  obtain⟨b1,b2⟩:=ac5 r.a.bd (by decide) hA;refine⟨v,true,rfl,λ_=>False,⟨λb u=>b=decide (0<v)/\u=X,dL rfl ⟨rfl,rfl⟩,?_⟩,λ_ _ h=>h.elim⟩;rintro _ _ w4⟨rfl,rfl⟩
  refine ae (λO=>⟨⟨ω,ω⟩,U _ _ ?_⟩) λO=>⟨λb u=>b=decide (v< -1)/\u=w4,dL rfl ⟨rfl,rfl⟩,?_⟩
  ·rw[hp];unfold MN;rw[afZ (afO O)]
  have O:=afN O;rintro _ _ V⟨rfl,rfl⟩
  refine ae (λJ=>⟨⟨ω,ω⟩,U _ _ ?_⟩) λJ=>⟨λb u=>b=decide (v<0)/\u=V,dL rfl ⟨rfl,rfl⟩,?_⟩
  ·rw[hp];unfold MN;rw[afV O,afZ (afO J)]
  have J:=afN J;rintro _ _ w6⟨rfl,rfl⟩
  refine ae (λW=>U _ _ ?_) λW=>dL rfl (U _ _ ?_)
  ·rw[hp];unfold MN;rw[afV O,afV J,afZ (afO W)]
  ·rw[hp];unfold MN;rw[afV O,afV J,afV (afN W)]
 |none=>
  have hp:bX p q t=if 0<=q/\q<p.df.length/\0<p.df.getD q.toNat 0 then⟨2,p.df.getD q.toNat 0⟩ else⟨0,0⟩:=by unfold bX;rw[hA]
  have ed:=r.d.1;refine⟨0,false,rfl,λu=>u=X/\bX p q t=⟨0,0⟩,⟨λb u=>b=false/\u=X,bn rfl ⟨rfl,rfl⟩,?_⟩,λ_ u h=>by rw[h.1];exact U _ _ h.2⟩;rintro _ _ w4⟨rfl,rfl⟩;refine bn rfl ⟨λb u=>b=false/\u=w4,bn rfl ⟨rfl,rfl⟩,?_⟩;rintro _ _ V⟨rfl,rfl⟩;refine bn rfl ⟨λb u=>b=false/\u=V,bn rfl ⟨rfl,rfl⟩,?_⟩;rintro _ _ w6⟨rfl,rfl⟩
  refine bn rfl (bn rfl (ae (λO=>?_) λO=>⟨rfl,?_⟩))
  ·have O:=afO O
   refine⟨_,_,_,h3.tail.cell 0,ae (λJ=>?_) λJ=>⟨rfl,?_⟩⟩
   ·have J:=afO J;obtain⟨n,rfl⟩:∃n:Nat,q=n:=⟨q.toNat,ω⟩;obtain⟨ad,Z,cd⟩:=nB r.d (i:=n) ω
    refine⟨_,_,_,h3.tail.cell 0,ay Z ω ⟨_,cd _ gw,ae (λW=>?_) λW=>⟨rfl,?_⟩⟩⟩
    ·refine⟨_,_,_,h3.tail.cell 0,ay Z ω ⟨_,cd _ gw,U _ _ ?_⟩⟩;rw[hp,afZ ⟨ω,ω,afO W⟩];rfl
    ·rw[hp,afV (λhh=>afN W hh.2.2)]
   ·have J:=afN J;rw[hp,afV (λhh=>J ω)]
  ·have O:=afN O;rw[hp,afV (λhh=>O hh.1)]
theorem ac6(r:UM (hp w) p x)(q n:Int):ρ 424 [.agg ⟨x.cells⟩,iI q,iI n] w λv w'=>v=iI (dI p q n)/\Gr w w':=by
 refine JT (ag (St.all w) λY W V=>?_);have g1:Gr w W:=V.aQ
 have O:aj (hp W) (aM Y) x.cells:=by
  obtain⟨h0,s,ha⟩:=V.first;exact(kM ha).mono s
 have U:aj (hp W) ((aM Y).add 5) [fT x.g1,fT x.g2,fT x.g3]:=aj.drop (us:=[fT x.d,fT x.a1,fT x.a2,fT x.a3,fT x.t]) O;refine⟨_,_,_,_,_,_,_,_,_,U.at sZZ rfl,(aeE (r.g.mono g1) n q).mono ?_⟩;rintro _ w3⟨rfl,g3⟩;have Z:=V.gr g3;have gw:Gr w w3:=g1.trans g3;cases hA:atR p.gt n q with
 |some v=>
  have hp:dI p q n=v:=by unfold dI;rw[hA]
  exact⟨v,true,rfl,dL rfl ⟨by rw[hp],gw⟩⟩
 |none=>
  have hp:dI p q n=if 0<=n/\n<p.tg.length then p.tg.getD n.toNat 0 else-1:=by unfold dI;rw[hA]
  have et:=r.t.1
  refine⟨0,false,rfl,bn rfl (ae (λu=>?_) λu=>⟨?_,gw⟩)⟩
  ·have u:=afO u
   refine⟨_,_,_,by rw[ak];exact Z.cell 4,ae (λJ=>?_) λJ=>⟨?_,gw⟩⟩
   ·have J:=afO J;obtain⟨m,rfl⟩:∃m:Nat,n=m:=⟨n.toNat,ω⟩;obtain⟨ad,X,cd⟩:=nB r.t (i:=m) ω;refine⟨_,_,_,by rw[ak];exact Z.cell 4,ay X ω ⟨_,cd _ gw,?_,gw⟩⟩;rw[hp,afZ ⟨ω,ω⟩];rfl
   ·have J:=afN J;rw[hp,afV (λhh=>J ω)]
  ·have u:=afN u;rw[hp,afV (λhh=>u hh.1)]
end
section
variable{g:ah}{nn:List Bool}{ss:List SQ}{least:Nat}
theorem Im{q t:Nat}{c:cK}:c∈cellAt g nn ss least q t↔least<=(gf g nn ss q t).length/\c=⟨(q:Int),(t:Int),gf g nn ss q t⟩:=by simp[cellAt]
theorem El{q n:Nat}{c:cK}:c∈qD g nn ss least q n↔∃t,t<n/\least<=(gf g nn ss q t).length/\c=⟨(q:Int),(t:Int),gf g nn ss q t⟩:=by simp[qD,Im]
theorem tE{n:Nat}{c:cK}:c∈mZ g nn ss least n↔∃q t,q<n/\t<g.T/\least<=(gf g nn ss q t).length/\c=⟨(q:Int),(t:Int),gf g nn ss q t⟩:=by simp[mZ,El]
def cK.lt(a b:cK):Prop:=a.st<b.st\/a.st=b.st/\a.tm<b.tm
theorem K3{q:Nat}:∀n,(qD g nn ss least q n).Pairwise cK.lt
 |0=>by simp[qD]
 |n+1=>by
  rw[uM,List.pairwise_append]
  refine⟨K3 n,?_,λa ha b hb=>?_⟩
  ·unfold cellAt;split<;>simp
  ·obtain⟨t,h1,_,rfl⟩:=El.1 ha
   obtain⟨_,rfl⟩:=Im.1 hb
   exact .inr ⟨rfl,by simp_all⟩
theorem Em:∀n,(mZ g nn ss least n).Pairwise cK.lt
 |0=>by simp[mZ]
 |n+1=>by
  rw[Ba,List.pairwise_append]
  refine⟨Em n,K3 _,λa ha b hb=>?_⟩
  obtain⟨q,t,h1,_,_,rfl⟩:=tE.1 ha
  obtain⟨t',_,_,rfl⟩:=El.1 hb
  exact .inl (by simp_all)
theorem K4{q n:Nat}:(qD g nn ss least q n).length<=n:=by
 induction n with
 |zero=>simp[qD]
 |succ n ih=>
  grind[uM,List.length_append,cellAt]
theorem K5{n:Nat}:(mZ g nn ss least n).length<=n*g.T:=by
 induction n with
 |zero=>simp[mZ]
 |succ n ih=>
  grind[Ba,List.length_append,Nat.succ_mul,K4]
theorem XW{n i j:Nat}{a b:cK}(ha:(mZ g nn ss least n)[i]? =some a)(hb:(mZ g nn ss least n)[j]? =some b)(h1:a.st=b.st)(h2:a.tm=b.tm):i=j:=by
 have J:=agU.1 (Em (g:=g) (nn:=nn) (ss:=ss) (least:=least) n);obtain⟨hi,rfl⟩:=afK.1 ha;obtain⟨u,rfl⟩:=afK.1 hb
 grind[Nat.lt_trichotomy,cK.lt]
theorem Tg(q t:Nat):(UL ss q t).length<=1:=by grind[UL]
theorem Th(q t:Nat):(Vr ss q t).length<=1:=by grind[Vr]
theorem Ti{q t:Nat}:(P8 (dt g nn ss) q t).Pairwise λx y=>x.to<y.to:=by
 have e:P8 (dt g nn ss) q t=(((dt g nn ss).filter λl=>decide (l.st=(q:Int))).filter λl=>decide ((t:Int)∈l.tm)).map λl=>⟨2,l.prod⟩:=by simp[P8,List.filter_filter,Bool.and_comm]
 rw[e,agz];exact List.Pairwise.filter _ (K2 q)
theorem CH{l:iE}(h:l∈dt g nn ss):∃q m:Nat,q<ss.length/\m<g.prods.length/\m≠0/\l=nE g (Ro g nn ss) ⟨(q:Int),(m:Int),dz (bW g ss).length (gd g ss q m)⟩:=by
 obtain⟨b,hb,rfl⟩:=afW.1 h;obtain⟨q,m,U,V,rfl,J⟩:=MK hb;refine⟨q,m,U,V,λe=>?_,rfl⟩;subst e;obtain⟨z,O⟩:=agP _ J;obtain⟨u,_,W,hb⟩:=gb.1 O
 simp_all[bW,yD,qC]
theorem aaE{q t:Nat}:(P8 (dt g nn ss) q t).length<=g.prods.length:=by
 have h:=Ti (g:=g) (nn:=nn) (ss:=ss) (q:=q) (t:=t);have O:pq ((P8 (dt g nn ss) q t).map (·.to)):=by simp_all[pq,agz]
 have U:=Rs (B:=g.prods.length) O λz J=>by
  obtain⟨x,u,rfl⟩:=afW.1 J;unfold P8 at u;obtain⟨l,hl,rfl⟩:=afW.1 u;obtain⟨_,m,_,V,_,rfl⟩:=CH (agi.1 hl).1;exact⟨agu _,by show(m:Int)<_;omega⟩
 simp_all
theorem XX{q t:Nat}:(gf g nn ss q t).length<=g.prods.length+2:=by grind[gf,Tg,Th,aaE,List.length_append]
theorem Pf{q t:Nat}{x:aE}(h:x∈UL ss q t):x.kind=1/\dm ss q (t:Int)=some x.to:=by
 unfold UL at h
 grind
theorem Pg{q t:Nat}{x:aE}(h:x∈Vr ss q t):x=⟨3,0⟩/\t=0/\∃r,ss[q]? =some r/\(⟨0,1⟩:au)∈r.1.2:=by grind[Vr]
theorem Ph{ls:List iE}{q t:Nat}{x:aE}(h:x∈P8 ls q t):x.kind=2/\∃l∈ls,l.st=(q:Int)/\l.prod=x.to/\(t:Int)∈l.tm:=by
 unfold P8 at h
 grind
end
section
variable{a b c d:ahr}{i j k l m n o p:Nat}{A B C D:Int}{w:ahs}{R:Value->WP}
theorem CJ(h:new w (ψ a i j b k l c m n A d o p) λa b=>χ b (aM a) λa=>rE 114 [a,iI 2] b λa b=>∃c d e f,a=vU [vS c d e,iI f]/\R (vU [vS c d e,iI f]) b):ρ 45 [φ a i j b k l c m n A d o p] w R:=rv Tryz.func45 ⟨[],[],[],[]⟩ h
theorem Ep(h:new w (ψ a i j b k l c m n A d o p) λa b=>χ b (aM a) λa=>rE 114 [a,iI 1] b λa b=>∃c d e f,a=vU [vS c d e,iI f]/\R (vU [vS c d e,iI f]) b):ρ 105 [φ a i j b k l c m n A d o p] w R:=rv Tryz.func105 ⟨[],[],[],[]⟩ h
theorem FY(h:new w (ψ a i j b k l c m n A d o p) λa b=>χ b (aM a) λc=>rE 213 [c] b λb c=>∃d e f,b=vU [Value.map d,iI e,iI f]/\br (f !=0) (R (vU [vS none 0 0,iI f]) c) (τ [(9,lY),(23,aN)] λb f=>b none 0 0 0 c/\∀(_:ν) c g h i j,b c g h i j->bQ (i<e) (cLs j (aM a) λe k l=>τ [(9,lY),(29,aN)] λa e=>a c g h 0 j/\∀(_:ν) l m n o p,a l m n o p->bQ (o<(k:Int)) (aX Tryz.prog (Instr.lookup 369 (Value.map d) (vG [iI i,iI o]) false) p λb c=>∃d f g,b=vS d f g/\bQ (B<=(f:Int)) (new c (oC [iI i,iI o,vS d f g] 90) λb c=>rS (fX 83 (Array.mk [vS l m n,vS (some (aM b)) 1 1])) c λb c=>∃d f g,b=vS d f g/\aD (o+1)/\a d f g (o+1) c/\e d f g (o+1) c<e l m n o p) (aD (o+1)/\a l m n (o+1) c/\e l m n (o+1) c<e l m n o p)) (aD (i+1)/\b l m n (i+1) p/\f l m n (i+1) p<f c g h i j)) (R (vU [vS c g h,iI 0]) j))):ρ 114 [φ a i j b k l c m n A d o p,iI B] w R:=rv Tryz.func114 ⟨[(6,[(9,(.one .slice)),(23,(.one (.int .i64)))]),(9,[(9,(.one .slice)),(29,(.one (.int .i64)))])],[],[],[]⟩ h
theorem Es(h:new w (ψ a i j b k l c m n A d o p) λa b=>χ b (aM a) λc=>rE 41 [c] b λb c=>∃d e f g h i,b=vU [vG [vS d e f,iI g,iI h],iI i]/\new c (oC [vS none 0 0,iI 0,iI 0] 76) λb c=>bC c (aM b) [vS d e f,iI g,iI h] λc=>br (i !=0) (R (vU [Value.map none,iI 0,iI i]) c) (χ c (aM a) λd=>rE 42 [d] c λc d=>∃e f g h,c=vU [vS e f g,iI h]/\br (h !=0) (R (vU [Value.map none,iI 0,iI h]) d) (new d (Obj.map (Array.mk []) 0) λc d=>cLs d (aM b) λh i j=>τ [(37,aN)] λj k=>j 0 d/\∀(_:ν) d l,j d l->bQ (d<(i:Int)) (idx h i d 2 λb=>∃e f g h i m,rA l b 2 [vS e f g,vS h i m]/\new l (oC [vS none 0 0,vS none 0 0] 199) λb n=>bC n (aM b) [vS e f g,vS h i m] λe=>cLs e (Addr.add (aM b) 1) λf g h=>τ [(45,aN)] λh i=>h 0 e/\∀(_:ν) e m,h e m->bQ (e<(g:Int)) (idx f g e 2 λb=>∃f g,rA m b 2 [iI f,iI g]/\new m (oC [iI 0,iI 0] 203) λb j=>bC j (aM b) [iI f,iI g] λf=>cLi f (aM b) λg=>cLs f (aM a) λj k l=>bQ (g<(k:Int)) (cLi f (aM b) λa=>cLi f (Addr.add (aM b) 1) λg=>new f (oC [iI 1,iI g] 170) λb f=>rE 296 [Value.map (some c),vG [iI d,iI a],vS (some (aM b)) 1 1] f λa b=>a=vU []/\aD (e+1)/\h (e+1) b/\i (e+1) b<i e m) (aD (e+1)/\h (e+1) f/\i (e+1) f<i e m)) (cLs m (aM b) λa e f=>rEb 297 [vS a e f,vG [iI 0,iI 1]] m λe b=>br e (new b (oC [iI 3,iI 0] 170) λa b=>rE 296 [Value.map (some c),vG [iI d,iI 0],vS (some (aM a)) 1 1] b λa b=>a=vU []/\aD (d+1)/\j (d+1) b/\k (d+1) b<k d l) (aD (d+1)/\j (d+1) b/\k (d+1) b<k d l))) (rE 298 [vS e f g,Value.func (Fn.func 299) (Array.mk []) (Array.mk [])] l λa d=>a=vU []/\τ [(81,aN)] λa g=>a 0 d/\∀(_:ν) d h,a d h->bQ (d<(f:Int)) (idx e f d 3 λb=>∃e f i j k,rA h b 3 [iI e,iI f,vS i j k]/\new h (oC [iI 0,iI 0,vS none 0 0] 216) λb l=>bC l (aM b) [iI e,iI f,vS i j k] λe=>cLs e (Addr.add (aM b) 2) λf i j=>τ [(88,aN)] λj k=>j 0 e/\∀(_:ν) e l,j e l->bQ (e<(i:Int)) (idx f i e 1 λa=>cLi l a λd=>cLi l (aM b) λa=>cLi l (Addr.add (aM b) 1) λf=>new l (oC [iI 2,iI f] 170) λb f=>rE 296 [Value.map (some c),vG [iI a,iI d],vS (some (aM b)) 1 1] f λa b=>a=vU []/\aD (e+1)/\j (e+1) b/\k (e+1) b<k e l) (aD (d+1)/\a (d+1) l/\g (d+1) l<g d h)) (∀a,drawn h a->∃(d:WP),d a/\∃e f g,(∀a,d a->cL a (aM b) (vS e f g))/\R (vU [Value.map (some c),iI (f:Int),iI 0]) a))))):ρ 213 [φ a i j b k l c m n A d o p] w R:=rv Tryz.func213 ⟨[(9,[(37,(.one (.int .i64)))]),(12,[(45,(.one (.int .i64)))]),(22,[(81,(.one (.int .i64)))]),(25,[(88,(.one (.int .i64)))])],[],[],[]⟩ h
theorem zx{F:Option Nat}(h:new w (oC [iI A,iI B] 373) λb c=>∃d e,rA c (aM b) 2 [iI d,iI e]/\aX Tryz.prog (Instr.mapEntry 369 (Value.map F) (vG [iI d,iI e])) c λb c=>∃d e f g,b=vU [vS d e f,iI g]/\rS (fX 86 (Array.mk [vS d e f,vS a i j])) c λa b=>∃c d e,a=vS c d e/\aX Tryz.prog (Instr.entryStore 369 (Value.map F) (iI g) (vS c d e)) b λ(_:Unit)(a:ahs)=>R (vU []) a):ρ 296 [.map F,(.agg #[iI A,iI B]),vS a i j] w R:=rv Tryz.func296 ⟨[],[],[],[]⟩ h
abbrev qF:FuncId:=299
theorem zz(h:new w (oC [iI A,iI B,vS a i j] 216) λa c=>new c (oC [iI C,iI D,vS b k l] 216) λb c=>cLi c (Addr.add (aM a) 1) λd=>cLi c (Addr.add (aM b) 1) λa=>aD (d-a)/\R (iI (d-a)) c):ρ 299 [(.agg #[iI A,iI B,vS a i j]),(.agg #[iI C,iI D,vS b k l])] w R:=rv Tryz.func299 ⟨[],[],[],[]⟩ h
end
instance:nM iR:={ val:=λk=>.agg ⟨[iI k.st,iI k.tm]⟩,inj:=λa b h=>by cases a;simp_all,a:=iR.st,b:=iR.tm,val2:=λ_=>rfl,ext:=λk l h1 h2=>by cases k;simp_all }
def bD(x:aE):List Value:=[iI x.kind,iI x.to]
def di(xs:List aE):List Value:=xs.flatMap bD
theorem oq(xs:List aE):(di xs).length=xs.length*2:=pf (f:=bD) (n:=2) (λ_=>rfl) xs
theorem Tj(xs ys:List aE):di (xs++ys)=di xs++di ys:=agh
instance:tQ aE:={ n:=2,rd:=λ_ x vs=>vs=bD x,mono:=λ_ h=>h,len:=λh=>by rw[h];rfl }
def FZ(ps:List (iR×Lq aE))(pt:Ek):Prop:=(ps.map Prod.fst).Nodup/\∀p,jU p ps=Je pt p
theorem FZ.nil:FZ [] []:=⟨σ,λp=>rfl⟩
theorem FZ.put{ps:List (iR×Lq aE)}{pt:Ek}(h:FZ ps pt){p:iR}{a:aE}{q:Lq aE}(hq:q.2=jU p ps++[a]):FZ (pe p q ps) (pt++[(p,a)]):=by
 refine⟨Ml _ h.1,λk=>?_⟩;rw[mX,Gn]
 by_cases e:k=p
 ·subst e;rw[afZ rfl,hq,h.2];simp[Je]
 ·rw[afV e,h.2]
  grind[Je,Il]
section
variable{w:ahs}{L:List aC}{g:ah}{x:GA}
theorem UN:Two Tryz.prog wN dU { name:="state",type:=dU,offset:=0,embedded:=false,tag:="",pkgPath:="presage/table",byteOffset:=0 } { name:="term",type:=dU,offset:=1,embedded:=false,tag:="",pkgPath:="presage/table",byteOffset:=8 } where
 ht:=by kernel_rfl
 hf:=by kernel_rfl
 hi:=bL
 ht0:=rfl
 ht1:=rfl
 n0:=σ
 n1:=σ
 o0:=rfl
 o1:=rfl
 sih:=Fu
theorem K6:wM Tryz.prog wN iR:=wM.two UN
theorem XY{b ka:Nat}{ps:List (iR×Lq aE)}{pt:Ek}{q t:Int}{a:aE}(h:St w (az ka (bD a)::mapA b (mV ps)::aV (mO 2 di ps)::L))(hG:FZ ps pt)(hb:pt.length<=100000000):
  ρ 296 [.map (some b),.agg #[iI q,iI t],vS (some (aM ka)) 1 1] w λv w'=>v=.tuple #[]/\∃ps',FZ ps' (pt++[(⟨q,t⟩,a)])/\St w' (mapA b (mV ps')::aV (mO 2 di ps')::L):=by
 refine zx (ag h λk1 w1 h=>⟨_,_,(af 0 h.l).at sZZ rfl,?_⟩);refine(map_take (κ:=iR) aT (rfl:ai Ty _=.map _ _) K6 rfl rfl (h.pick 3 [2,0,1]) ⟨q,t⟩).mono ?_;rintro _ Y⟨n,rfl,h⟩;obtain⟨e,M,O,J,u,back⟩:=uB rfl (h.pick 4 [3,0,1,2]) ⟨q,t⟩
 have U:e.2.length<=pt.length:=by
  rw[J,hG.2];simp[Je,agp]
 rw[O] at u ⊢;refine⟨_,_,_,_,rfl,?_⟩;refine(aU (us:=di e.2) (vs:=bD a) aT (rfl:ai Ty _=.slice _) (rfl:ai Ty _=.slice _) rfl rfl rfl (u.pick 5 [4,0,1,2,3]) rfl (by simp[aK,bD]) (by grind) ω).mono ?_;rintro _ V⟨Z,W,rfl,h⟩;refine⟨_,_,_,rfl,(OY (h.pick 5 [3,0,2]) _).mono ?_⟩;rintro _ X h;rw[yC] at h;have h:=AP back (e.2++[a]) σ (by rw[Tj];rfl) h;exact⟨rfl,_,hG.put (by simp_all),h⟩
end
def ot(l:List Int):Int:=(0::l).getLast σ
abbrev TrR:=Option (Bool×List aE×List Int)
def trB(g:ah)(A:Int->Int->aE)(G:Int->Int->Int)(t:Int)(k:List Int->List aE->TrR)(l:List Int)(ms:List aE):TrR:=
 if(A (ot l) t).kind=1 then(if 64<=l.length then none else some (true,ms++[A (ot l) t],l))
 else if(A (ot l) t).kind=3 then some (true,ms++[A (ot l) t],l)
 else if(A (ot l) t).kind=2 then
  match g.prods[(A (ot l) t).to.toNat]? with
  |some p=>if 64<=l.length-p.right.length then none else k (l.take (l.length-p.right.length)++[G (ot (l.take (l.length-p.right.length))) (p.left-g.T)]) (ms++[A (ot l) t])
  |none=>none
 else some (false,ms,l)
def Vs(g:ah)(A:Int->Int->aE)(G:Int->Int->Int)(t:Int):Nat->List Int->List aE->TrR
 |0=>trB g A G t λ_ _=>none
 |n+1=>trB g A G t (Vs g A G t n)
structure aeU(T:TypeId)(v:Value)(H:Hp)(A:Int->Int->aE)(G:Int->Int->Int):Prop where
 act:∀(w:ahs)(q t:Int),sub H (hp w)->∃g cs,(callMethod (.iface T v) "presage/trial.action" (Array.mk [iI q,iI t])).run Tryz.prog w=.ok (.enter g ⟨cs⟩) w/\iK Tryz.prog Ev g cs w λu w'=>u=.agg ⟨bD (A q t)⟩/\Gr w w'
 tgt:∀(w:ahs)(q n:Int),sub H (hp w)->∃g cs,(callMethod (.iface T v) "presage/trial.target" (Array.mk [iI q,iI n])).run Tryz.prog w=.ok (.enter g ⟨cs⟩) w/\iK Tryz.prog Ev g cs w λu w'=>u=iI (G q n)/\Gr w w'
section
variable{w:ahs}{p:dH}{x:PA}
theorem aaF(r:UM (hp w) p x)(q t:Int):ρ lL [.agg ⟨x.cells⟩,iI q,iI t] w λv w'=>v=.agg ⟨bD (bX p q t)⟩/\Gr w w':=by
 refine s_ (ag (St.all w) λW w1 X=>ag X λk2 O J=>?_);have g2:Gr w O:=J.tail.aQ
 have u:aj (hp O) (aM W) x.cells:=by
  obtain⟨h0,s,ha⟩:=J.tail.first;exact(kM ha).mono s
 refine⟨_,_,_,_,_,_,_,_,_,_,_,_,_,_,_,_,_,_,_,_,_,_,_,_,u.at sZZ rfl,(XV (x:=x) (r.mono g2) q t).mono ?_⟩;rintro _ Y⟨rfl,g3⟩;refine⟨_,_,rfl,aL (J.gr g3) rfl (by intro v U;simp at U;rcases U with rfl|rfl<;>rfl) λZ V=>⟨_,_,?_,rfl,V.aev⟩⟩;obtain⟨h0,s,ha⟩:=V.first;exact((kM ha).mono s).at sZZ rfl
theorem aaG(r:UM (hp w) p x)(q n:Int):ρ lM [.agg ⟨x.cells⟩,iI q,iI n] w λv w'=>v=iI (dI p q n)/\Gr w w':=by
 refine te (ag (St.all w) λU O J=>?_);have g1:Gr w O:=J.aQ
 have u:aj (hp O) (aM U) x.cells:=by
  obtain⟨h0,s,ha⟩:=J.first;exact(kM ha).mono s
 refine⟨_,_,_,_,_,_,_,_,_,_,_,_,_,_,_,_,_,_,_,_,_,_,_,_,u.at sZZ rfl,(ac6 (x:=x) (r.mono g1) q n).mono ?_⟩;rintro _ V⟨rfl,g3⟩;exact⟨_,rfl,rfl,g1.trans g3⟩
theorem ac7{H:Hp}(r:UM H p x):aeU 379 (.agg ⟨x.cells⟩) H (bX p) (dI p) where
 act:=λw q t s=>⟨lL,[.agg ⟨x.cells⟩,iI q,iI t],by kernel_rfl,aaF (r.mono s) q t⟩
 tgt:=λw q n s=>⟨lM,[.agg ⟨x.cells⟩,iI q,iI n],by kernel_rfl,aaG (r.mono s) q n⟩
end
def fy(n j:Nat):List Bool:=Hc n λk=>decide (k<j)
theorem mw(n j:Nat):(fy n j).length=n:=sg _ _
theorem oJ{n j:Nat}(h:j<=n)(k:Nat):bt (fy n j) k=decide (k<j):=by grind[fy,Gb]
theorem E5{n j:Nat}(h:j<n):db (fy n j) [(j:Int)]=fy n (j+1):=by
 refine kO (by simp[bu,mw]) λk=>?_;rw[eF,mw,fY,oJ ω,oJ ω,agM]
 grind
theorem Pj{n:Nat}(h:n<=1000):yk (n:Int) []=fy n 0:=by
 have hN:Kx (n:Int)=n:=by grind[Kx]
 refine kO (by rw[LJ,hN,mw]) λk=>?_;simp[yk,eF,fY,qt,oJ]
def vW(bs:List Bool)(row:List Int):Bool:=row.all (hasB bs)
section
variable{w:ahs}{L:List aC}{g:ah}{x:GA}{a:ahr}{l c:Nat}{row:List Int}{q:ahr}{bs:List Bool}
theorem ac8{c0:Addr}{s:Int}(hc:w.cell? c0=some (.pointer q))(h:eH (hp w) q bs):ρ gY [iI s,.pointer (some c0)] w λv w'=>v=vB (!hasB bs s)/\w'=w:=by
 refine uD ?_;refine⟨_,hc,(KA h s).mono ?_⟩;simp
theorem XZ{c0:Addr}(hc:w.cell? c0=some (.pointer q))(h:eH (hp w) q bs)(hr:aY (hp w) row a l)(hb:l<=4611686018427387904):ρ 90 [vS a l c,.func (.func gY) #[] #[.pointer (some c0)]] w λv w'=>(∃n:Int,v=iI n/\(decide (0<=n)= !vW bs row))/\w'=w:=by
 refine bJ ?_;refine⟨λn w'=>∃j:Nat,n=j/\j<=l/\vW bs (row.take j)=true/\w'=w,λn _=>l-n.toNat,⟨0,rfl,ω,rfl,rfl⟩,?_⟩;rintro _ n Y⟨j,rfl,W,ha,rfl⟩
 refine ae (λu=>?_) λu=>?_
 ·have u:j<l:=by simp_all
  obtain⟨y,X,U,J,O⟩:=hr.dS u;refine ay J u ⟨y,O _ sZZ,a_.2 ⟨rfl,(ac8 hc h).mono ?_⟩⟩;rintro _ _⟨rfl,rfl⟩
  refine⟨_,rfl,ae (λV=>⟨⟨_,rfl,?_⟩,rfl⟩) λV=>⟨⟨ω,ω⟩,⟨j+1,σ,ω,?_,rfl⟩,bY u⟩⟩
  ·grind[vW,List.all_eq_false,List.mem_of_getElem?]
  simp_all[vW,cQ,List.all_append]
 ·have u:j=l:=by grind
  subst u;rw[af3 (by have:=hr.1;omega)] at ha
  simp_all
theorem X0{T:Int}(h:eH (hp w) q bs)(hr:aY (hp w) row a l)(hb:l<=4611686018427387904):ρ 173 [.agg #[.pointer q,iI T],vS a l c] w λv w'=>v=vB (vW bs row)/\Gr w w':=by
 refine zf ?_;refine ag (St.all w) λO u J=>?_;have g1:Gr w u:=J.aQ
 have key:ρ 126 [vS a l c,.func (.func gY) #[] #[.pointer (some ⟨O,0,none⟩)]] u λv w'=>v=vB (!vW bs row)/\w'=u:=by
  refine bV ?_;refine(XZ (J.cell 0) (h.mono g1) (hr.mono g1) hb).mono ?_
  simp_all
 refine key.mono ?_
 simp_all
theorem X2(hg:gR (hp w) g x)(hT:g.T<=65)(hN:g.N<=65):ρ 259 [.agg ⟨x.cells⟩] w λv w'=>∃pb:Nat,v=.agg #[.pointer (some ⟨pb,0,none⟩),iI (g.T:Int)]/\St w' (cN (some ⟨pb,0,none⟩) (fy (g.T+g.N) g.T)::all w):=by
 refine HL ?_;refine gH hg λk1 w1 gw hg B=>?_;have tl:g.T=x.tl:=hg.t.1;have nl:g.N=x.nl:=hg.n.1;have gs:sub (hp w) (hp w1):=gw;have h1:=St.all w1;unfold Proofs.YtaoaemnefghnbaaGreatDoor.all at h1;generalize hH:hp w1=H at*;refine ag h1 λk2 w2 h=>λw3 hd=>?_;have h:=h.drawn hd;have eN:(x.tl:Int)+(x.nl:Int)=((g.T+g.N:Nat):Int):=ω
 refine⟨λw=>sub H (hp w),aA 1 h.l,_,_,_,λw s=>B.c0 s,_,_,_,λw s=>B.c1 s,⟨ω,ω⟩,_,_,_,λw s=>B.c0 s,?_,?_⟩
 ·rw[eN];refine(Ud (xs:=[]) (l:=0) ((g.T+g.N:Nat):Int) (bp rfl (.inl rfl)) ω).mono ?_;rintro _ w7⟨pb,rfl,Z⟩;have h:=Z.fb h;refine⟨_,rfl,aA 2 h.l,ag h λU w8 h=>⟨aA 3 h.l,aL h rfl (by simp[aK]) λw9 h=>?_⟩⟩;rw[Pj ω] at h;refine⟨_,_,_,B.c0 (aA 3 h.l),?_⟩;refine⟨λn w'=>∃j:Nat,n=j/\j<=g.T/\St w' [cN (some ⟨pb,0,none⟩) (fy (g.T+g.N) j),az U [.pointer (some ⟨pb,0,none⟩),iI (x.tl:Int)],az k2 [vP none,iI 0],has H],λn _=>g.T-n.toNat,⟨0,rfl,ω,h.pick 4 [1,0,2,3]⟩,?_⟩;clear h;rintro _ n J⟨j,rfl,hj,h⟩;have O:aj (hp J) ⟨U,0,none⟩ [.pointer (some ⟨pb,0,none⟩),iI (x.tl:Int)]:=af 1 h.l
  refine ae (λu=>?_) λu=>?_
  ·have u:j<g.T:=by simp_all
   refine⟨_,O.cell0 sZZ,ag h λV X h=>?_⟩;refine(zP (xs:=[(j:Int)]) (l:=1) (h.pick 5 [1,0,2,3,4]) (λh hh=>bp rfl (.inr ⟨_,rfl,af 0 hh⟩)) ω).mono ?_;rintro _ Y⟨rfl,h⟩;rw[E5 ω] at h;exact⟨_,rfl,⟨ω,ω⟩,⟨j+1,σ,ω,h.pick 5 [0,2,3,4]⟩,bY u⟩
  ·have u:j=g.T:=by grind
   subst u;refine⟨_,_,O.at sZZ rfl,aL (h.pick 4 [2,0,1,3]) rfl (by simp[aK]) λW h=>?_⟩;exact⟨_,_,h.row.at sZZ rfl,pb,by grind,(h.pick 4 [1,3]).fb (bH gs)⟩
 ·refine ag h λU w8 h=>⟨aA 2 h.l,?_⟩;rw[eN];refine(Ud (xs:=[]) (l:=0) ((g.T+g.N:Nat):Int) (bp rfl (.inl rfl)) ω).mono ?_;rintro _ w7⟨pb,rfl,Z⟩;have h:=Z.fb h;refine⟨_,rfl,aA 3 h.l,aL (h.pick 4 [1,0,2,3]) rfl (by simp[aK]) λw9 h=>?_⟩;rw[Pj ω] at h;refine⟨_,_,_,B.c0 (aA 3 h.l),?_⟩;refine⟨λn w'=>∃j:Nat,n=j/\j<=g.T/\St w' [cN (some ⟨pb,0,none⟩) (fy (g.T+g.N) j),az U [.pointer (some ⟨pb,0,none⟩),iI (x.tl:Int)],az k2 [vP none,iI 0],has H],λn _=>g.T-n.toNat,⟨0,rfl,ω,h.pick 4 [1,0,2,3]⟩,?_⟩;clear h;rintro _ n J⟨j,rfl,hj,h⟩;have O:aj (hp J) ⟨U,0,none⟩ [.pointer (some ⟨pb,0,none⟩),iI (x.tl:Int)]:=af 1 h.l
  refine ae (λu=>?_) λu=>?_
  ·have u:j<g.T:=by simp_all
   refine⟨_,O.cell0 sZZ,ag h λV X h=>?_⟩;refine(zP (xs:=[(j:Int)]) (l:=1) (h.pick 5 [1,0,2,3,4]) (λh hh=>bp rfl (.inr ⟨_,rfl,af 0 hh⟩)) ω).mono ?_;rintro _ Y⟨rfl,h⟩;rw[E5 ω] at h;exact⟨_,rfl,⟨ω,ω⟩,⟨j+1,σ,ω,h.pick 5 [0,2,3,4]⟩,bY u⟩
  ·have u:j=g.T:=by grind
   subst u;refine⟨_,_,O.at sZZ rfl,aL (h.pick 4 [2,0,1,3]) rfl (by simp[aK]) λW h=>?_⟩;exact⟨_,_,h.row.at sZZ rfl,pb,by grind,(h.pick 4 [1,3]).fb (bH gs)⟩
end
inductive Pd (g:ah):Int->Prop
 |tm (t:Nat):t<g.T->Pd g (t:Int)
 |mk (p:aO):p∈g.prods->(∀s∈p.right,Pd g s)->Pd g p.left
def Zm(g:ah)(row:List Int):Prop:=∀s∈row,Pd g s
inductive Us (g:ah):Int->Prop
 |start:Pd g g.start->Us g g.start
 |zero:ax g->Pd g g.start->Us g (g.T:Int)
 |pr (p:aO) (s:Int):p∈g.prods->Us g p.left->Zm g p.right->s∈p.right->Us g s
theorem tF{g:ah}(h:bZ g):(g.T:Int)<=g.start/\g.start<(g.T:Int)+g.N:=by
 rcases h with⟨s,p,_⟩|⟨h0,s,p,q,O,u,U,J⟩
 ·have:=p.2.2.2.2;omega
 ·have:=p.2.2.2.2;omega
theorem tG{bs:List Bool}{s:Int}(h:0<=s):hasB bs s=bt bs s.toNat:=by simp_all[hasB]
theorem Iq{g:ah}{bs:List Bool}{row:List Int}(hr:∀s∈row,0<=s/\s<(g.T:Int)+g.N):vW bs row=true↔∀s∈row,bt bs s.toNat=true:=by simp_all[vW,tG]
def X3(g:ah)(bs:List Bool):Prop:=bs.length=g.T+g.N/\∀i,bt bs i=true↔Pd g (i:Int)
def UsP(g:ah)(bs:List Bool):Prop:=bs.length=g.T+g.N/\∀i,bt bs i=true↔(i<g.T\/Us g (i:Int))
theorem X3.all{g:ah}{bs:List Bool}(h:X3 g bs){row:List Int}(hr:∀s∈row,0<=s/\s<(g.T:Int)+g.N):vW bs row=true↔Zm g row:=by
 rw[Iq hr]
 refine forall_congr' λs=>⟨λk u=>?_,λk u=>?_⟩
 ·have:=(h.2 _).1 (k u);grind
 ·exact(h.2 _).2 (by grind)
def X4(p:aO)(bs:List Bool):List Bool:=if vW bs p.right then db bs [p.left] else bs
def Nd(may:List Bool)(p:aO)(bs:List Bool):List Bool:=if hasB bs p.left&&vW may p.right then db bs p.right else bs
theorem cW{bs:List Bool}{xs:List Int}{k:Nat}:bt (db bs xs) k=true↔bt bs k=true\/(k<bs.length/\(k:Int)∈xs):=by
 rw[eF,fY,agA,afX,aga,List.contains_iff_mem]
def PdJ(g:ah)(bs:List Bool):Prop:=bs.length=g.T+g.N/\(∀i,bt bs i=true->Pd g (i:Int))/\∀t,t<g.T->bt bs t=true
theorem PdJ.step{g:ah}(iG:SV g){p:aO}(hp:p∈g.prods){bs:List Bool}(h:PdJ g bs):PdJ g (X4 p bs):=by
 unfold X4
 split
 ·rename_i ha;obtain⟨hl,u⟩:=iG p hp;refine⟨by rw[bu];exact h.1,λi hi=>?_,λt ht=>cW.2 (.inl (h.2.2 t ht))⟩
  rcases cW.1 hi with hi|⟨_,hi⟩
  ·exact h.2.1 i hi
  ·rw[af_] at hi;rw[hi];refine .mk p hp λs J=>?_;have:=h.2.1 _ ((Iq (g:=g) u).1 ha s J)
   grind
 omega
theorem PdJ.all{g:ah}(iG:SV g){bs:List Bool}(h:PdJ g bs)(hc:∀p∈g.prods,X4 p bs=bs):X3 g bs:=by
 refine⟨h.1,λi=>⟨h.2.1 i,λhi=>?_⟩⟩
 have key:∀s,Pd g s->bt bs s.toNat=true:=λs J=>by
  induction J with
  |tm t ht=>exact h.2.2 t ht
  |mk p hp _ ih=>
   obtain⟨hl,u⟩:=iG p hp;have ha:vW bs p.right=true:=(Iq (g:=g) u).2 ih;have:=hc p hp;unfold X4 at this;rw[afZ ha] at this;rw[<-this];exact cW.2 (.inr ⟨by rw[h.1];omega,by grind⟩)
 grind
def X5(g:ah)(bs:List Bool):Prop:=bs.length=g.T+g.N/\(∀i,bt bs i=true->i<g.T\/Us g (i:Int))/\(∀t,t<g.T->bt bs t=true)/\(Pd g g.start->bt bs g.start.toNat=true/\(ax g->bt bs g.T=true))
theorem X5.step{g:ah}(iG:SV g){may:List Bool}(hm:X3 g may){p:aO}(hp:p∈g.prods){bs:List Bool}(h:X5 g bs):X5 g (Nd may p bs):=by
 unfold Nd
 split
 ·rename_i ha;rw[afX] at ha;obtain⟨hl,U⟩:=iG p hp;refine⟨by rw[bu];exact h.1,λi hi=>?_,λt ht=>cW.2 (.inl (h.2.2.1 t ht)),λO=>⟨cW.2 (.inl (h.2.2.2 O).1),λhc=>cW.2 (.inl ((h.2.2.2 O).2 hc))⟩⟩
  rcases cW.1 hi with hi|⟨_,hi⟩
  ·exact h.2.1 i hi
  ·have J:=ha.1;rw[tG ω] at J;have u:=h.2.1 _ J;rw[jX ω] at u
   rcases u with u|u
   ·omega
   ·exact .inr (.pr p _ hp u ((hm.all U).1 ha.2) hi)
 omega
theorem X5.all{g:ah}(he:bZ g){may:List Bool}(hm:X3 g may){bs:List Bool}(h:X5 g bs)(hc:∀p∈g.prods,Nd may p bs=bs):UsP g bs:=by
 obtain⟨U,Y,bN,pN,X,Z⟩:=Jc he;have J:=tF he;refine⟨h.1,λi=>⟨h.2.1 i,?_⟩⟩
 have key:∀s,Us g s->bt bs s.toNat=true:=λs u=>by
  induction u with
  |start hp=>exact(h.2.2.2 hp).1
  |zero hc' hp=>have:=(h.2.2.2 hp).2 hc';simp_all
  |pr p s hp _ hr' u ih=>
   obtain⟨hl,O⟩:=U p hp;have:=hc p hp;unfold Nd at this;have V:hasB bs p.left=true:=by grind[tG]
   rw[afZ (by rw[V,(hm.all O).2 hr'];rfl)] at this;rw[<-this];exact cW.2 (.inr ⟨by rw[h.1];simp_all,by grind⟩)
 rintro(ht|W)
 ·exact h.2.2.1 i ht
 grind
section
variable{w:ahs}{L:List aC}{g:ah}{x:GA}{a:ahr}{l c:Nat}{row:List Int}{q:ahr}{bs:List Bool}
theorem Gp{H:Hp}{fg:FuncId}{fc:List Value}{J:List Bool->Prop}{st:aO->List Bool->List Bool}{bs0:List Bool}(hg:gR H g x)(hP:g.prods.length<=97)(hF:Fn fg=true)
  (hlen:∀p bs,(st p bs).length=bs.length) (hle:∀p bs k,bt bs k=true->bt (st p bs) k=true) (hJ:∀p∈g.prods,∀bs,J bs->J (st p bs)) (hb0:bs0.length<=1000)
  (hst:∀H',sub H H'->∀p∈g.prods,∀bs a l c w,J bs->aY H' p.right a l->St w [cN q bs,has H']->ρ fg (.agg #[iI p.left,vS a l c,iI p.level]::fc) w λv w'=>v=iI ((bF (st p bs):Int)-bF bs)/\St w' [cN q (st p bs),has H'])
  (hJ0:J bs0) (h:St w [cN q bs0,has H]):ρ 260 [.agg ⟨x.cells⟩,.func (.func fg) #[] ⟨fc⟩] w λv w'=>v=.tuple #[]/\∃bs,J bs/\bs.length=bs0.length/\(∀p∈g.prods,st p bs=bs)/\St w' [cN q bs,has H]:=by
 refine FQ ?_;refine ag h λk1 w1 h1=>?_;obtain⟨Z,a0,_,h⟩:=h1.swap.freeze;have sH:sub H Z:=aA 1 a0;have B:GB Z k1 x:=abM (af 0 a0);have hg:=hg.mono sH;have pl:=hg.p.1;clear h1;have a9:∀p bs,bF bs<=bF (st p bs):=λp bs=>by simp_all[bF,yy]
 obtain⟨Q,hQ⟩:=yz (λ(n:Int)(w:ahs)(m:Nat)=>∃bs:List Bool,J bs/\bs.length=bs0.length/\0<=n/\m=OW bs+(if 0<n then 1 else 0)/\(n=0->∀p∈g.prods,st p bs=bs)/\St w [cN q bs,has Z]);obtain⟨μ,aa,a8⟩:=HV (λ(y:Int×ahs) m=>Q y.1 y.2 m)
 refine⟨λn w'=>∃m,Q n w' m,λn w=>μ (n,w),⟨OW bs0+1,?_⟩,?_⟩
 ·rw[hQ]
  grind
 clear h;intro _ n w2 V;have V:=a8 (n,w2) V;dsimp only at V;generalize hμ:μ (n,w2)=μ0 at*;rw[hQ] at V;obtain⟨bs,a4,X,hn,am,hc,h⟩:=V;refine ae (λu=>?_) λu=>?_
 rotate_left
 ·have u:=afN u;exact⟨rfl,bs,a4,X,hc ω,h.fb (bH sH)⟩
 have u:=afO u;rw[afZ u] at am;refine⟨_,_,_,B.c4 (aA 1 h.l),λn m w'=>∃(j:Nat)(cs:List Bool),m=j/\j<=g.prods.length/\J cs/\cs.length=bs0.length/\n=(bF cs:Int)-bF bs/\(∀k,bt bs k=true->bt cs k=true)/\(cs=bs->∀p∈g.prods.take j,st p bs=bs)/\St w' [cN q cs,has Z],λ_ m _=>g.prods.length-m.toNat,⟨0,bs,rfl,ω,a4,X,ω,λ_ h=>h,σ,h⟩,?_⟩;clear h;rintro _ n2 n3 w3⟨j,cs,rfl,hj,Y,W,rfl,O,a6,h⟩;have b4:bF bs<=bF cs:=by unfold bF;rw[W,X];exact(yy O _).1
 have b3:=im cs;have b2:=im bs;refine ae (λU=>?_) λU=>?_
 rotate_left
 ·have U:j=g.prods.length:=by grind
  subst U;rw[af7] at a6
  have key:Q ((bF cs:Int)-bF bs) w3 (OW cs+(if(0:Int)<(bF cs:Int)-bF bs then 1 else 0)):=by
   rw[hQ];refine⟨cs,Y,W,ω,rfl,λh0=>?_,h⟩;have e:cs=bs:=HW ω O ω
   grind
  refine⟨⟨_,key⟩,?_⟩;have:=aa (_,w3) _ key
  grind[OW]
 have U:j<g.prods.length:=by grind
 obtain⟨p,ad,vs,a7,av,al,ra,rl,rc,rfl,b5,b1⟩:=hg.p.get (i:=j) ω;have a5:=afI a7;have et:g.prods.take (j+1)=g.prods.take j++[p]:=by grind[List.take_add_one]
 refine aJ av ω ⟨_,_,_,_,_,al.at (aA 1 h.l) rfl,ag h λk6 w4 h=>aL h rfl (by simp[aK]) λw5 h=>⟨_,_,_,_,_,h.row.at sZZ rfl,a_.2 ⟨hF,?_⟩⟩⟩;have h:St w5 [cN q cs,has Z]:=h.pick 3 [1,2];refine(hst Z sH p a5 cs ra rl rc w5 Y b1 h).mono ?_;rintro _ w6⟨rfl,h⟩;have h3:=a9 p cs;have h4:=im (st p cs);rw[hlen] at h4;refine⟨_,rfl,⟨ω,ω⟩,⟨ω,ω⟩,⟨j+1,st p cs,σ,ω,hJ p a5 cs Y,by grind,ω,λk hk=>hle p cs k (O k hk),λe r hr=>?_,h⟩,bY U⟩
 have e1:cs=bs:=by
  refine HW ω O ?_
  grind
 grind
theorem aaH{H:Hp}{k11:Nat}{T:Int}{p:aO}(hb7:p.right.length<=17592186043904)(hc:aj H ⟨k11,0,none⟩ [.pointer q,iI T])(hr:aY H p.right a l)(h:St w [cN q bs,has H]):
  ρ lO [.agg #[iI p.left,vS a l c,iI p.level],.pointer (some ⟨k11,0,none⟩)] w λv w'=>v=iI ((bF (X4 p bs):Int)-bF bs)/\St w' [cN q (X4 p bs),has H]:=by
 refine tt ?_;have X:=hr.1;refine ag h λW J h=>?_;have O:sub H (hp J):=aA 2 h.l;have U:aj (hp J) ⟨W,0,none⟩ [iI p.left,vS a l c,iI p.level]:=af 0 h.l;have V:eH (hp J) q bs:=h.swap.eH;refine⟨_,_,hc.at O rfl,_,_,_,U.cell sZZ (j:=1) rfl,(X0 V (hr.mono O) ω).mono ?_⟩;rintro _ w2⟨rfl,g2⟩;have h:=h.gr g2
 refine⟨_,rfl,ae (λu=>?_) λu=>?_⟩
 ·have u:vW bs p.right=false:=by simp_all
  unfold X4;rw[u];exact⟨σ,h.pick 3 [1,2]⟩
 ·have u:vW bs p.right=true:=by simp_all
  refine⟨_,hc.cell0 (aA 2 h.l),_,(U.mono g2).cell0 sZZ,ag h λk4 Z h=>?_⟩;refine(zP (xs:=[p.left]) (l:=1) (h.pick 4 [2,0,3]) (λh Y=>bp rfl (.inr ⟨_,rfl,af 0 Y⟩)) ω).mono ?_;rintro _ w4⟨rfl,h⟩;unfold X4;rw[afZ u];exact⟨_,rfl,rfl,h.pick 3 [0,2]⟩
theorem Rv{H:Hp}{k12 k2:Nat}{T T2:Int}{q2:ahr}{may:List Bool}{p:aO}(hb7:p.right.length<=17592186043904)(hc:aj H ⟨k12,0,none⟩ [.pointer q,iI T])(hc2:aj H ⟨k2,0,none⟩ [.pointer q2,iI T2])(hm:eH H q2 may)(hr:aY H p.right a l)(h:St w [cN q bs,has H]):
  ρ gF [.agg #[iI p.left,vS a l c,iI p.level],.pointer (some ⟨k12,0,none⟩),.pointer (some ⟨k2,0,none⟩)] w λv w'=>v=iI ((bF (Nd may p bs):Int)-bF bs)/\St w' [cN q (Nd may p bs),has H]:=by
 refine zh ?_;have Y:=hr.1;refine ag h λX V h=>?_;have O:sub H (hp V):=aA 2 h.l;have U:aj (hp V) ⟨X,0,none⟩ [iI p.left,vS a l c,iI p.level]:=af 0 h.l;have W:eH (hp V) q bs:=h.swap.eH;refine⟨_,hc.cell0 O,_,U.cell0 sZZ,(KA W p.left).mono ?_⟩;rintro _ _⟨rfl,rfl⟩
 refine⟨_,rfl,ae (λJ=>?_) λJ=>?_⟩
 ·have J:hasB bs p.left=false:=by simp_all
  unfold Nd;rw[J,Bool.false_and,afV σ];exact⟨σ,h.pick 3 [1,2]⟩
 have J:hasB bs p.left=true:=by simp_all
 refine⟨_,_,hc2.at O rfl,_,_,_,U.cell sZZ (j:=1) rfl,(X0 (hm.mono O) (hr.mono O) ω).mono ?_⟩;rintro _ w3⟨rfl,g3⟩;have h:=h.gr g3
 refine⟨_,rfl,ae (λu=>?_) λu=>?_⟩
 ·have u:vW may p.right=false:=by simp_all
  unfold Nd;rw[u,Bool.and_false,afV σ];exact⟨σ,h.pick 3 [1,2]⟩
 ·have u:vW may p.right=true:=by simp_all
  refine⟨_,hc.cell0 (aA 2 h.l),_,_,_,(U.mono g3).cell sZZ (j:=1) rfl,?_⟩;refine(zP (xs:=p.right) (l:=l) (h.pick 3 [1,2]) (λh Z=>hr.mono (aA 0 Z)) ω).mono ?_;rintro _ w4⟨rfl,h⟩;unfold Nd;rw[J,u,Bool.and_self,afZ rfl];exact⟨_,rfl,rfl,h⟩
end
def u7(T N:Nat)(ks:List Nat):List Bool:=Hc N λk=>decide (k<N)&&decide (T+k∈ks)
theorem kq(T N:Nat)(ks:List Nat):(u7 T N ks).length=N:=sg _ _
theorem tH{T N:Nat}{ks:List Nat}(k:Nat):bt (u7 T N ks) k=(decide (k<N)&&decide (T+k∈ks)):=by grind[u7,Gb]
theorem Ir{T N m:Nat}{ks:List Nat}(h:m<T):u7 T N (ks++[m])=u7 T N ks:=
 kO (by simp[kq]) λk=>by
  rw[tH,tH,agM]
  grind
theorem Is{T N m:Nat}{ks:List Nat}(h:T<=m)(h2:m<T+N):(u7 T N ks).set (m-T) true=u7 T N (ks++[m]):=
 kO (by simp[kq]) λk=>by
  rw[HX (by grind[kq]),tH,tH,agM]
  grind
theorem Et{T N:Nat}{bs:List Bool}(h:bs.length=T+N):u7 T N (mb bs)=bs.drop T:=
 kO (by grind[kq,List.length_drop]) λk=>by
  rw[tH,fx,agM]
  simp only[afX,aga,tW]
  exact⟨λh=>h.2,λh'=>⟨by have:=LN h';omega,h'⟩⟩
theorem Eu(T N:Nat):u7 T N []=List.replicate N false:=
 kO (by rw[kq,agT]) λk=>by simp[tH,qt]
section
variable{w:ahs}{L:List aC}{g:ah}{x:GA}{a:ahr}{l c:Nat}{row:List Int}{q:ahr}{bs:List Bool}
theorem uN(hg:gR (hp w) g x)(hb:mi g)(he:bZ g):ρ 167 [.agg ⟨x.cells⟩] w λv w'=>∃(pb:Nat)(bs:List Bool),v=.agg #[.pointer (some ⟨pb,0,none⟩),iI (g.T:Int)]/\X3 g bs/\St w' (cN (some ⟨pb,0,none⟩) bs::all w):=by
 refine xK ?_;refine gH hg λk1 V gw hg B=>?_;obtain⟨Y,Z,bN,pN,pT,bP⟩:=Jc he;have gs:sub (hp w) (hp V):=gw;have X:=St.all V;unfold Proofs.YtaoaemnefghnbaaGreatDoor.all at X;generalize hH:hp V=H at*;refine ag X λk2 w2 h=>?_;refine⟨_,_,_,_,_,_,_,_,_,_,_,_,_,B.row (aA 1 h.l),(X2 (x:=x) (hg.mono (aA 1 h.l)) Z bN).mono ?_⟩;rintro _ w3⟨pb,rfl,h3⟩;have h:=h3.fb h;refine⟨_,_,rfl,ag h λu w4 h=>aL h rfl (by simp[aK]) λw5 h=>?_⟩;refine⟨_,_,_,_,_,_,_,_,_,_,_,_,_,B.row (aA 3 h.l),?_⟩;obtain⟨h0,hl,_,h⟩:=(h.pick 4 [1,0,2,3]).freeze;have hc:aj h0 ⟨u,0,none⟩ [.pointer (some ⟨pb,0,none⟩),iI (g.T:Int)]:=af 0 hl
 refine(Gp (J:=PdJ g) (st:=X4) (fg:=lO) (fc:=[.pointer (some ⟨u,0,none⟩)]) (hg.mono (aA 2 hl)) bP rfl (λp bs=>by grind[X4,bu]) (λp bs k hk=>by grind[X4,cW]) (λp hp bs O=>O.step Y hp) (by grind[mw]) (λH' s p hp bs a l c w O hr h=>aaH (hb.2.2.2.2.2.2 p hp) (hc.mono s) hr h) ⟨mw _ _,λi hi=>?_,λt ht=>?_⟩ h).mono ?_
 ·rw[oJ ω] at hi;exact .tm i (by simp_all)
 ·simp_all[oJ]
 rintro _ w6⟨rfl,bs,O,_,U,h⟩;have h:=h.fb hl;have W:aj (hp w6) ⟨u,0,none⟩ [.pointer (some ⟨pb,0,none⟩),iI (g.T:Int)]:=af 1 h.l;refine⟨rfl,_,_,W.at sZZ rfl,aL (h.pick 4 [2,0,3]) rfl (by simp[aK]) λw7 h=>⟨_,_,h.row.at sZZ rfl,pb,bs,rfl,O.all Y U,(h.pick 3 [1,2]).fb (bH gs)⟩⟩
theorem It{may:List Bool}(hg:gR (hp w) g x)(hb:mi g)(he:bZ g)(hm:eH (hp w) q may)(hp':X3 g may):ρ 169 [.agg ⟨x.cells⟩,.agg #[.pointer q,iI (g.T:Int)]] w λv w'=>∃(pb:Nat)(bs:List Bool),v=.agg #[.pointer (some ⟨pb,0,none⟩),iI (g.T:Int)]/\UsP g bs/\St w' (cN (some ⟨pb,0,none⟩) bs::all w):=by
 refine D7 ?_;refine gH hg λk1 w1 gw hg B=>?_;obtain⟨iG,bT,bN,pN,pT,bP⟩:=Jc he;obtain⟨a9,a8⟩:=tF he;have tl:g.T=x.tl:=hg.t.1;have gs:sub (hp w) (hp w1):=gw;have hm:=hm.mono gs;have h1:=St.all w1;unfold Proofs.YtaoaemnefghnbaaGreatDoor.all at h1;have a0:=hg.s;generalize hH:hp w1=H at*;refine ag h1 λk2 w2 h=>ag h λk3 w3 h=>?_;refine⟨_,_,_,_,_,_,_,_,_,_,_,_,_,B.row (aA 2 h.l),(X2 (x:=x) (hg.mono (aA 2 h.l)) bT bN).mono ?_⟩;rintro _ w4⟨pb,rfl,h4⟩;have h:=h4.fb h;refine⟨_,_,rfl,ag h λu w5 h=>aL h rfl (by simp[aK]) λw6 h=>?_⟩;have h:St w6 [az u [.pointer (some ⟨pb,0,none⟩),iI (g.T:Int)],cN (some ⟨pb,0,none⟩) (fy (g.T+g.N) g.T),az k3 [vP none,iI 0],az k2 [.pointer q,iI (g.T:Int)],has H]:=h;have h:=h.pick 5 [1,0,3,2,4];have j0:(fy (g.T+g.N) g.T).length=g.T+g.N/\(∀i,bt (fy (g.T+g.N) g.T) i=true->i<g.T\/Us g (i:Int))/\∀t,t<g.T->bt (fy (g.T+g.N) g.T) t=true:=by simp_all[mw,oJ]
 have c2:w6.cell? ⟨k2,0,none⟩=some (.pointer q):=(af (b:=k2) (vs:=[.pointer q,iI (g.T:Int)]) 2 h.l).cell0 sZZ;refine⟨_,c2,_,B.c3 (aA 4 h.l),?_⟩;rw[a0];refine(KA (hm.mono (aA 4 h.l)) g.start).mono ?_;rintro _ w7⟨rfl,rfl⟩
 have a7:hasB may g.start=true↔Pd g g.start:=by
  rw[tG ω,hp'.2,jX ω]
 refine⟨_,rfl,ae (λhh=>?_) λhh=>?_⟩
 ·have hP:=a7.1 hh;have O:aj (hp w7) ⟨u,0,none⟩ [.pointer (some ⟨pb,0,none⟩),iI (g.T:Int)]:=af 1 h.l;refine⟨_,O.cell0 sZZ,_,B.c3 (aA 4 h.l),ag h λam w8 h=>?_⟩;refine(zP (xs:=[x.s]) (l:=1) (h.pick 6 [1,0,2,3,4,5]) (λh hh=>bp rfl (.inr ⟨_,rfl,af 0 hh⟩)) ω).mono ?_;rintro _ w9⟨rfl,h⟩;have h:=h.pick 6 [0,2,3,4,5];rw[a0] at h;refine⟨_,rfl,_,_,_,_,_,_,_,_,_,_,_,_,_,B.row (aA 4 h.l),(sx (x:=x) (hg.mono (aA 4 h.l)) hb).mono ?_⟩;rintro _ a5⟨⟨r,rfl,hr⟩,a6⟩;have h:=h.gr a6
  have j1:(db (fy (g.T+g.N) g.T) [g.start]).length=g.T+g.N/\(∀i,bt (db (fy (g.T+g.N) g.T) [g.start]) i=true->i<g.T\/Us g (i:Int))/\(∀t,t<g.T->bt (db (fy (g.T+g.N) g.T) [g.start]) t=true)/\bt (db (fy (g.T+g.N) g.T) [g.start]) g.start.toNat=true:=by
   refine⟨by simp_all[bu],λi hi=>?_,λt ht=>cW.2 (.inl (j0.2.2 t ht)),cW.2 (.inr ⟨ω,by grind⟩)⟩
   rcases cW.1 hi with hi|⟨_,hi⟩
   ·simp_all
   ·rw[af_] at hi;exact .inr (hi▸.start hP)
  generalize db (fy (g.T+g.N) g.T) [g.start]=b1 at*
  refine⟨_,rfl,ae (λhc=>?_) λhc=>?_⟩
  ·have hC:=hr.1 hc;have O:aj (hp a5) ⟨u,0,none⟩ [.pointer (some ⟨pb,0,none⟩),iI (g.T:Int)]:=af 1 h.l;refine⟨_,O.cell0 sZZ,_,O.cell sZZ (j:=1) rfl,ag h λal aa h=>?_⟩;refine(zP (xs:=[(g.T:Int)]) (l:=1) (h.pick 6 [1,0,2,3,4,5]) (λh hh=>bp rfl (.inr ⟨_,rfl,af 0 hh⟩)) ω).mono ?_;rintro _ ad⟨rfl,h⟩;have h:=h.pick 6 [0,2,3,4,5]
   have Z:X5 g (db b1 [(g.T:Int)]):=by
    refine⟨by simp_all[bu],λi hi=>?_,λt ht=>cW.2 (.inl (j1.2.2.1 t ht)),λ_=>⟨cW.2 (.inl j1.2.2.2),λ_=>cW.2 (.inr ⟨ω,σ⟩)⟩⟩
    rcases cW.1 hi with hi|⟨_,hi⟩
    ·simp_all
    ·rw[af_] at hi;exact .inr (hi▸.zero hC hP)
   generalize db b1 [(g.T:Int)]=b2 at*;refine⟨_,rfl,?_⟩;refine⟨_,_,_,_,_,_,_,_,_,_,_,_,_,B.row (aA 4 h.l),?_⟩;obtain⟨h0,hl,_,h⟩:=h.freeze;have U:aj h0 ⟨u,0,none⟩ [.pointer (some ⟨pb,0,none⟩),iI (g.T:Int)]:=af 0 hl;have W:aj h0 ⟨k2,0,none⟩ [.pointer q,iI (g.T:Int)]:=af 1 hl;have jl:=Z.1;refine(Gp (J:=X5 g) (st:=Nd may) (fg:=gF) (fc:=[.pointer (some ⟨u,0,none⟩),.pointer (some ⟨k2,0,none⟩)]) (hg.mono (aA 3 hl)) bP rfl (λp bs=>by grind[Nd,bu]) (λp bs k hk=>by grind[Nd,cW]) (λp hp bs V=>V.step iG hp' hp) ω (λH' s p hp bs a l c w V hr h=>Rv (hb.2.2.2.2.2.2 p hp) (U.mono s) (W.mono s) (hm.mono (sub.trans (aA 3 hl) s)) hr h) Z h).mono ?_;rintro _ X⟨rfl,bs,V,_,Y,h⟩;have h:=h.fb hl;have O:aj (hp X) ⟨u,0,none⟩ [.pointer (some ⟨pb,0,none⟩),iI (g.T:Int)]:=af 1 h.l;exact⟨rfl,_,_,O.at sZZ rfl,aL (h.pick 5 [3,0,4]) rfl (by simp[aK]) λa4 h=>⟨_,_,h.row.at sZZ rfl,pb,bs,rfl,V.all he hp' Y,(h.pick 3 [1,2]).fb (bH gs)⟩⟩
  ·have Z:X5 g b1:=⟨j1.1,j1.2.1,j1.2.2.1,λ_=>⟨j1.2.2.2,λhC=>by simp_all⟩⟩;generalize b1=b2 at*;refine⟨_,_,_,_,_,_,_,_,_,_,_,_,_,B.row (aA 4 h.l),?_⟩;obtain⟨h0,hl,_,h⟩:=h.freeze;have U:aj h0 ⟨u,0,none⟩ [.pointer (some ⟨pb,0,none⟩),iI (g.T:Int)]:=af 0 hl;have W:aj h0 ⟨k2,0,none⟩ [.pointer q,iI (g.T:Int)]:=af 1 hl;have jl:=Z.1;refine(Gp (J:=X5 g) (st:=Nd may) (fg:=gF) (fc:=[.pointer (some ⟨u,0,none⟩),.pointer (some ⟨k2,0,none⟩)]) (hg.mono (aA 3 hl)) bP rfl (λp bs=>by grind[Nd,bu]) (λp bs k hk=>by grind[Nd,cW]) (λp hp bs V=>V.step iG hp' hp) ω (λH' s p hp bs a l c w V hr h=>Rv (hb.2.2.2.2.2.2 p hp) (U.mono s) (W.mono s) (hm.mono (sub.trans (aA 3 hl) s)) hr h) Z h).mono ?_;rintro _ X⟨rfl,bs,V,_,Y,h⟩;have h:=h.fb hl;have O:aj (hp X) ⟨u,0,none⟩ [.pointer (some ⟨pb,0,none⟩),iI (g.T:Int)]:=af 1 h.l;exact⟨rfl,_,_,O.at sZZ rfl,aL (h.pick 5 [3,0,4]) rfl (by simp[aK]) λa4 h=>⟨_,_,h.row.at sZZ rfl,pb,bs,rfl,V.all he hp' Y,(h.pick 3 [1,2]).fb (bH gs)⟩⟩
 ·have Z:X5 g (fy (g.T+g.N) g.T):=⟨j0.1,j0.2.1,j0.2.2,λhP=>by simp_all⟩
  ·generalize fy (g.T+g.N) g.T=b2 at*;refine⟨_,_,_,_,_,_,_,_,_,_,_,_,_,B.row (aA 4 h.l),?_⟩;obtain⟨h0,hl,_,h⟩:=h.freeze;have U:aj h0 ⟨u,0,none⟩ [.pointer (some ⟨pb,0,none⟩),iI (g.T:Int)]:=af 0 hl;have W:aj h0 ⟨k2,0,none⟩ [.pointer q,iI (g.T:Int)]:=af 1 hl;have jl:=Z.1;refine(Gp (J:=X5 g) (st:=Nd may) (fg:=gF) (fc:=[.pointer (some ⟨u,0,none⟩),.pointer (some ⟨k2,0,none⟩)]) (hg.mono (aA 3 hl)) bP rfl (λp bs=>by grind[Nd,bu]) (λp bs k hk=>by grind[Nd,cW]) (λp hp bs V=>V.step iG hp' hp) ω (λH' s p hp bs a l c w V hr h=>Rv (hb.2.2.2.2.2.2 p hp) (U.mono s) (W.mono s) (hm.mono (sub.trans (aA 3 hl) s)) hr h) Z h).mono ?_;rintro _ X⟨rfl,bs,V,_,Y,h⟩;have h:=h.fb hl;have O:aj (hp X) ⟨u,0,none⟩ [.pointer (some ⟨pb,0,none⟩),iI (g.T:Int)]:=af 1 h.l;exact⟨rfl,_,_,O.at sZZ rfl,aL (h.pick 5 [3,0,4]) rfl (by simp[aK]) λa4 h=>⟨_,_,h.row.at sZZ rfl,pb,bs,rfl,V.all he hp' Y,(h.pick 3 [1,2]).fb (bH gs)⟩⟩
theorem X6{N T:Nat}(h:eH (hp w) q bs)(hl:bs.length=T+N)(hN:N<=65)(hT:T<=65)(ht:dK (hp w)):ρ 174 [.agg #[.pointer q,iI (T:Int)]] w λv w'=>∃k:Nat,v=vS (some ⟨k,0,none⟩) N N/\St w' (az k (bv (bs.drop T))::all w):=by
 refine xM ?_;have gs:sub (hp w) (hp w):=sZZ;have h0:=St.all w;unfold Proofs.YtaoaemnefghnbaaGreatDoor.all at h0;generalize hH:hp w=H at*;refine ag h0 λk1 w1 h1=>λw2 hd=>?_;have h1:=h1.drawn hd;have r1:aj (hp w2) ⟨k1,0,none⟩ [.pointer q,iI (T:Int)]:=af 0 h1.l;obtain⟨H2,a0⟩:=yz (hp w2);have sH:sub H H2:=a0▸aA 1 h1.l;have O:aj H2 ⟨k1,0,none⟩ [.pointer q,iI (T:Int)]:=a0▸r1;have h':=h;have eN:((bs.length:Nat):Int)-(T:Int)=(N:Int):=ω
 have h2:St w2 [has H2]:=by simp_all[St.all]
 refine⟨λw=>sub H2 (hp w),a0▸sZZ,_,λw s=>O.cell0 s,_,λw s=>O.cell s (j:=1) rfl,?_,?_⟩
 ·refine(LM (h'.mono (sub.trans sH (aA 0 h2.l)))).mono ?_;rintro _ _⟨rfl,rfl⟩;refine⟨_,rfl,?_⟩
  try dsimp only
  rw[eN]
  refine⟨aA 0 h2.l,⟨ω,ω⟩,?_,?_⟩
  ·refine⟨⟨ω,rfl,ω⟩,?_⟩;rw[afU,dR,Rg];refine ag h2 λk2 w6 h=>ag h λk3 w7 h=>⟨aA 2 h.l,aR h σ λw8 h=>⟨_,O.cell0 (aA 2 h.l),?_⟩⟩;have h:=h.pick 3 [0,1,2];refine(KB (h'.mono (sub.trans sH (aA 2 h.l)))).mono ?_;rintro _ w9⟨b,rfl,h9⟩;have h:=h9.fb h
   refine⟨_,_,rfl,a_.2 ⟨rfl,rM (mb bs),Wd b bs.length (bt bs),dK,λi=>aV [az k3 [vS (some ⟨k2,0,none⟩) N N],az k2 (bv (u7 T N ((mb bs).take i)))],pu False,λ_=>pu False,[has H2],?_,λh hh=>ec.mono (sub.trans sH (aA 0 hh)) ht,oH,?_,?_,?_,?_,trivial⟩⟩
   ·dsimp only;rw[List.take_zero,Eu];exact St.flat.2 (h.pick 4 [1,2,0,3])
   ·intro y U;simp only[rM,afW] at U
    grind
   ·intro i y U L' a4 _ J;refine⟨_,J,λa8 W V u=>?_⟩;have u:=St.flat.1 u;have U:(rM (mb bs))[i]? =some [iI y]:=U
    obtain⟨m,hk,rfl⟩:∃k,(mb bs)[i]? =some k/\y=(k:Int):=by
     unfold rM at U
     grind
    have Z:=tW.1 (afI hk);have a7:=LN Z;have et:(mb bs).take (i+1)=(mb bs).take i++[m]:=by simp_all[afM]
    have sL:sub H2 (hp W):=aA 0 (V _ u.tail.tail)
    refine⟨_,O.cell sL (j:=1) rfl,ae (λY=>?_) λY=>?_⟩
    ·have Y:T<=m:=by simp_all
     have em:(m:Int)-(T:Int)=((m-T:Nat):Int):=ω
     refine⟨_,_,_,u.cell 0,_,O.cell sL (j:=1) rfl,⟨ω,ω⟩,?_⟩;rw[em];refine ay rfl ω ?_;rw[ak];refine aR u.swap (by grind[qL,kq]) λa6 h=>?_;rw[MG,Is Y ω,<-et] at h;exact St.flat.2 h.swap
    grind[of_decide_eq_false,Ir,St.flat]
   ·intro a5 J;have J:=St.flat.1 J;have e:(rM (mb bs)).length=(mb bs).length:=by simp[rM]
    rw[e,af7,Et hl] at J;refine⟨_,_,_,J.cell 0,λa9 X=>⟨k2,rfl,?_⟩⟩;have J:=J.eq X;exact(J.pick 4 [1,3]).fb (bH (by simp_all))
   simp[St.pu]
  ·refine ag h2 λk3 w6 h=>⟨aA 1 h.l,⟨ω,rfl,ω⟩,?_⟩;rw[afU,dR,Rg];refine ag h λk2 w7 h=>aR h.swap σ λw8 h=>⟨_,O.cell0 (aA 2 h.l),?_⟩;refine(KB (h'.mono (sub.trans sH (aA 2 h.l)))).mono ?_;rintro _ w9⟨b,rfl,h9⟩;have h:=h9.fb h
   refine⟨_,_,rfl,a_.2 ⟨rfl,rM (mb bs),Wd b bs.length (bt bs),dK,λi=>aV [az k3 [vS (some ⟨k2,0,none⟩) N N],az k2 (bv (u7 T N ((mb bs).take i)))],pu False,λ_=>pu False,[has H2],?_,λh hh=>ec.mono (sub.trans sH (aA 0 hh)) ht,oH,?_,?_,?_,?_,trivial⟩⟩
   ·dsimp only;rw[List.take_zero,Eu];exact St.flat.2 (h.pick 4 [1,2,0,3])
   ·intro y U;simp only[rM,afW] at U
    grind
   ·intro i y U L' a4 _ J;refine⟨_,J,λa8 W V u=>?_⟩;have u:=St.flat.1 u;have U:(rM (mb bs))[i]? =some [iI y]:=U
    obtain⟨m,hk,rfl⟩:∃k,(mb bs)[i]? =some k/\y=(k:Int):=by
     unfold rM at U
     grind
    have Z:=tW.1 (afI hk);have a7:=LN Z;have et:(mb bs).take (i+1)=(mb bs).take i++[m]:=by simp_all[afM]
    have sL:sub H2 (hp W):=aA 0 (V _ u.tail.tail)
    refine⟨_,O.cell sL (j:=1) rfl,ae (λY=>?_) λY=>?_⟩
    ·have Y:T<=m:=by simp_all
     have em:(m:Int)-(T:Int)=((m-T:Nat):Int):=ω
     refine⟨_,_,_,u.cell 0,_,O.cell sL (j:=1) rfl,⟨ω,ω⟩,?_⟩;rw[em];refine ay rfl ω ?_;rw[ak];refine aR u.swap (by grind[qL,kq]) λa6 h=>?_;rw[MG,Is Y ω,<-et] at h;exact St.flat.2 h.swap
    grind[of_decide_eq_false,Ir,St.flat]
   ·intro a5 J;have J:=St.flat.1 J;have e:(rM (mb bs)).length=(mb bs).length:=by simp[rM]
    rw[e,af7,Et hl] at J;refine⟨_,_,_,J.cell 0,λa9 X=>⟨k2,rfl,?_⟩⟩;have J:=J.eq X;exact(J.pick 4 [1,3]).fb (bH (by simp_all))
   simp[St.pu]
 ·refine ag h2 λk3 w6 h=>⟨aA 1 h.l,?_⟩;refine(LM (h'.mono (sub.trans sH (aA 1 h.l)))).mono ?_;rintro _ _⟨rfl,rfl⟩;refine⟨_,rfl,?_⟩
  try dsimp only
  rw[eN]
  ·refine⟨aA 1 h.l,⟨ω,ω⟩,⟨ω,rfl,ω⟩,?_⟩;rw[afU,dR,Rg];refine ag h λk2 w7 h=>aR h.swap σ λw8 h=>⟨_,O.cell0 (aA 2 h.l),?_⟩;refine(KB (h'.mono (sub.trans sH (aA 2 h.l)))).mono ?_;rintro _ w9⟨b,rfl,h9⟩;have h:=h9.fb h
   refine⟨_,_,rfl,a_.2 ⟨rfl,rM (mb bs),Wd b bs.length (bt bs),dK,λi=>aV [az k3 [vS (some ⟨k2,0,none⟩) N N],az k2 (bv (u7 T N ((mb bs).take i)))],pu False,λ_=>pu False,[has H2],?_,λh hh=>ec.mono (sub.trans sH (aA 0 hh)) ht,oH,?_,?_,?_,?_,trivial⟩⟩
   ·dsimp only;rw[List.take_zero,Eu];exact St.flat.2 (h.pick 4 [1,2,0,3])
   ·intro y U;simp only[rM,afW] at U
    grind
   ·intro i y U L' a4 _ J;refine⟨_,J,λa8 W V u=>?_⟩;have u:=St.flat.1 u;have U:(rM (mb bs))[i]? =some [iI y]:=U
    obtain⟨m,hk,rfl⟩:∃k,(mb bs)[i]? =some k/\y=(k:Int):=by
     unfold rM at U
     grind
    have Z:=tW.1 (afI hk);have a7:=LN Z;have et:(mb bs).take (i+1)=(mb bs).take i++[m]:=by simp_all[afM]
    have sL:sub H2 (hp W):=aA 0 (V _ u.tail.tail)
    refine⟨_,O.cell sL (j:=1) rfl,ae (λY=>?_) λY=>?_⟩
    ·have Y:T<=m:=by simp_all
     have em:(m:Int)-(T:Int)=((m-T:Nat):Int):=ω
     refine⟨_,_,_,u.cell 0,_,O.cell sL (j:=1) rfl,⟨ω,ω⟩,?_⟩;rw[em];refine ay rfl ω ?_;rw[ak];refine aR u.swap (by grind[qL,kq]) λa6 h=>?_;rw[MG,Is Y ω,<-et] at h;exact St.flat.2 h.swap
    grind[of_decide_eq_false,Ir,St.flat]
   ·intro a5 J;have J:=St.flat.1 J;have e:(rM (mb bs)).length=(mb bs).length:=by simp[rM]
    rw[e,af7,Et hl] at J;refine⟨_,_,_,J.cell 0,λa9 X=>⟨k2,rfl,?_⟩⟩;have J:=J.eq X;exact(J.pick 4 [1,3]).fb (bH (by simp_all))
   simp[St.pu]
end
def aaI(g:ah)(nn:List Bool)(row:List Int):Prop:=∀s∈row,s<(g.T:Int)\/bt nn (s.toNat-g.T)=true
def Vt(g:ah)(nn:List Bool):Prop:=nn.length=g.N/\∀i:Nat,bt nn i=true↔Pd g ((g.T+i:Nat):Int)
def X7(g:ah)(nn:List Bool):Prop:=nn.length=g.N/\∀i:Nat,bt nn i=true↔Us g ((g.T+i:Nat):Int)
theorem afw{g:ah}{s:Int}(h:(g.T:Int)<=s):((g.T+(s.toNat-g.T):Nat):Int)=s:=ω
theorem Tk{g:ah}{s:Int}(h:0<=s)(h2:s<(g.T:Int)):Pd g s:=by
 have:=Pd.tm (g:=g) s.toNat ω
 grind
theorem Vt.fit{g:ah}{nn:List Bool}(h:Vt g nn){row:List Int}(hr:∀s∈row,0<=s/\s<(g.T:Int)+g.N):aaI g nn row↔Zm g row:=by
 refine forall_congr' λs=>⟨λk J=>?_,λk J=>?_⟩
 ·by_cases u:s<(g.T:Int)
  ·simp_all[Tk]
  ·have:=(h.2 _).1 ((k J).resolve_left u)
   grind
 ·by_cases u:s<(g.T:Int)
  ·omega
  ·exact .inr ((h.2 _).2 (by grind))
theorem X3.cM{g:ah}{bs:List Bool}(h:X3 g bs):Vt g (bs.drop g.T):=⟨by rw[ag3,h.1];omega,λi=>by rw[fx,h.2]⟩
theorem UsP.cM{g:ah}{bs:List Bool}(h:UsP g bs):X7 g (bs.drop g.T):=⟨by rw[ag3,h.1];omega,λi=>by
 rw[fx,h.2]
 grind⟩
theorem Us.in{g:ah}(he:bZ g){s:Int}(h:Us g s):0<=s/\s<(g.T:Int)+g.N:=by
 obtain⟨u,O,bN,V,J,U⟩:=Jc he;have:=tF he;cases h with
 |start _=>omega
 |zero _ _=>omega
 |pr p s hp _ _ hs=>exact(u p hp).2 s hs
theorem Bb(n:Nat)(m:Nat->Bool):dj (n+1) m=dj n m++(if m n then[n] else[]):=by grind[dj,List.range_succ]
theorem yF{m:Nat->Bool}:∀{n i s:Nat},(dj n m)[i]? =some s->m s=true/\s<n/\(dj n m).take i=dj s m
 |0,i,s,h=>by grind[dj]
 |n+1,i,s,h=>by
  rw[Bb] at h ⊢
  by_cases hi:i<(dj n m).length
  ·rw[af5 hi] at h
   obtain⟨h1,h2,h3⟩:=yF h
   grind
  grind
theorem Iu(T:Nat)(m:Nat->Bool):∀d:Nat,(dj (T+d) m).filter (λk=>decide (T<=k))=(dj d λk=>m (T+k)).map λk=>T+k
 |0=>by grind[List.filter_eq_nil_iff,dj]
 |d+1=>by
  rw[show T+(d+1)=(T+d)+1 from rfl,Bb,Bb,ago,af8,Iu T m d]
  grind
def fG(T:Nat)(uns:List Bool)(s:Int):Int:=if s<(T:Int) then s else if bt uns (s.toNat-T) then(T:Int)+1+(de (s.toNat-T) (bt uns):Int) else 0
def u9(g:ah)(pds uns:List Bool)(p:aO):Bool:=bt uns (p.left.toNat-g.T)&&p.right.all λs=>decide (s<(g.T:Int))||bt pds (s.toNat-g.T)
def jt(g:ah)(uns:List Bool)(p:aO):aO:=⟨fG g.T uns p.left,p.right.map (fG g.T uns),p.level⟩
def zV(g:ah)(k:Nat):ByteArray:=g.cM.getD k .empty
def d_(g:ah)(uns:List Bool):List ByteArray:=.empty::(dj g.N (bt uns)).map (zV g)
def lh(g:ah)(uns:List Bool):aO:=⟨g.T,[fG g.T uns g.start],0⟩
def kv(g:ah)(pds uns:List Bool)(ps:List aO):List aO:=(ps.filter (u9 g pds uns)).map (jt g uns)
def ia(g:ah)(pds uns:List Bool):ah:=⟨g.terms,d_ g uns,g.levels,fG g.T uns g.start,lh g uns::kv g pds uns g.prods⟩
theorem Rw{g:ah}{pds uns:List Bool}{ps:List aO}{p:aO}:kv g pds uns (ps++[p])=kv g pds uns ps++(if u9 g pds uns p then[jt g uns p] else[]):=by grind[kv,u9]
def K7(T n:Nat)(uns:List Bool)(pre:List Nat):List Int:=(List.range n).map λs=>if s∈pre then fG T uns (s:Int) else 0
theorem Tl(T n:Nat)(uns:List Bool)(pre:List Nat):(K7 T n uns pre).length=n:=by simp[K7]
theorem aaJ(T n:Nat)(uns:List Bool):K7 T n uns []=List.replicate n 0:=by
 unfold K7;apply agq
 grind
theorem Tm{T n:Nat}{uns:List Bool}{pre:List Nat}{s:Nat}(h:s<n):(K7 T n uns pre).set s (fG T uns (s:Int))=K7 T n uns (pre++[s]):=by
 unfold K7;apply agq
 grind
theorem aaK{g:ah}{bs:List Bool}(he:bZ g)(h:UsP g bs){s:Nat}(hs:s<g.T+g.N):(K7 g.T (g.T+g.N) (bs.drop g.T) (mb bs))[s]? =some (fG g.T (bs.drop g.T) (s:Int)):=by
 unfold K7;rw[afQ,agR hs];simp only[ahg,tW]
 split
 ·rfl
 ·rename_i hf;unfold fG
  by_cases u:s<g.T
  ·exact absurd ((h.2 s).2 (.inl u)) hf
  simp_all[afV,fx]
theorem X8{T:Nat}{uns:List Bool}{s:Nat}(h:s<T):fG T uns (s:Int)=s:=by simp_all[fG]
theorem aaL{T:Nat}{uns:List Bool}{s:Nat}(h:T<=s)(hu:bt uns (s-T)=true):fG T uns (s:Int)=(T:Int)+1+(de (s-T) (bt uns):Int):=by simp_all[fG,afV]
def uO(g:ah)(pre:List Nat):List ByteArray:=.empty::(pre.filter λk=>decide (g.T<=k)).map λk=>zV g (k-g.T)
theorem aaM{g:ah}{bs:List Bool}{s:Nat}(hs:g.T<=s):(uO g (dj s (bt bs))).length=1+de (s-g.T) (bt (bs.drop g.T)):=by
 have:=Iu g.T (bt bs) (s-g.T);rw[show g.T+(s-g.T)=s from ω] at this;unfold uO;rw[this,agk,af4,af4,mh];have e:(λk=>bt bs (g.T+k))=bt (bs.drop g.T):=by grind[fx]
 grind
theorem aaN{g:ah}{bs:List Bool}(hl:bs.length=g.T+g.N):uO g (mb bs)=d_ g (bs.drop g.T):=by
 have:=Iu g.T (bt bs) g.N;unfold uO d_ mb;rw[hl,this,List.map_map];have e:(λk=>bt bs (g.T+k))=bt (bs.drop g.T):=by grind[fx]
 simp_all
theorem ac9{g:ah}{pre:List Nat}{s:Nat}(h:s<g.T):uO g (pre++[s])=uO g pre:=by simp_all[uO]
theorem ac_{g:ah}{pre:List Nat}{s:Nat}(h:g.T<=s):uO g (pre++[s])=uO g pre++[zV g (s-g.T)]:=by simp_all[uO]
theorem aaO{g:ah}{may bs:List Bool}(iG:SV g)(hm:X3 g may){p:aO}(hp:p∈g.prods):(hasB bs p.left&&vW may p.right)=u9 g (may.drop g.T) (bs.drop g.T) p:=by
 obtain⟨hl,O⟩:=iG p hp;unfold u9;rw[tG ω,fx,show g.T+(p.left.toNat-g.T)=p.left.toNat from ω];congr 1;rw[agM,hm.all O,ag1]
 refine forall_congr' λs=>⟨λk J=>?_,λk J=>?_⟩
 ·rw[agA,aga,fx]
  by_cases u:s<(g.T:Int)
  ·omega
  ·refine .inr ((hm.2 _).2 ?_)
   grind
 ·have:=k J;rw[agA,aga,fx] at this
  by_cases u:s<(g.T:Int)
  ·simp_all[Tk]
  ·have:=(hm.2 _).1 (this.resolve_left u)
   grind
def nF:ah:=⟨[],[],[],0,[]⟩
def MO(g:ah)(e:Int)(G:ah):Prop:=(¬mj g/\e=1/\G=nF)\/(mj g/\¬Pd g g.start/\e=12/\G=nF)\/(mj g/\Pd g g.start/\e=0/\∃pds uns,Vt g pds/\X7 g uns/\G=ia g pds uns)
abbrev Pk(k1 k2 k27 k44 k54:Nat)(w:ahs)(R:Value->ahs->Prop):Prop:=Q3 R k1 k2 k27 k44 (some (aM k54)) w
end Go.Proofs.YtaoaemnefghnbaaGreatDoor
