/- Texts of this claim, one behind the other. -/
import Derived.Test.YtndaepmjkbmjmaaGreatDoorG6
import Derived.Test.YtndaepmjkbmjmaaGreatDoorG1
import Derived.Lib.UnsafeStr
import Derived.Test.YtndaepmjkbmjmaaGreatDoorG4
import Derived.Test.YtndaepmjkbmjmaaGreatDoorG5
set_option linter.unusedVariables false
set_option linter.unusedSectionVars false
set_option maxRecDepth 100000
set_option maxHeartbeats 16000000
namespace Go.V
end Go.V
namespace Go.Proofs.YtndaepmjkbmjmaaGreatDoor
end Go.Proofs.YtndaepmjkbmjmaaGreatDoor
open Go.V Go.Proofs.YtndaepmjkbmjmaaGreatDoor
namespace Go.Proofs.YtndaepmjkbmjmaaGreatDoor
section
variable {w:aa4} {L:List az} {g:af} {x:GA}
theorem EC (hg:gR (hp w) g x) (hb:jd g) (ht:gA (hp w)):ρ A5 [.agg ⟨x.cells⟩] w (Yb g w):=by
 refine xR (cG hg λk1 w1 gw a4 B=>ag (St.all w1) λk2 w2 h=>?_);have aI:Gr w1 w2:=h.aW;refine ⟨_,_,_,_,_,_,_,_,_,_,_,_,_,B.row aI,(Rx (a4.mono aI) hb (fo.mono (gw.trans aI) ht)).mono ?_⟩;rintro _ w3 ⟨ss,ask,int,f,nn,o5,c5,ds,rfl,hR,hn,aT,Z⟩;have h:=St.Mr Z h.l;clear Z
 refine ⟨_,_,_,_,rfl,ae (λO=>?_) λO=>?_⟩
 ·have O:f≠0:=by simpa using O
  have hz:=hR.nil O;subst hz;refine aU (h.pick 3 [2]) rfl (by simp [aG]) λw4 h=>⟨_,_,_,_,_,_,_,_,_,(ah 0 h.l).at (sub.refl _) rfl,[],ask,int,f,nn,none,0,none,0,none,0,[],[],[],rfl,hR,hn,rfl,rfl,rfl,?_⟩;exact ay 1 ((St.flat (M:=[])).2 (ay 1 ((St.flat (M:=[])).2 (ay 3 ((St.flat (M:=[])).2 (St.here (sub.trans gw (aR 1 h.l))))))))
 have O:f = 0:=by simpa using O
 subst O;obtain ⟨hc,hA⟩:=hR.HZ rfl;have f7:=hn rfl;obtain ⟨sT,sN,sP,eU,_,_⟩:=hc.b9;have e7:=hA.dn.2.1;have tl:=a4.t.1;have nl:=a4.n.1;have eT:g.T = g.terms.length:=rfl;have eN:g.N = g.nons.length:=rfl
 -- the cells,as they are read
 have bb:∀ (i:Nat) d,ds[i]? = some d->∃ ad,o5 = some ad/\au (hp w3) (ad.add (cE i 3)) (Rw d):=λi d hd=>RC h hd;have bG:∀ (i:Nat) d,ds[i]? = some d->d.2.2.length<=d.2.1.2/\bh (hp w3) d.2.2 d.2.1.1 d.2.2.length:=λi d hd=>Xu (h.pick 2 [1,0]) hd
 have eo:ds.length<=16640:=by
  have e:=congrArg List.length aT;have:=HQ (l:=1) (nn:=nn) hR;rw [Y3] at e; omega
 have h:St w3 [aH k2 [.slice none 0 0,.slice none 0 0,.slice none 0 0],has (hp w1)]:=h.pick 3 [2];obtain ⟨H3,e8⟩ : ∃ H3,H3 = hp w3:=⟨_,rfl⟩;have b4:Gr w1 w3:=aR 1 h.l;refine ⟨_,_,_,_,_,_,_,_,_,_,_,_,_,B.row b4,(uB (a4.mono b4) hb).mono ?_⟩;rintro _ w5 ⟨oA,cA,R,bl,ci,f2,rfl,cb,h5⟩;have cp:Gr w3 w5:=aR 3 h5.l;have ha:vN (hp w5) R oA:=nL h5.l;clear h5;have a8:=hR.one cb;have d2:bq ss = bq R:=a8.2.1;obtain rfl:(0:Int) = f2:=a8.2.2.2.2.1;obtain ⟨_,b0⟩:=cb.HZ rfl;have c9:R.length = ss.length:=a8.2.2.2.2.2.symm;refine ⟨_,_,_,_,_,_,rfl,ag (St.all w5) λdF w6 h6=>aU h6 rfl (by simp [aG]) λw7 h7=>?_⟩;have cy:au (hp w7) (aM dF) [.slice oA R.length cA,.int .i64 bl,.int .i64 ci]:=ah 0 h7.l;have bP:Gr w5 w7:=h7.aW;clear h6 h7;have ha:=ha.mono bP;have ab:=cp.trans bP;have a1:=b4.trans ab;have c8:=b0.xv hc;have h:=h.gr ab
 -- all that stands still,in one frame
 have hX:St w7 [aH k2 [.slice none 0 0,.slice none 0 0,.slice none 0 0],has (hp w1)]:=h;refine ag (St.all w7) λa0 w8 h=>⟨_,_,_,cy.cell0 (aR 1 h.l),?_⟩;rw [c9]
 refine ⟨λz u=>∃ (q:Nat) (G:List (Lq aJ)) (V:List (Lq Int)) (oa:aa3) (ca:Nat) (og:aa3) (cg:Nat),z = q/\q<=ss.length/\G.length = q/\V.length = q/\G.map (·.2) = List.replicate q (List.replicate g.T ⟨0,0⟩)/\V.map (·.2) = (List.range q).map (lL g R)/\St u (aH a0 [.slice oa q ca,.slice og q cg,.slice none 0 0] :: own 1 oa q ca (G.map bF) :: aC (G.map (bB 2 cJ)) :: own 1 og q cg (V.map bF) :: aC (V.map (bB 1 iv)) :: all w7),λz _=>ss.length - z.toNat,⟨0,[],[],none,0,none,0,rfl,Y4 _,rfl,rfl,rfl,rfl,?_⟩,?_⟩
 ·exact (ay 1 ((St.flat (M:=[])).2 (ay 1 ((St.flat (M:=[])).2 h)))).pick 5 [4,0,1,2,3]
 clear h;rintro _ _ w9 ⟨q,G,V,oa,ca,og,cg,rfl,hq,W,a5,b7,bi,h⟩;have dt:Gr w7 w9:=aR 5 h.l
 refine ae (λO=>?_) λO=>?_
 ·have O:q < ss.length:=by have:=YR O; omega
  obtain ⟨r,hr⟩ : ∃ r,R[q]? = some r:=⟨_,YU ω⟩;obtain ⟨ad,eA,rs,_,re⟩:=ha q r hr;have eg:=(c8 r (YV hr)).2;have cv:=Ai b0 hr;refine aq eA O ⟨_,_,_,_,_,_,rs.at dt rfl,ag h λb3 eQ h=>aU h rfl (by simp [aG]) λf6 h=>⟨_,_,_,B.c1 (sub.trans a1 (aR 6 h.l)),⟨ω,rfl,ω⟩,?_⟩⟩;rw [Za,dq,<- nl,<- eN];refine ag h λX d7 h=>?_
  have h:St d7 (aH X (iv (List.replicate 0 (-1) ++ List.replicate (g.N - 0) 0)) :: aH b3 (N3 r) :: aH a0 [.slice oa q ca,.slice og q cg,.slice none 0 0] :: own 1 oa q ca (G.map bF) :: aC (G.map (bB 2 cJ)) :: own 1 og q cg (V.map bF) :: aC (V.map (bB 1 iv)) :: all w7):=by
   have e:List.replicate g.N (Value.int .i64 0) = iv (List.replicate 0 (-1) ++ List.replicate (g.N - 0) 0):=by simp [iv]
   rw [<- e]; exact h
  refine ⟨λz u=>∃ j:Nat,z = j/\j<=g.N/\St u (aH X (iv (List.replicate j (-1) ++ List.replicate (g.N - j) 0)) :: aH b3 (N3 r) :: aH a0 [.slice oa q ca,.slice og q cg,.slice none 0 0] :: own 1 oa q ca (G.map bF) :: aC (G.map (bB 2 cJ)) :: own 1 og q cg (V.map bF) :: aC (V.map (bB 1 iv)) :: all w7),λz _=>g.N - z.toNat,⟨0,rfl,Y4 _,h⟩,?_⟩;clear h;rintro _ _ fg ⟨j,rfl,hj,h⟩
  refine ae (λU=>?_) λU=>?_
  ·have U:j < g.N:=by have:=YR U; omega
   refine aq rfl U ?_;rw [aN,Z4,aK];refine bj h (by simp [iv]; omega) λf5 h=>⟨⟨ω,ω⟩,⟨j + 1,σ,U,?_⟩,bn U⟩
   have e:(iv (List.replicate j (-1) ++ List.replicate (g.N - j) 0)).set j (.int .i64 (-1)) = iv (List.replicate (j + 1) (-1) ++ List.replicate (g.N - (j + 1)) 0):=by
    rw [Cp];congr 1;rw [show g.N - j = (g.N - (j + 1)) + 1 from ω,aar,aae _ _ σ,Z7,Z0,aaU,List.replicate_succ',Y6];rfl
   rw [<- e];exact h
  have U:j = g.N:=by have:=YS U; omega
  rw [U,Z0,List.replicate_zero,Zm,<- RE] at h;refine ⟨_,_,_,(ah 1 h.l).cell (sub.refl _) (j:=1) rfl,λz u=>∃ k:Nat,z = k/\k<=r.2.2.length/\St u (aH X (iv (EB g (r.2.2.take k))) :: aH b3 (N3 r) :: aH a0 [.slice oa q ca,.slice og q cg,.slice none 0 0] :: own 1 oa q ca (G.map bF) :: aC (G.map (bB 2 cJ)) :: own 1 og q cg (V.map bF) :: aC (V.map (bB 1 iv)) :: all w7),λz _=>r.2.2.length - z.toNat,⟨0,rfl,Y4 _,h⟩,?_⟩;clear h;rintro _ _ e9 ⟨k,rfl,hk,h⟩
  refine ae (λZ=>?_) λZ=>?_
  ·have Z:k < r.2.2.length:=by have:=YR Z; omega
   obtain ⟨e,eu,he,d3,d8⟩:=kC re Z;have bT:r.2.2.take (k + 1) = r.2.2.take k ++ [e]:=by rw [Y2,he]; rfl
   have ba:∀ y∈r.2.2.take k,y.sym≠e.sym:=λy hy=>by
    obtain ⟨i,hi⟩:=Zr hy;rw [ZT] at hi
    split at hi
    ·rename_i hik;intro hh;have O:(r.2.2.map (·.sym))[i]? = some y.sym:=by rw [YW,hi]; rfl
     have U:(r.2.2.map (·.sym))[k]? = some e.sym:=by rw [YW,he]; rfl
     obtain ⟨p1,q1⟩:=YT.1 O;obtain ⟨p2,q2⟩:=YT.1 U;exact aaW.1 (ZH.1 cv) i k p1 p2 hik (by rw [q1,q2,hh])
    ·cases hi
   obtain ⟨e1,e2,_⟩:=fh hc b0 hr he
   refine aq d3 Z ⟨_,_,d8.at (aR 7 h.l) rfl,ag h λeb em h=>aU h rfl (by simp [aG]) λep h=>⟨_,(ah 0 h.l).cell0 (sub.refl _),_,_,_,B.c0 (sub.trans a1 (aR 8 h.l)),ae (λh4=>?_) λh4=>?_⟩⟩
   ·have h4:(g.T:Int)<=e.sym:=by have:=YR h4; omega
    refine ⟨_,(ah 0 h.l).cell0 (sub.refl _),_,_,_,B.c0 (sub.trans a1 (aR 8 h.l)),⟨ω,ω⟩,_,(ah 0 h.l).cell (sub.refl _) (j:=1) rfl,aM X,rfl,ω,ω,?_⟩;rw [aN,Z4,aK];refine bj (h.pick 2 [1]) (by rw [jl,Kf]; omega) λeI h=>⟨⟨ω,ω⟩,⟨k + 1,σ,Z,?_⟩,bn Z⟩;rw [bT,Gt ba e2,Y5 h4,<- Cp,eT,tl];exact h
   ·have h4:¬ (g.T:Int)<=e.sym:=by have:=YS h4; omega
    refine ⟨⟨ω,ω⟩,⟨k + 1,σ,Z,?_⟩,bn Z⟩;rw [bT,Gt ba e2,YZ h4];exact h.tail
  have Z:k = r.2.2.length:=by have:=YS Z; omega
  rw [Z,Zi,RF hr] at h;have a9:(lL g R q).length = g.N:=by simp [lL]
  intro eY hd;have h:=h.drawn hd;have e4:x.tl = g.T:=ω
  refine ⟨λu=>Gr w7 u/\u.cell? (aM a0) = some (.slice oa q ca),⟨aR 7 h.l,(ah 2 h.l).cell0 (sub.refl _)⟩,_,_,_,λu s=>s.2,_,_,_,λu s=>B.c0 (sub.trans a1 s.1),⟨ω,rfl,ω⟩,?_⟩;rw [Za,HS,e4];refine ag h λa6 ea h=>⟨⟨aR 8 h.l,(ah 3 h.l).cell0 (sub.refl _)⟩,ag h λfc eP h=>⟨⟨aR 9 h.l,(ah 4 h.l).cell0 (sub.refl _)⟩,?_⟩⟩;have b5:(G.map bF).length = q:=by rw [Y3,W]
  refine (aL (us:=G.map bF) aQ (rfl:aj Ty _ = .slice _) (rfl:aj Ty _ = .slice _) rfl rfl rfl (h.pick 6 [0,5,1,2,3,4]) rfl (by simp [aG]) (by show (q + 1) * 24<=_; omega) ω).mono ?_;rintro _ ey ⟨d6,d5,rfl,h⟩;refine ⟨_,_,_,rfl,⟨aR 9 h.l,(ah 5 h.l).cell0 (sub.refl _)⟩,bj (i:=0) (h.pick 6 [5,0,2,3]) σ λf9 h=>?_⟩;refine ⟨_,_,_,(ah 0 h.l).cell (sub.refl _) (j:=1) rfl,ag h λek ej h=>?_⟩;refine (aL (us:=V.map bF) aQ (rfl:aj Ty _ = .slice _) (rfl:aj Ty _ = .slice _) rfl rfl rfl (h.pick 7 [0,6,1,2,3,4,5]) rfl (by simp [aG]) (by show (q + 1) * 24<=_; omega) ω).mono ?_;rintro _ eD ⟨d4,dk,rfl,h⟩;refine ⟨_,_,_,rfl,?_⟩;rw [aK];refine bj (i:=1) (h.pick 3 [2,0]) σ λeS h=>?_;refine ⟨⟨ω,ω⟩,⟨q + 1,G ++ [((some (aM a6),g.T),List.replicate g.T ⟨0,0⟩)],V ++ [((some (aM X),g.N),lL g R q)],d6,d5,d4,dk,σ,O,by simp [W],by simp [a5],by rw [Zg,b7,List.replicate_succ']; rfl,by rw [Zg,bi,Z1,Zg]; rfl,?_⟩,bn O⟩;have eA:(G ++ [((some (aM a6),g.T),List.replicate g.T (⟨0,0⟩ : aJ))]).map bF = G.map bF ++ [vS (some (aM a6)) g.T g.T]:=by rw [Zg]; simp [bF]
  have dl:(G ++ [((some (aM a6),g.T),List.replicate g.T (⟨0,0⟩ : aJ))]).map (bB 2 cJ) = G.map (bB 2 cJ) ++ [own 2 (some (aM a6)) g.T g.T (cJ (List.replicate g.T ⟨0,0⟩))]:=by rw [Zg]; simp [bB]
  have eG:(V ++ [((some (aM X),g.N),lL g R q)]).map bF = V.map bF ++ [vS (some (aM X)) g.N g.N]:=by rw [Zg]; simp [bF,a9]
  have cz:(V ++ [((some (aM X),g.N),lL g R q)]).map (bB 1 iv) = V.map (bB 1 iv) ++ [own 1 (some (aM X)) g.N g.N (iv (lL g R q))]:=by rw [Zg]; simp [bB,a9]
  rw [eA,dl,eG,cz];have O:=h.pick 7 [3,5,4,6,0,2,1];have U:=St.snoc (dz (sz:=2) (l:=g.T) (c:=g.T) (cs:=[]) (by rw [Zm]; exact O) (by rw [gi,Z7]) (by rw [Zm,gi,Z7]) (Zc _));have Z:=U.pick 3 [1,2,0];have h4:=St.snoc (dz (sz:=1) (l:=g.N) (c:=g.N) (cs:=[]) (by rw [Zm]; exact Z) (by rw [jl,a9,Z4]) (by rw [Zm,jl,a9,Z4]) (Zc _));exact h4.pick 5 [2,3,1,4,0]
 have O:q = ss.length:=by have:=YS O; omega
 subst O;obtain ⟨C,hC⟩ : ∃ C,C = gn g nn ss 1:=⟨_,rfl⟩;have fd:C.length = ds.length:=by rw [hC,<- aT,Y3]
 have ck:∀ {z:bX},z∈C->∃ q t:Nat,q < ss.length/\t < g.T/\1<=(cM g nn ss q t).length/\z = ⟨(q:Int),(t:Int),cM g nn ss q t⟩:=λ{z} hz=>by
  rw [hC] at hz; exact lY.1 hz
 have cm:∀ {i j:Nat} {a b:bX},C[i]? = some a->C[j]? = some b->a.st = b.st->a.tm = b.tm->i = j:=λha hb=>by
  rw [hC] at ha hb; exact J6 ha hb
 have cx:∀ l:List bX,(l.flatMap (zH g)).length<=l.length:=λl=>by
  induction l with
  | nil=>simp
  | cons c l ih =>
   rw [Zw,Y0,ZC];have:(zH g c).length<=1:=by unfold zH; split <;> simp
   omega
 have h0:St w9 (aH a0 [.slice oa ss.length ca,.slice og ss.length cg,.slice none 0 0] :: own 1 oa ss.length ca (G.map bF) :: aC (G.map (bB 2 cJ)) :: own 1 og ss.length cg (V.map bF) :: aC (V.map (bB 1 iv)) :: own 3 none 0 0 (rP []) :: aC (kR []) :: all w7) :=
  (ay 3 ((St.flat (M:=[])).2 h)).pick 7 [2,3,4,5,6,0,1]
 refine ⟨λz u=>∃ (i:Nat) (G:List (Lq aJ)) (Y:List q9) (oc:aa3) (cc:Nat),z = i/\i<=ds.length/\Eo g ss.length (C.take i) (G.map (·.2))/\Y.map jY = (C.take i).flatMap (zH g)/\St u (aH a0 [.slice oa ss.length ca,.slice og ss.length cg,.slice oc Y.length cc] :: own 1 oa ss.length ca (G.map bF) :: aC (G.map (bB 2 cJ)) :: own 1 og ss.length cg (V.map bF) :: aC (V.map (bB 1 iv)) :: own 3 oc Y.length cc (rP Y) :: aC (kR Y) :: all w7),λz _=>ds.length - z.toNat,⟨0,G,[],none,0,rfl,Y4 _,by rw [b7]; exact Eo.zero,rfl,h0⟩,?_⟩;clear h h0 b7 W;rintro _ _ bC ⟨i,G,Y,oc,cc,rfl,hi,hD,a7,h⟩;have ch:Gr w7 bC:=aR 7 h.l;have W:G.length = ss.length:=by have:=hD.1; simpa using this
 refine ae (λO=>?_) λO=>?_
 rotate_left
 ·have O:i = ds.length:=by have:=YS O; omega
  subst O;rw [Zb ω,hC] at hD a7;have h8:=St.on (N:=[_,_,_,_,_,_,_]) h hX.l;refine ⟨_,_,_,_,_,_,_,_,_,(ah 0 h.l).at (sub.refl _) rfl,?_⟩;have h9:St bC (aH k2 [.slice none 0 0,.slice none 0 0,.slice none 0 0] :: own 1 oa ss.length ca (G.map bF) :: aC (G.map (bB 2 cJ)) :: own 1 og ss.length cg (V.map bF) :: aC (V.map (bB 1 iv)) :: own 3 oc Y.length cc (rP Y) :: aC (kR Y) :: [has (hp w1)]):=h8.pick 8 [7,1,2,3,4,5,6];refine aU h9 rfl (by simp [aG]) λet h=>?_;refine ⟨_,_,_,_,_,_,_,_,_,(ah 0 h.l).at (sub.refl _) rfl,?_⟩;refine ⟨ss,ask,int,0,nn,oa,ca,og,cg,oc,cc,G,V,Y,by rw [W,a5],hR,hn,hD.all,by rw [bi,HR d2]; exact congrArg (λn=>(List.range n).map (lL g R)) c9.symm,a7,?_⟩;unfold Nc;rw [W,a5];exact St.on (N:=[_,_,_,_,_,_]) h.tail (bH gw)
 have O:i < ds.length:=by have:=YR O; omega
 obtain ⟨d,hd⟩ : ∃ d,ds[i]? = some d:=⟨_,YU O⟩;have b2:C[i]? = some (jY d):=by rw [hC,<- aT,YW,hd]; rfl
 obtain ⟨q,t,hq,ht1,_,ez⟩:=ck (YV b2);have e1:d.1.1 = (q:Int):=congrArg bX.st ez;have e2:d.1.2 = (t:Int):=congrArg bX.tm ez;have e3:d.2.2 = cM g nn ss q t:=congrArg bX.acts ez;have be:C.take (i + 1) = C.take i ++ [jY d]:=by rw [Y2,b2]; rfl
 have e6:Y.length<=16640:=by
  have e:=congrArg List.length a7;have:=cx (C.take i);rw [Y3] at e;rw [Zj] at this;omega
 have c6:∀ c∈C.take i,¬(c.st = (q:Int)/\c.tm = (t:Int)):=λc e0 hh=>by
  obtain ⟨j,hj⟩:=Zr e0;rw [ZT] at hj
  split at hj
  ·have:=cm hj b2 (by rw [hh.1]; exact e1.symm) (by rw [hh.2]; exact e2.symm);omega
  ·cases hj
 obtain ⟨b,b1⟩ : ∃ b,G[q]? = some b:=⟨_,YU ω⟩;have b5:(G.map (·.2))[q]? = some b.2:=by rw [YW,b1]; rfl
 have fs:b.2.length = g.T:=(hD.2 q b.2 b5).1;have am:=hD.put (c:=jY d) b5 e1 e2 c6;rw [<- be] at am;have bc:(C.take (i + 1)).flatMap (zH g) = (C.take i).flatMap (zH g) ++ zH g (jY d):=by rw [be,ZB]; simp
 obtain ⟨d9,d0⟩:=bG i d hd;obtain ⟨ad,e5,rb⟩:=bb i d hd;have rb:au (hp w3) (ad.add (cE i 3)) [.int .i64 (q:Int),.int .i64 (t:Int),.slice d.2.1.1 d.2.2.length d.2.1.2]:=by rw [<- e1,<- e2]; exact rb
 have bd:uX g.prods.length d.2.2:=by rw [e3]; exact J8 hc hA q t
 refine aq e5 O ⟨_,_,_,_,_,rb.at (ab.trans ch) rfl,ag h λec el h=>aU h rfl (by simp [aG]) λef h=>⟨_,_,_,_,_,_,_,_,_,_,_,_,_,B.row (sub.trans a1 (aR 8 h.l)),_,_,_,_,_,(ah 0 h.l).at (sub.refl _) rfl,(Gs hc (a4.mono (sub.trans a1 (aR 8 h.l))) (d0.mono (sub.trans ab (aR 8 h.l))) d9 bd ht1).mono ?_⟩⟩;obtain ⟨l,hl⟩ : ∃ l,l = cW g t d.2.2:=⟨_,rfl⟩;rw [<- hl];have bA:(G.set q (b.1,b.2.set t (rM l))).map (·.2) = (G.map (·.2)).set q (b.2.set t (rM (cW g t (jY d).acts))):=by rw [ZM,hl]; rfl
 rw [<- bA] at am;rintro _ fr ⟨aa,ac,rfl,c7⟩;have h:=St.nf c7 h.l;clear c7;refine ⟨_,_,_,_,_,rfl,ag h λeV eB h=>aU h rfl (by simp [aG]) λer h=>?_⟩;intro d1 b6;have h:=h.drawn b6;obtain ⟨eK,cB,cu⟩:=cr (h.pick 5 [4]) (j:=q) (v:=bF b) (by rw [YW,b1]; rfl);refine ⟨λu=>d1 = u,rfl,_,_,_,by rintro _ rfl; exact (ah 3 h.l).cell0 (sub.refl _),_,by rintro _ rfl; exact (ah 2 h.l).cell0 (sub.refl _),aw cB hq ⟨_,_,_,by rintro _ rfl; exact cu,_,by rintro _ rfl; exact (ah 2 h.l).cell (sub.refl _) (j:=1) rfl,_,_,by rintro _ rfl; exact (ah 0 h.l).at (sub.refl _) rfl,?_⟩⟩;refine RG (y:=rM l) b1 ω (h.pick 6 [4,5,1,2,3]) λf3 h=>?_
 refine ae (λU=>?_) λU=>?_
 ·have U:2<=l.1.length:=by
   have:(0:Int) < ((lq l.1).length:Int):=YR U;unfold lq at this
   split at this
   ·assumption
   ·simp at this
  have cD:lq l.1 = l.1:=by unfold lq; rw [Y5 U]
  rw [cD] at h ⊢
  have a3:zH g (jY d) = [⟨(q:Int),(t:Int),l.1⟩]:=by
   unfold zH;rw [ez]
   show (if 2<=(cW g (t:Int).toNat (cM g nn ss q t)).1.length then _ else _) = _
   rw [Za,<- e3,<- hl,Y5 U]
  refine ⟨_,_,_,(ah 4 h.l).cell (sub.refl _) (j:=2) rfl,_,(ah 3 h.l).cell0 (sub.refl _),_,(ah 3 h.l).cell (sub.refl _) (j:=1) rfl,ag h λf8 eX h=>?_⟩;refine (aL (us:=rP Y) aQ (rfl:aj Ty _ = .slice _) (rfl:aj Ty _ = .slice _) rfl rfl rfl (h.pick 9 [0,8,1,2,3,5,6,7]) rfl (by simp [aG]) (by show (Y.length + 1) * 40<=_; omega) ω).mono ?_;rintro _ f4 ⟨dc,cC,rfl,h⟩;refine ⟨_,_,_,rfl,?_⟩;rw [aK];refine bj (i:=2) (h.pick 8 [5,0,2,3,4,6,7]) σ λei h=>?_;refine ⟨⟨ω,ω⟩,⟨i + 1,_,Y ++ [(((q:Int),(t:Int)),((aa,ac),l.1))],dc,cC,σ,O,am,by rw [Zg,a7,bc,a3]; rfl,?_⟩,bn O⟩;have eC:kR (Y ++ [(((q:Int),(t:Int)),((aa,ac),l.1))]) = kR Y ++ [own 2 aa l.1.length ac (cJ l.1)]:=by unfold kR; rw [Zg]; rfl
  rw [eC,CI,show (Y ++ [(((q:Int),(t:Int)),((aa,ac),l.1))]).length = Y.length + 1 from σ];have U:=St.snoc (h.pick 8 [4,7,0,2,3,5,6,1]);exact U.pick 7 [1,2,3,4,5,6,0]
 ·have U:¬ 2<=l.1.length:=by
   intro hh;have:¬ (0:Int) < ((lq l.1).length:Int):=YS U;unfold lq at this;rw [Y5 hh] at this;omega
  have a3:zH g (jY d) = []:=by
   unfold zH;rw [ez]
   show (if 2<=(cW g (t:Int).toNat (cM g nn ss q t)).1.length then _ else _) = _
   rw [Za,<- e3,<- hl,YZ U]
  refine ⟨⟨ω,ω⟩,⟨i + 1,_,Y,oc,cc,σ,O,am,by rw [a7,bc,a3,Zm],?_⟩,bn O⟩;exact h.pick 9 [4,0,1,5,6,7,8]
abbrev oH:FuncId:=121
def mD:bm:={ rngs:=[],loops:=[],joins:=[],blocks:=[] }
section
variable {a b c d:aa3} {i j k l m n o p:Nat} {A:Int} {w:aa4} {R:Value->WP}
theorem mE (h:∀ b,drawn w b->∃ (c:WP),c b/\nn a λd=>∃ e f g,(∀ a,c a->World.cell? a (Addr.add d 1) = some (vS e f g))/\nn a λa=>∃ d h i,(∀ b,c b->World.cell? b (Addr.add a 1) = some (vS d h i))/\rS (Builtin.unsafeSliceData_ (Array.mk [201]) 254 (Array.mk [vS e f g])) b λa b=>∃ d,a = vP d/\c b/\rS (Builtin.unsafeString_ (Array.mk [254,3]) 9 (Array.mk [vP d,iI (h:Int)])) b λa b=>∃ d,a = Value.string d/\c b/\R (Value.string d) b):ρ 121 [(.pointer a)] w R:=rv Tryz.func121 mD (by kernel_rfl) h
abbrev kG:FuncId:=10
def jJ:bm:={ rngs:=[],loops:=[(5,[(7,(.one (.int .i64)))]),(12,[(11,(.one (.int .i64)))]),(15,[(12,(.one (.int .i64)))]),(19,[(13,(.one (.int .i64)))]),(23,[(14,(.one (.int .i64)))])],joins:=[(10,[(42,(.one .bool))])],blocks:=[] }
theorem jK (h:new w (ψ a i j b k l c m n A d o p) λa b=>rE 30 [] b λb c=>∃ d,b = vB d/\χ c (aM a) λb=>rE 14 [b] c λb c=>∃ e f g h i j k l m n o p q,b = vG [vS e f g,vS h i j,vS k l m,iI n,vS o p q]/\new c (oC [vS none 0 0,vS none 0 0,vS none 0 0,iI 0,vS none 0 0] 27) λb c=>da c (aM b) [vS e f g,vS h i j,vS k l m,iI n,vS o p q] λc=>χ c (aM b) λe=>rE 36 [e] c λc e=>∃ f g h i j k l m n o,c = vU [vG [vS f g h,vS i j k,vS l m n],iI o]/\new e (oC [vS none 0 0,vS none 0 0,vS none 0 0] 75) λc e=>da e (aM c) [vS f g h,vS i j k,vS l m n] λe=>τ [(7,aB)] λf g=>f 0 e/\∀ (_:ν) e h,f e h->br (decide (e < 2)) (χ h (aM a) λa=>rE 37 [a] h λa b=>∃ d i j k l m n p q r,a = vU [vG [vS d i j,vS k l m,vS n p q],iI r]/\new b (oC [vS none 0 0,vS none 0 0,vS none 0 0] 75) λa b=>da b (aM a) [vS d i j,vS k l m,vS n p q] λb=>∃ d i j k l m n p q,rA b (aM a) 3 [vS d i j,vS k l m,vS n p q]/\∃ s t u v w x y z a0,rA b (aM c) 3 [vS s t u,vS v w x,vS y z a0]/\rE 38 [vG [vS d i j,vS k l m,vS n p q],vG [vS s t u,vS v w x,vS y z a0]] b λb c=>∃ d,b = vB d/\∃ (b:lP [(42,jD)]),br (!d) (b true c) (b (o != r) c)/\∀ (_:ν) c d,b c d->br c (R (vB false) d) (τ [(11,aB)] λb c=>b 0 d/\∀ (_:ν) d i,b d i->∃ j k l,cL i (aM a) (vS j k l)/\br (decide (d < (k:Int))) (τ [(12,aB)] λe f=>e 0 i/\∀ (_:ν) g h,e g h->∃ j k l,cL h (aM a) (vS j k l)/\idx j k d 1 λj=>∃ k l m,cL h j (vS k l m)/\br (decide (g < (l:Int))) (∃ b c i,cL h (aM a) (vS b c i)/\idx b c d 1 λa=>∃ b c d,cL h a (vS b c d)/\idx b c g 2 λa=>da h a [iI 9,iI 0] λa=>ax (g + 1)/\e (g + 1) a/\f (g + 1) a < f g h) (τ [(13,aB)] λe f=>e 0 h/\∀ (_:ν) g h,e g h->∃ j k l,cL h (Addr.add (aM a) 1) (vS j k l)/\idx j k d 1 λj=>∃ k l m,cL h j (vS k l m)/\br (decide (g < (l:Int))) (∃ b c i,cL h (Addr.add (aM a) 1) (vS b c i)/\idx b c d 1 λa=>∃ b c d,cL h a (vS b c d)/\idx b c g 1 λa=>st1 h a (iI (-9)) λa=>ax (g + 1)/\e (g + 1) a/\f (g + 1) a < f g h) (ax (d + 1)/\b (d + 1) h/\c (d + 1) h < c d i))) (τ [(14,aB)] λb c=>b 0 i/\∀ (_:ν) d i,b d i->∃ j k l,cL i (Addr.add (aM a) 2) (vS j k l)/\br (decide (d < (k:Int))) (∃ e f g,cL i (Addr.add (aM a) 2) (vS e f g)/\idx e f d 3 λa=>∃ e f g,cL i (Addr.add a 2) (vS e f g)/\idx e f 0 2 λa=>da i a [iI 9,iI 0] λa=>ax (d + 1)/\b (d + 1) a/\c (d + 1) a < c d i) (ax (e + 1)/\f (e + 1) i/\g (e + 1) i < g e h)))) (χ h (aM a) λa=>∃ c e f g i j k l m n o p q,rA h (aM b) 5 [vS c e f,vS g i j,vS k l m,iI n,vS o p q]/\rE 19 [a,vG [vS c e f,vS g i j,vS k l m,iI n,vS o p q]] h λa b=>∃ c,a = vB c/\br d (R (vB c) b) (R (vB false) b))):ρ 10 [φ a i j b k l c m n A d o p] w R:=rv Tryz.func10 jJ (by kernel_rfl) h
end
abbrev u5:FuncId:=30
def ri:bm:={ rngs:=[],loops:=[],joins:=[],blocks:=[] }
theorem rj  {w:aa4} {R:Value->WP} (h:rE 63 [] w λa b=>∃ c d e f g h i j k l m n o,a = vG [vS c d e,vS f g h,vS i j k,iI l,vS m n o]/\new b (oC [vS none 0 0,vS none 0 0,vS none 0 0,iI 0,vS none 0 0] 27) λa b=>da b (aM a) [vS c d e,vS f g h,vS i j k,iI l,vS m n o] λb=>χ b (aM a) λc=>rE 31 [c,iI 1,iI 1] b λb c=>∃ d e,b = vU [iI d,iI e]/\χ c (aM a) λb=>new c (oC [iI 1,iI 6,iI 2,iI 1] 62) λc r=>rE 33 [b,vG [iI 0,iI 2,vS (some (aM c)) 2 2]] r λb c=>∃ f g h i j k,b = vU [vG [iI f,iI g],vS h i j,iI k]/\new c (oC [iI 0,iI 0] 62) λb c=>da c (aM b) [iI f,iI g] λc=>χ c (aM a) λf=>rE 37 [f] c λc f=>∃ g h j l m n o p q r,c = vU [vG [vS g h j,vS l m n,vS o p q],iI r]/\new f (oC [vS none 0 0,vS none 0 0,vS none 0 0] 75) λc f=>da f (aM c) [vS g h j,vS l m n,vS o p q] λf=>χ f (aM a) λg=>rE 64 [g] f λa f=>∃ g h,a = vU [Value.string g,iI h]/\br (e == 0) (br (k == 0) (br (r == 0) (br (h == 0) (br (d == 2) (∃ a,cL f (aM b) (iI a)/\br (a == 1) (∃ a,cL f (Addr.add (aM b) 1) (iI a)/\br (a == 6) (br ((i:Int) == 2) (∃ a b d,cL f (aM c) (vS a b d)/\br ((b:Int) == 5) (∃ a b d,cL f (Addr.add (aM c) 2) (vS a b d)/\br ((b:Int) == 0) (R (vB (ByteArray.toList g == ByteArray.toList (ByteArray.mk (Array.mk [])))) f) (R (vB false) f)) (R (vB false) f)) (R (vB false) f)) (R (vB false) f)) (R (vB false) f)) (R (vB false) f)) (R (vB false) f)) (R (vB false) f)) (R (vB false) f)) (R (vB false) f)):ρ 30 [] w R:=rv Tryz.func30 ri (by kernel_rfl) h
abbrev u6:FuncId:=63
def rq:bm:={ rngs:=[],loops:=[],joins:=[],blocks:=[] }
theorem rC  {w:aa4} {R:Value->WP} (h:new w (oC [vS none 0 0,vS none 0 0,vS none 0 0,iI 0,vS none 0 0] 27) λa b=>new b (oC [Value.string (ByteArray.mk (Array.mk [])),iI 0,Value.string (ByteArray.mk (Array.mk [43])),iI 1,Value.string (ByteArray.mk (Array.mk [110])),iI 0] 83) λb c=>new c (oC [Value.string (ByteArray.mk (Array.mk [])),Value.string (ByteArray.mk (Array.mk [101]))] 9) λc d=>new d (oC [iI 1] 3) λd e=>new e (oC [iI 4] 3) λe f=>new f (oC [iI 4,iI 1,iI 4] 3) λf g=>new g (oC [iI 2] 3) λg h=>new h (oC [iI 3,vS (some (aM e)) 1 1,iI 0,iI 4,vS (some (aM f)) 3 3,iI 1,iI 4,vS (some (aM g)) 1 1,iI 0] 81) λe f=>da f (aM a) [vS (some (aM b)) 3 3,vS (some (aM c)) 2 2,vS (some (aM d)) 1 1,iI 4,vS (some (aM e)) 3 3] λb=>χ b (aM a) λc=>R (c) b):ρ 63 [] w R:=rv Tryz.func63 rq (by kernel_rfl) h
end
def qg:af:=⟨[⟨⟨⟨[]⟩⟩,0⟩,⟨⟨⟨[43]⟩⟩,1⟩,⟨⟨⟨[110]⟩⟩,0⟩],[⟨⟨[]⟩⟩,⟨⟨[101]⟩⟩],[1],4,[⟨3,[4],0⟩,⟨4,[4,1,4],1⟩,⟨4,[2],0⟩]⟩
theorem Ba:ak qg:=by
 refine ⟨rfl,⟨rfl,by decide,by decide,by decide,by decide,?_,?_,?_,?_,?_⟩,⟨by decide,by decide,?_,by decide,by decide,by decide⟩,⟨3,[4],0⟩,rfl,rfl,rfl,rfl⟩
 ·decide
 ·intro i v h
  match i,h with
  | 0,h=>cases h; exact ⟨by decide,by decide,⟨⟨⟨[43]⟩⟩,1⟩,by simp [qg],rfl⟩
  | i + 1,h=>cases h
 ·decide
 ·decide
 ·decide
 ·intro p hp;simp only [List.drop_succ_cons,List.drop_zero,qg,Ze,List.not_mem_nil,or_false] at hp;unfold mj fw
  rcases hp with rfl | rfl
  ·refine ⟨by decide,?_⟩;intro s u; simp at u;rcases u with rfl | rfl | rfl <;> decide
  ·refine ⟨by decide,?_⟩;intro s u; simp at u; subst u; decide
theorem Nd:jd qg:=by
 refine ⟨by decide,by decide,by decide,by decide,?_,by decide,by decide⟩;intro t ht;simp only [qg,Ze,List.not_mem_nil,or_false] at ht;unfold anyI;rcases ht with rfl | rfl | rfl <;> decide
theorem RH:(cN qg 5).1.length = 5/\∀ i,i < 5->i < (cN qg i).1.length:=by decide +kernel
theorem Nf:Jd qg 5:=⟨RH.1,by decide,RH.2⟩
def Kt:List SQ:=((cN qg 5).1.zip (cN qg 5).2).map λp=>(((none,0),p.1),((none,0),p.2))
def T5:List Bool:=[false,false]
theorem Wh:j6 qg T5:=by
 have key:∀ s,BZ qg s->False:=λs h=>by
  induction h with
  | mk p hp _ ih =>
   simp only [qg,Ze,List.not_mem_nil,or_false] at hp
   rcases hp with rfl | rfl | rfl
   ·exact ih 4 σ
   ·exact ih 4 σ
   ·exact ih 2 σ
 refine ⟨rfl,λi=>⟨λh=>?_,λh=>(key _ h).elim⟩⟩
 match i with
 | 0=>cases h
 | 1=>cases h
 | i + 2=>simp [aV,T5] at h
def Yc:List (List Int):=[[0,1],[1]]
def Yd:List (List Int):=[[0,1],[0,1]]
def Ye:List bK:=(qQ qg Kt).map (QY qg Yd)
def XI (q t:Nat):List aJ:=wo Kt q t ++ J2 Kt q t ++ EK Ye q t
theorem xU:TP (sZ qg T5 Kt) (qZ qg Kt) Yc 5 = true/\TP (vW qg T5 Kt) Yc Yd 5 = true/\(Ry XI 5 3 1).flatMap (zH qg) = []/\d_ qg 1 1 = 2/\cW qg 2 [⟨1,6⟩,⟨2,1⟩] = ([⟨1,6⟩,⟨2,1⟩],false)/\Kt.length = 5:=by decide +kernel
theorem Yf:LF qg T5 Kt = Yc:=(M4 xU.1).symm
theorem Yg:EJ qg T5 Kt = Yd:=by
 unfold EJ;rw [Yf];exact (M4 xU.2.1).symm
theorem Yh:bz qg T5 Kt = Ye:=by
 unfold bz Ye;rw [Yg];exact ZP λb _=>QZ _ _ _
theorem Yi (q t:Nat):cM qg T5 Kt q t = XI q t:=by unfold cM XI; rw [Yh]
theorem Yj (least:Nat):gn qg T5 Kt least = Ry XI 5 3 least:=by
 unfold gn h_ jy cellAt Ry;rw [xU.2.2.2.2.2];simp only [Yi];rfl
theorem LQ {ss:List SQ} {a i f:Int} (h:sV qg ss a i f):f = 0/\bq ss = bq Kt/\ss.map (·.1.2) = Kt.map (·.1.2):=by
 rcases h with ⟨G,_⟩ | ⟨_,u,_⟩ | ⟨_,hA,_,_,rfl⟩
 ·exact absurd Ba G
 ·exact (DE Nf u).elim
 ·have z:=Je hA.dn Nf;have O:(cN qg 5).1.length = (cN qg 5).2.length:=by decide +kernel
  refine ⟨rfl,?_,?_⟩
  ·rw [hA.es,z];unfold Kt bq;rw [aay]
   show _ = ((cN qg 5).1.zip (cN qg 5).2).map Prod.snd
   rw [List.map_snd_zip ω]
  ·show bV ss = _
   rw [hA.ks,z];unfold Kt;rw [aay]
   show _ = ((cN qg 5).1.zip (cN qg 5).2).map Prod.fst
   rw [List.map_fst_zip ω]
theorem RI {ss:List SQ} {nn:List Bool} {a i f:Int} (h:sV qg ss a i f) (hn:j6 qg nn):zv qg nn ss = []:=by
 obtain ⟨_,z,u⟩:=LQ h;rw [hn.inj Wh,T4 z u];unfold zv;rw [Yj];exact xU.2.2.1
section
variable {w:aa4} {L:List az} {g:af} {x:GA}
theorem Ox {k:Nat} {p:Value} (r:au (hp w) (aM k) [p,.slice none 0 0]):ρ oH [.pointer (some (aM k))] w λv w'=>v = .string .empty/\Gr w w':=by
 refine mE λz O=>?_;have G:Gr w z:=Gr.drawn O;have c1:z.cell? ((aM k).add 1) = some (.slice none 0 0):=r.cell G (j:=1) rfl;refine ⟨λu=>z = u,rfl,?_⟩
 show ∃ o1 W R,_
 refine ⟨none,0,0,by rintro _ rfl; exact c1,?_⟩
 show ∃ V U k4,_
 refine ⟨none,0,0,by rintro _ rfl; exact c1,⟨_,z,Lib.run_unsafeSliceData_nil _ _ _ 0 0,Ev.refl _,none,rfl,rfl,⟨_,z,Lib.run_unsafeString_none _ _ _ _ none,Ev.refl _,.empty,rfl,rfl,rfl,G⟩⟩⟩
theorem Oy (hg:gR (hp w) g x) (hb:jd g) (ht:gA (hp w)) (hz:∀ ss ask int nn,sV g ss ask int 0->j6 g nn->zv g nn ss = []):ρ A6 [.agg ⟨x.cells⟩] w λv w'=>∃ f:Int,v = .tuple #[.string .empty,.int .i64 f]/\(∃ ss a i,sV g ss a i f)/\Gr w w':=by
 refine xT (cG hg λk1 w1 gw R B=>?_);refine ⟨_,_,_,_,_,_,_,_,_,_,_,_,_,B.row (sub.refl _),(EC R hb (fo.mono gw ht)).mono ?_⟩;rintro _ w2 ⟨ss,ask,int,f,nn,oa,ca,og,cg,oc,cc,AL,GL,CL,rfl,hR,hn,_,_,Y,h⟩;have Z:Gr w1 w2:=aR 6 h.l;clear h;refine ⟨_,_,_,_,_,_,_,_,_,_,rfl,ag (St.all w2) λW w3 h=>aU h rfl (by simp [aG]) λV h=>?_⟩;have X:Gr w2 V:=h.aW;have a0:au (hp V) (aM W) [.slice oa AL.length ca,.slice og GL.length cg,.slice oc CL.length cc]:=ah 0 h.l;clear h;have G:=Z.trans X;refine ae (λU=>⟨f,rfl,⟨ss,ask,int,hR⟩,gw.trans G⟩) λU=>?_;have U:f = 0:=by simpa using U
 subst U
 have a1:CL = []:=by
  have e:=congrArg List.length Y;rw [hz ss ask int nn hR (hn rfl),Y3] at e;exact Y9 e
 subst a1;refine ⟨_,_,_,_,_,_,_,_,_,_,_,_,_,B.row G,(uB (R.mono G) hb).mono ?_⟩;rintro _ w5 ⟨oA,cA,ab,a8,a7,f2,rfl,aa,h5⟩;have a5:Gr V w5:=aR 3 h5.l;clear h5;refine ⟨_,_,_,_,_,_,rfl,ag (St.all w5) λa9 w6 h6=>aU h6 rfl (by simp [aG]) λw7 h7=>ag h7 λa4 w8 h8=>?_⟩;have a3:Gr w5 w8:=aR 2 h8.l;have a6:au (hp w8) (aM a4) [.pointer none,.slice none 0 0]:=ah 0 h8.l;clear h6 h7 h8;have O:=a5.trans a3;refine ⟨_,_,_,a0.cell O (j:=2) rfl,λz u=>z = 0/\w8 = u,λ_ _=>0,⟨rfl,rfl⟩,?_⟩;rintro _ _ _ ⟨rfl,rfl⟩;refine yB rfl ((Ox a6).mono ?_);rintro _ w9 ⟨rfl,g9⟩;exact ⟨_,rfl,0,rfl,⟨ss,ask,int,hR⟩,gw.trans (G.trans (O.trans g9))⟩
theorem Oz:ρ u6 [] w λv w'=>∃ x:GA,v = .agg ⟨x.cells⟩/\gR (hp w') qg x/\Gr w w':=by
 refine rC ?_;refine ag (St.all w) λk1 w1 h=>ag h λR w2 h=>ag h λU w3 h=>ag h λk4 w4 h=>ag h λV w5 h=>ag h λG w6 h=>ag h λz w7 h=>ag h λO w8 h=>aU (h.pick 8 [7,0,1,2,3,4,5,6]) rfl (by intro v hv; simp at hv; rcases hv with rfl | rfl | rfl | rfl | rfl <;> rfl) λu h=>?_;have r1:au (hp u) ⟨k1,0,none⟩ _:=ah 0 h.l;have r8:au (hp u) ⟨O,0,none⟩ _:=ah 1 h.l;have X:au (hp u) ⟨z,0,none⟩ _:=ah 2 h.l;have W:au (hp u) ⟨G,0,none⟩ _:=ah 3 h.l;have r5:au (hp u) ⟨V,0,none⟩ _:=ah 4 h.l;have Y:au (hp u) ⟨k4,0,none⟩ _:=ah 5 h.l;have r3:au (hp u) ⟨U,0,none⟩ _:=ah 6 h.l;have r2:au (hp u) ⟨R,0,none⟩ _:=ah 7 h.l;have Z:Gr w u:=aR 8 h.l;clear h;have p5:bh (hp u) ([4] : List Int) (some ⟨V,0,none⟩) 1:=eO rfl (.inr ⟨_,rfl,r5⟩);have p6:bh (hp u) ([4,1,4] : List Int) (some ⟨G,0,none⟩) 3:=eO rfl (.inr ⟨_,rfl,W⟩);have p7:bh (hp u) ([2] : List Int) (some ⟨z,0,none⟩) 1:=eO rfl (.inr ⟨_,rfl,X⟩)
 refine ⟨_,_,_,_,_,_,_,_,_,_,_,_,_,r1.at (sub.refl _) rfl,⟨some ⟨R,0,none⟩,3,3,some ⟨U,0,none⟩,2,2,some ⟨k4,0,none⟩,1,1,4,some ⟨O,0,none⟩,3,3⟩,rfl,⟨?_,?_,?_,rfl,?_,Zc _,Zc _,Zc _,Zc _⟩,Z⟩
 ·refine Jw (xs:=qg.terms) r2 λi t hi=>?_
  match i,hi with
  | 0,hi=>cases hi; rfl
  | 1,hi=>cases hi; rfl
  | 2,hi=>cases hi; rfl
  | i + 3,hi=>cases hi
 ·exact eM (xs:=qg.nons) rfl (.inr ⟨_,rfl,r3⟩)
 ·exact eM (xs:=qg.levels) rfl (.inr ⟨_,rfl,Y⟩)
 ·refine Jw (xs:=qg.prods) r8 λi t hi=>?_
  match i,hi with
  | 0,hi=>cases hi; exact ⟨_,_,_,rfl,by decide,p5⟩
  | 1,hi=>cases hi; exact ⟨_,_,_,rfl,by decide,p6⟩
  | 2,hi=>cases hi; exact ⟨_,_,_,rfl,by decide,p7⟩
  | i + 3,hi=>cases hi
theorem OA (ht:gA (hp w)):ρ u5 [] w λv w'=>v = .bool true/\Gr w w':=by
 refine rj (Oz.mono ?_);rintro _ w1 ⟨y,rfl,W,g1⟩;refine ⟨_,_,_,_,_,_,_,_,_,_,_,_,_,rfl,ag (St.all w1) λk9 w2 h=>aU h rfl (by intro v hv; simp at hv; rcases hv with rfl | rfl | rfl | rfl | rfl <;> rfl) λw3 h=>?_⟩;have a0:Gr w1 w3:=h.aW;have B:GB (hp w3) k9 y:=PN (ah 0 h.l);clear h;have W:=W.mono a0;have V:=g1.trans a0;refine ⟨_,_,_,_,_,_,_,_,_,_,_,_,_,B.row (sub.refl _),(Wc (p:=1) (t:=1) W Nd).mono ?_⟩;rintro _ w4 ⟨z,f,rfl,hS,Z⟩
 obtain ⟨rfl,rfl⟩ : z = 2/\f = 0:=by
  rcases hS with ⟨h,_⟩ | ⟨_,i,j,hi,hj,_,_,rfl,rfl⟩
  ·exact absurd ⟨Ba,by decide,by decide,by decide,by decide⟩ h
  ·obtain rfl:i = 1:=ω
   obtain rfl:j = 1:=ω
   exact ⟨xU.2.2.2.1,rfl⟩
 refine ⟨_,_,rfl,_,_,_,_,_,_,_,_,_,_,_,_,_,B.row Z,ag (St.all w4) λad w5 h=>?_⟩;have aT:Gr w4 w5:=h.aW;have hr:bh (hp w5) ([⟨1,6⟩,⟨2,1⟩] : List aJ) (some (aM ad)) 2:=vq rfl (.inr ⟨_,rfl,ah 0 h.l⟩);clear h;have X:=Z.trans aT;refine (Wf (xs:=[⟨1,6⟩,⟨2,1⟩]) (st:=0) (t:=2) (W.mono X) Nd hr (by decide) (by decide)).mono ?_;rintro _ w6 ⟨ac,l,e,o,c',rfl,hC,h6⟩;have a6:Gr w5 w6:=aR 1 h6.l;clear h6
 obtain ⟨rfl,rfl,rfl⟩ : ac = ⟨1,6⟩/\l = [⟨1,6⟩,⟨2,1⟩]/\e = 0:=by
  rcases hC with ⟨h,_⟩ | ⟨_,_,j,hj,_,rfl,rfl,rfl⟩
  ·exact absurd ⟨Ba,by decide,by decide,by decide⟩ h
  ·obtain rfl:j = 2:=ω
   rw [xU.2.2.2.2.1];exact ⟨rfl,rfl,rfl⟩
 refine ⟨_,_,_,_,_,_,rfl,ag (St.all w6) λb2 w7 h=>aU h rfl (by simp [aG]) λw8 h=>?_⟩;have ab:Gr w6 w8:=h.aW;have Y:au (hp w8) (aM b2) [.int .i64 1,.int .i64 6]:=ah 0 h.l;clear h;have O:=X.trans (a6.trans ab);refine ⟨_,_,_,_,_,_,_,_,_,_,_,_,_,B.row O,(EC (W.mono O) Nd (fo.mono (V.trans O) ht)).mono ?_⟩;rintro _ w9 ⟨ss,ask,int,f,nn,oa,ca,og,cg,oc,cc,AL,GL,CL,rfl,hR,hn,b0,_,am,h⟩;have a1:Gr w8 w9:=aR 6 h.l;clear h;obtain ⟨rfl,a9,b4⟩:=LQ hR
 have b1:CL = []:=by
  have e:=congrArg List.length am;rw [RI hR (hn rfl),Y3] at e;exact Y9 e
 subst b1
 have a8:AL.length = 5:=by
  have e:=congrArg List.length b0;rw [Y3] at e;rw [e];unfold B_;rw [Y3,ZX,DV a9,xU.2.2.2.2.2]
 refine ⟨_,_,_,_,_,_,_,_,_,_,rfl,ag (St.all w9) λaa b5 h=>aU h rfl (by simp [aG]) λa5 h=>?_⟩;have R:Gr w9 a5:=h.aW;have a4:au (hp a5) (aM aa) [.slice oa AL.length ca,.slice og GL.length cg,.slice oc 0 cc]:=ah 0 h.l;clear h;have u:=O.trans (a1.trans R);refine ⟨_,_,_,_,_,_,_,_,_,_,_,_,_,B.row u,(Oy (W.mono u) Nd (fo.mono (V.trans u) ht) λss ask int nn h h'=>RI h h').mono ?_⟩;rintro _ aI ⟨f,rfl,⟨b3,a3,i3,a7⟩,G⟩;obtain ⟨rfl,_,_⟩:=LQ a7;have U:Gr w8 aI:=a1.trans (R.trans G);refine ⟨_,_,rfl,vC rfl (vC rfl (vC rfl (vC rfl (vC rfl ⟨_,Y.cell0 U,vC rfl ⟨_,Y.cell U (j:=1) rfl,vC rfl (vC rfl ⟨_,_,_,a4.cell0 G,vC (by rw [a8]; rfl) ⟨_,_,_,a4.cell G (j:=2) rfl,vC rfl ⟨by rw [yF]; rfl,V.trans (u.trans G)⟩⟩⟩)⟩⟩))))⟩
abbrev mF:FuncId:=35
def kS:bm:={ rngs:=[],loops:=[(4,[(5,(.one (.int .i64)))])],joins:=[],blocks:=[] }
section
variable {a b c d e f:aa3} {i j k l m n o p q r s t:Nat} {A B C:Int} {w:aa4} {R:Value->WP}
theorem kT (h:br ((i:Int) != (k:Int)) (R (vB false) w) (τ [(5,aB)] λc d=>c 0 w/\∀ (_:ν) e f,c e f->br (decide (e < (i:Int))) (∀ g,drawn f g->∃ (h:WP),h g/\idx a i e 2 λa=>∃ i j,(∀ b,h b->rA b a 2 [iI i,iI j])/\idx b k e 2 λa=>∃ b k,(∀ c,h c->rA c a 2 [iI b,iI k])/\∃ a,(∀ c,h c->Sem.run Proofs.Tryz.prog (je BinOp.neq 62 (Operand.tmp 20) (Operand.tmp 24) (vG [iI i,iI j]) (vG [iI b,iI k])) c = Result.ok a c)/\∃ b,a = vB b/\br b (R (vB false) g) (ax (e + 1)/\c (e + 1) g/\d (e + 1) g < d e f)) (R (vB true) f))):ρ 35 [(.slice a i j),(.slice b k l)] w R:=rv Tryz.func35 kS (by kernel_rfl) h
abbrev tg:FuncId:=36
def qh:bm:={ rngs:=[],loops:=[(7,[(9,(.one (.int .i64)))]),(11,[(10,(.one .slice)),(11,(.one (.int .i64)))]),(17,[(12,(.one (.int .i64)))])],joins:=[],blocks:=[] }
theorem qi (h:new w (ψ a i j b k l c m n A d o p) λa b=>new b (oC [vS none 0 0,vS none 0 0,vS none 0 0] 75) λb c=>χ c (aM a) λd=>rE 16 [d] c λc d=>∃ e f g h,c = vU [vS e f g,iI h]/\br (h != 0) (da d (aM b) [vS none 0 0,vS none 0 0,vS none 0 0] λa=>∃ c d e f g i j k l,rA a (aM b) 3 [vS c d e,vS f g i,vS j k l]/\R (vU [vG [vS c d e,vS f g i,vS j k l],iI h]) a) (χ d (aM a) λc=>rE 43 [c] d λc d=>∃ g h i j k l,c = vU [vG [vS g h i,iI j,iI k],iI l]/\new d (oC [vS none 0 0,iI 0,iI 0] 45) λc d=>da d (aM c) [vS g h i,iI j,iI k] λd=>new d (oC [vS none 0 0,vS none 0 0,vS none 0 0] 75) λd g=>τ [(9,aB)] λh i=>h 0 g/\∀ (_:ν) g j,h g j->∃ k l m,cL j (aM c) (vS k l m)/\br (decide (g < (l:Int))) (∃ b e f,cL j (aM a) (vS b e f)/\τ [(10,fD),(11,aB)] λb f=>b none 0 0 (e:Int) j/\∀ (_:ν) e k l m n,b e k l m n->χ n (aM a) λo=>rE 72 [o] n λo p=>∃ q,o = iI q/\br (decide (m < q)) (∃ a d h i j,rA p (aM c) 3 [vS a d h,iI i,iI j]/\rE 73 [vG [vS a d h,iI i,iI j],iI g,iI m] p λa c=>∃ d,a = iI d/\new c (oC [iI d] 3) λa c=>rS (fe 24 (Array.mk [vS e k l,vS (some (aM a)) 1 1])) c λa c=>∃ d g h,a = vS d g h/\ax (m + 1)/\b d g h (m + 1) c/\f d g h (m + 1) c < f e k l m n) (∀ b,drawn p b->∃ (c:WP),c b/\∃ f m n,(∀ a,c a->cL a (aM d) (vS f m n))/\∃ o p q,(∀ b,c b->cL b (aM a) (vS o p q))/\tE (p:Int) (p:Int) 16/\new b (Obj.cells (Array.mk (ir (Int.toNat (p:Int)) [iI 0,iI 0])) 62) λa b=>c b/\new b (oC [vS (some (aM a)) (Int.toNat (p:Int)) (Int.toNat (p:Int))] 38) λa b=>c b/\rS (fe 70 (Array.mk [vS f m n,vS (some (aM a)) 1 1])) b λa b=>∃ f m n,a = vS f m n/\c b/\st1 b (aM d) (vS f m n) λa=>∃ b c f,cL a (Addr.add (aM d) 1) (vS b c f)/\new a (oC [vS e k l] 24) λa e=>rS (fe 71 (Array.mk [vS b c f,vS (some (aM a)) 1 1])) e λa b=>∃ c e f,a = vS c e f/\st1 b (Addr.add (aM d) 1) (vS c e f) λa=>ax (g + 1)/\h (g + 1) a/\i (g + 1) a < i g j)) (τ [(12,aB)] λc g=>c 0 j/\∀ (_:ν) h i,c h i->br (decide (h < (f:Int))) (idx e f h 3 λb=>∃ e f j k l,rA i b 3 [iI e,iI f,vS j k l]/\new i (oC [iI 0,iI 0,vS none 0 0] 60) λb m=>da m (aM b) [iI e,iI f,vS j k l] λe=>χ e (aM a) λa=>∃ f,cL e (Addr.add (aM b) 1) (iI f)/\∃ j k l,cL e (Addr.add (aM b) 2) (vS j k l)/\rE 70 [a,iI f,vS j k l] e λa e=>∃ f j k l,a = vU [vS f j k,vB l]/\∀ a,drawn e a->∃ (e:WP),e a/\∃ m n o,(∀ a,e a->cL a (aM d) (vS m n o))/\∃ o,(∀ a,e a->cL a (aM b) (iI o))/\idx m n o 1 λm=>∃ n o p,(∀ a,e a->cL a m (vS n o p))/\∃ m,(∀ a,e a->cL a (Addr.add (aM b) 1) (iI m))/\rE 71 [vS f j k,vB l] a λa l=>∃ p q,a = vG [iI p,iI q]/\e l/\idx n o m 2 λa=>da l a [iI p,iI q] λa=>br (decide (1 < (j:Int))) (∃ e l m,cL a (Addr.add (aM d) 2) (vS e l m)/\∃ n,cL a (aM b) (iI n)/\∃ o,cL a (Addr.add (aM b) 1) (iI o)/\new a (oC [iI n,iI o,vS f j k] 60) λa b=>rS (fe 29 (Array.mk [vS e l m,vS (some (aM a)) 1 1])) b λa b=>∃ e f j,a = vS e f j/\st1 b (Addr.add (aM d) 2) (vS e f j) λa=>ax (h + 1)/\c (h + 1) a/\g (h + 1) a < g h i) (ax (h + 1)/\c (h + 1) a/\g (h + 1) a < g h i)) (∃ a c e f g h j k l,rA i (aM d) 3 [vS a c e,vS f g h,vS j k l]/\da i (aM b) [vS a c e,vS f g h,vS j k l] λa=>∃ c d e f g h i j k,rA a (aM b) 3 [vS c d e,vS f g h,vS i j k]/\R (vU [vG [vS c d e,vS f g h,vS i j k],iI 0]) a)))):ρ 36 [φ a i j b k l c m n A d o p] w R:=rv Tryz.func36 qh (by kernel_rfl) h
abbrev wF:FuncId:=38
def th:bm:={ rngs:=[],loops:=[],joins:=[],blocks:=[] }
theorem tj (h:new w (oC [vS a i j,vS b k l,vS c m n] 75) λa b=>new b (oC [vS d o p,vS e q r,vS f s t] 75) λb c=>∃ d e f g h i,rA c (aM a) 2 [vS d e f,vS g h i]/\∃ j k l m n o,rA c (aM b) 2 [vS j k l,vS m n o]/\rE 74 [vG [vS d e f,vS g h i],vG [vS j k l,vS m n o]] c λc d=>∃ e,c = vB e/\∃ c f g,cL d (Addr.add (aM a) 2) (vS c f g)/\∃ a h i,cL d (Addr.add (aM b) 2) (vS a h i)/\rE 41 [vS c f g,vS a h i] d λa b=>∃ c,a = vB c/\br e (R (vB c) b) (R (vB false) b)):ρ 38 [(.agg #[(.slice a i j),(.slice b k l),(.slice c m n)]),(.agg #[(.slice d o p),(.slice e q r),(.slice f s t)])] w R:=rv Tryz.func38 th (by kernel_rfl) h
abbrev oJ:FuncId:=41
def mG:bm:={ rngs:=[],loops:=[(4,[(5,(.one (.int .i64)))])],joins:=[],blocks:=[] }
theorem mH (h:br ((i:Int) != (k:Int)) (R (vB false) w) (τ [(5,aB)] λc d=>c 0 w/\∀ (_:ν) e f,c e f->br (decide (e < (i:Int))) (∀ g,drawn f g->∃ (h:WP),h g/\idx a i e 3 λj=>∃ l m n,(∀ a,h a->cL a (Addr.add j 2) (vS l m n))/\idx b k e 3 λj=>∃ o p q,(∀ a,h a->cL a (Addr.add j 2) (vS o p q))/\rE 35 [vS l m n,vS o p q] g λg j=>∃ l,g = vB l/\h j/\∀ g,drawn j g->∃ (h:WP),h g/\br (!l) (R (vB false) g) (idx a i e 3 λj=>∃ l,(∀ a,h a->cL a j (iI l))/\idx b k e 3 λj=>∃ m,(∀ a,h a->cL a j (iI m))/\br (l != m) (R (vB false) g) (idx a i e 3 λa=>∃ i,(∀ b,h b->cL b (Addr.add a 1) (iI i))/\idx b k e 3 λa=>∃ b,(∀ c,h c->cL c (Addr.add a 1) (iI b))/\br (i != b) (R (vB false) g) (ax (e + 1)/\c (e + 1) g/\d (e + 1) g < d e f)))) (R (vB true) f))):ρ 41 [(.slice a i j),(.slice b k l)] w R:=rv Tryz.func41 mG (by kernel_rfl) h
abbrev wG:FuncId:=66
def tk:bm:={ rngs:=[],loops:=[],joins:=[],blocks:=[] }
theorem tp (h:new w (ψ a i j b k l c m n A d o p) λa b=>∃ c d e,cL b (Addr.add (aM a) 4) (vS c d e)/\idx c d B 3 λc=>∃ d,cL b (Addr.add c 2) (iI d)/\∃ c e f,cL b (aM a) (vS c e f)/\idx c e C 2 λc=>∃ e,cL b (Addr.add c 1) (iI e)/\br (d == 0) (R (iI 0) b) (br (e == 0) (R (iI 0) b) (br (decide (e < d)) (R (iI 2) b) (br (decide (d < e)) (R (iI 1) b) (∃ c e f,cL b (Addr.add (aM a) 2) (vS c e f)/\ax (d - 1)/\idx c e (d - 1) 1 λa=>∃ c,cL b a (iI c)/\br (c == 1) (R (iI 2) b) (br (c == 2) (R (iI 1) b) (R (iI 3) b))))))):ρ 66 [φ a i j b k l c m n A d o p,(.int .i64 B),(.int .i64 C)] w R:=rv Tryz.func66 tk (by kernel_rfl) h
abbrev wH:FuncId:=70
def tq:bm:={ rngs:=[],loops:=[(6,[(10,(.one .bool)),(11,(.one .bool)),(12,(.one (.int .i64)))]),(13,[(8,(.one .slice)),(14,(.one (.int .i64)))])],joins:=[(3,[(9,(.one .bool))]),(18,[(15,(.one .bool))]),(21,[(15,(.one .bool))])],blocks:=[] }
theorem tt (h:new w (ψ a i j b k l c m n A d o p) λa b=>∃ (c:lP [(9,jD)]),br (decide (0 < (q:Int))) (idx e q 0 2 λa=>∃ d,cL b a (iI d)/\c (d == 1) b) (c false b)/\∀ (_:ν) b d,c b d->τ [(10,jD),(11,jD),(12,aB)] λc f=>c true false 0 d/\∀ (_:ν) d g h i,c d g h i->br (decide (h < (q:Int))) (idx e q h 2 λj=>∃ k,cL i j (iI k)/\br (k != 2) (ax (h + 1)/\c d g (h + 1) i/\f d g (h + 1) i < f d g h i) (br (!b) (ax (h + 1)/\c d g (h + 1) i/\f d g (h + 1) i < f d g h i) (∀ b,drawn i b->∃ (j:WP),j b/\∃ k l m n o p r s t u v w x,(∀ b,j b->rA b (aM a) 5 [vS k l m,vS n o p,vS r s t,iI u,vS v w x])/\idx e q h 2 λa=>∃ e,(∀ b,j b->cL b (Addr.add a 1) (iI e))/\rE 66 [vG [vS k l m,vS n o p,vS r s t,iI u,vS v w x],iI e,iI B] b λa b=>∃ e,a = iI e/\j b/\br d (br (e != 2) (br g (ax (h + 1)/\c (e != 3) true (h + 1) b/\f (e != 3) true (h + 1) b < f d g h i) (ax (h + 1)/\c (e != 3) (e == 3) (h + 1) b/\f (e != 3) (e == 3) (h + 1) b < f d g h i)) (br g (ax (h + 1)/\c false true (h + 1) b/\f false true (h + 1) b < f d g h i) (ax (h + 1)/\c false (e == 3) (h + 1) b/\f false (e == 3) (h + 1) b < f d g h i))) (br g (ax (h + 1)/\c false true (h + 1) b/\f false true (h + 1) b < f d g h i) (ax (h + 1)/\c false (e == 3) (h + 1) b/\f false (e == 3) (h + 1) b < f d g h i))))) (τ [(8,fD),(14,aB)] λc f=>c none 0 0 0 i/\∀ (_:ν) h i j k l,c h i j k l->br (decide (k < (q:Int))) (∃ (g:lP [(15,jD)]),(idx e q k 2 λa=>∃ b,cL l a (iI b)/\br (b == 1) (g d l) (g true l))/\∀ (_:ν) d m,g d m->∃ (g:lP [(15,jD)]),(idx e q k 2 λc=>∃ f,cL m c (iI f)/\br (f == 2) (br b (∀ b,drawn m b->∃ (c:WP),c b/\∃ d f h i j l m n o p r s t,(∀ b,c b->rA b (aM a) 5 [vS d f h,vS i j l,vS m n o,iI p,vS r s t])/\idx e q k 2 λa=>∃ e,(∀ b,c b->cL b (Addr.add a 1) (iI e))/\rE 66 [vG [vS d f h,vS i j l,vS m n o,iI p,vS r s t],iI e,iI B] b λa b=>∃ d,a = iI d/\c b/\br (d == 0) (g true b) (g (d == 2) b)) (g d m)) (g d m))/\∀ (_:ν) a b,g a b->br a (idx e q k 2 λa=>∃ d e,rA b a 2 [iI d,iI e]/\new b (oC [iI d,iI e] 62) λa b=>rS (fe 38 (Array.mk [vS h i j,vS (some (aM a)) 1 1])) b λa b=>∃ d e g,a = vS d e g/\ax (k + 1)/\c d e g (k + 1) b/\f d e g (k + 1) b < f h i j k l) (ax (k + 1)/\c h i j (k + 1) b/\f h i j (k + 1) b < f h i j k l)) (R (vU [vS h i j,vB g]) l))):ρ 70 [φ a i j b k l c m n A d o p,(.int .i64 B),(.slice e q r)] w R:=rv Tryz.func70 tq (by kernel_rfl) h
abbrev wI:FuncId:=71
def tu:bm:={ rngs:=[],loops:=[],joins:=[],blocks:=[] }
theorem tw {d:Bool} (h:new w (oC [iI 0,iI 0] 62) λb c=>br (decide (0 < (i:Int))) (idx a i 0 2 λa=>∃ d e,rA c a 2 [iI d,iI e]/\da c (aM b) [iI d,iI e] λa=>∃ c d,rA a (aM b) 2 [iI c,iI d]/\R (vG [iI c,iI d]) a) (br d (da c (aM b) [iI 4,iI 0] λa=>∃ c d,rA a (aM b) 2 [iI c,iI d]/\R (vG [iI c,iI d]) a) (da c (aM b) [iI 0,iI 0] λa=>∃ c d,rA a (aM b) 2 [iI c,iI d]/\R (vG [iI c,iI d]) a))):ρ 71 [(.slice a i j),(.bool d)] w R:=rv Tryz.func71 tu (by kernel_rfl) h
abbrev oK:FuncId:=74
def mJ:bm:={ rngs:=[],loops:=[(4,[(5,(.one (.int .i64)))]),(10,[(7,(.one (.int .i64)))])],joins:=[(2,[(24,(.one .bool))])],blocks:=[] }
theorem mK (h:new w (oC [vS a i j,vS b k l] 73) λa b=>new b (oC [vS c m n,vS d o p] 73) λb c=>∃ (d:lP [(24,jD)]),(∃ e f g,cL c (aM a) (vS e f g)/\∃ e g h,cL c (aM b) (vS e g h)/\br ((f:Int) != (g:Int)) (d true c) (∃ e f g,cL c (Addr.add (aM a) 1) (vS e f g)/\∃ a e g,cL c (Addr.add (aM b) 1) (vS a e g)/\d ((f:Int) != (e:Int)) c))/\∀ (_:ν) c e,d c e->br c (R (vB false) e) (τ [(5,aB)] λc d=>c 0 e/\∀ (_:ν) e f,c e f->∃ g h i,cL f (aM a) (vS g h i)/\br (decide (e < (h:Int))) (∀ g,drawn f g->∃ (h:WP),h g/\∃ i j k,(∀ b,h b->cL b (aM a) (vS i j k))/\idx i j e 1 λa=>∃ i j k,(∀ b,h b->cL b a (vS i j k))/\∃ a l m,(∀ c,h c->cL c (aM b) (vS a l m))/\idx a l e 1 λa=>∃ b l m,(∀ c,h c->cL c a (vS b l m))/\rE 35 [vS i j k,vS b l m] g λa b=>∃ g,a = vB g/\h b/\br (!g) (R (vB false) b) (ax (e + 1)/\c (e + 1) b/\d (e + 1) b < d e f)) (τ [(7,aB)] λc d=>c 0 f/\∀ (_:ν) e f,c e f->∃ g h i,cL f (Addr.add (aM a) 1) (vS g h i)/\br (decide (e < (h:Int))) (∀ g,drawn f g->∃ (h:WP),h g/\∃ i j k,(∀ b,h b->cL b (Addr.add (aM a) 1) (vS i j k))/\idx i j e 1 λa=>∃ i j k,(∀ b,h b->cL b a (vS i j k))/\∃ a l m,(∀ c,h c->cL c (Addr.add (aM b) 1) (vS a l m))/\idx a l e 1 λa=>∃ b l m,(∀ c,h c->cL c a (vS b l m))/\rE 47 [vS i j k,vS b l m] g λa b=>∃ g,a = vB g/\h b/\br (!g) (R (vB false) b) (ax (e + 1)/\c (e + 1) b/\d (e + 1) b < d e f)) (R (vB true) f)))):ρ 74 [(.agg #[(.slice a i j),(.slice b k l)]),(.agg #[(.slice c m n),(.slice d o p)])] w R:=rv Tryz.func74 mJ (by kernel_rfl) h
end
end
section
variable {g:af}
def Wi (g:af) (t:Nat) (l:List aJ):List aJ:=l.filter λx=>if x.kind = 1 then l.all (wq g t) else uZ g t x
theorem Ng {t:Nat} {x:aJ} (h:x.kind≠2):wq g t x = true:=by
 unfold wq uY; rw [YZ h]; decide
theorem T6 {t:Nat} {x:aJ} (h:x.kind≠2):uZ g t x = true:=by
 unfold uZ uY; rw [YZ h]; decide
theorem Nh {t:Nat} {x:aJ} (h:x.kind≠2):zG g t x = false:=by
 unfold zG uY; rw [YZ h]; decide
theorem T7 {n t:Nat} {y:aJ} {r:List aJ} (ho:uX n (y :: r)) (hk:y.kind = 1):(Wi g t (y :: r),(y :: r).any (zG g t)) = cW g t (y :: r):=by
 rw [u4 hk];have G:wq g t y = true:=Ng ω;have O:zG g t y = false:=Nh ω;have U:(y :: r).all (wq g t) = r.all (wq g t):=by rw [List.all_cons,G]; rfl
 have R:(y :: r).any (zG g t) = r.any (zG g t):=by rw [List.any_cons,O]; rfl
 rw [R];congr 1;unfold Wi;rw [U];have u:r.filter (λx=>if x.kind = 1 then r.all (wq g t) else uZ g t x) = r.filter (uZ g t):=Z5 λx z=>by rw [YZ (Rk ho z)]
 by_cases h:r.all (wq g t) = true
 ·rw [Y5 h,aal (by rw [Y5 hk]; exact h),u]; rfl
 ·rw [YZ h,aam (by rw [Y5 hk]; exact h),u]; rfl
end
section
variable {w:aa4} {L:List az} {g:af} {x:GA}
theorem RJ {p t:Nat} (hc:ak g) (hg:gR (hp w) g x) (hp1:p < g.prods.length) (ht:t < g.T):ρ wG [.agg ⟨x.cells⟩,.int .i64 (p:Int),.int .i64 (t:Int)] w λv w'=>v = .int .i64 (d_ g p t)/\Gr w w':=by
 refine tp (cG hg λk1 w1 gw u B=>?_);have pl:=u.p.1;have tl:=u.t.1;have ll:=u.l.1;have eT:g.T = g.terms.length:=rfl;obtain ⟨y,ad,_,_,_,hy,ha,ry,_,_⟩:=Gq u.p (i:=p) ω;obtain ⟨z,a4,hz,Z,rz⟩:=Gp u.t (i:=t) ω;have Y:TW g p = y.level:=by unfold TW; rw [hy]
 have X:V_ g t = z.level:=by unfold V_; rw [hz]
 obtain ⟨p0,p1⟩:=Rg hc hy;refine ⟨_,_,_,B.c4 (sub.refl _),aq ha ω ⟨_,ry.cell (sub.refl _) (j:=2) rfl,_,_,_,B.c0 (sub.refl _),aq Z ω ⟨_,rz.cell (sub.refl _) (j:=1) rfl,?_⟩⟩⟩;have fin:∀ z:Int,z = d_ g p t->(.int .i64 z:Value) = .int .i64 (d_ g p t)/\Gr w w1:=λz e=>⟨by rw [e],gw⟩
 refine ae (λR=>fin _ ?_) λR=>ae (λG=>fin _ ?_) λG=>ae (λV=>fin _ ?_) λV=>ae (λW=>fin _ ?_) λW=>?_
 ·have R:y.level = 0:=by simpa using R
  unfold d_;rw [Y5 (.inl (by rw [Y]; exact R))]
 ·have G:z.level = 0:=by simpa using G
  unfold d_;rw [Y5 (.inr (by rw [X]; exact G))]
 ·have R:¬ y.level = 0:=by simpa using R
  have G:¬ z.level = 0:=by simpa using G
  have V:=YR V;unfold d_;rw [Y,X,YZ ω,Y5 V]
 ·have R:¬ y.level = 0:=by simpa using R
  have G:¬ z.level = 0:=by simpa using G
  have W:=YR W;unfold d_;rw [Y,X,YZ ω,YZ ω,Y5 W]
 have R:¬ y.level = 0:=by simpa using R
 have G:¬ z.level = 0:=by simpa using G
 have V:=YS V;have W:=YS W;obtain ⟨v,hv,ev,v1,v3⟩:=Rh hc (l:=y.level) ω p1;obtain ⟨a0,a1,rv⟩:=u.l.at hv
 have es:d_ g p t = if v = 1 then 2 else if v = 2 then 1 else 3:=by
  unfold d_;rw [Y,X,YZ ω,YZ V,YZ W,ev]
 have a5:=(YT.1 hv).1;have a3:=xj hc.2.1;refine ⟨_,_,_,B.c2 (sub.refl _),⟨ω,ω⟩,a0,a1,ω,ω,v,rv _ (sub.refl _),?_⟩;rw [es]
 refine ae (λO=>?_) λO=>ae (λU=>?_) λU=>?_
 ·have O:v = 1:=by simpa using O
  exact ⟨by rw [Y5 O],gw⟩
 ·have O:¬ v = 1:=by simpa using O
  have U:v = 2:=by simpa using U
  exact ⟨by rw [YZ O,Y5 U],gw⟩
 ·have O:¬ v = 1:=by simpa using O
  have U:¬ v = 2:=by simpa using U
  exact ⟨by rw [YZ O,YZ U],gw⟩
end
section
variable {g:af} {nn:List Bool} {ss:List SQ} {w:aa4} {L:List az} {h:Hp}
structure Fi (h:Hp) (oa og oc:aa3) (AL:List (Lq aJ)) (GL:List (Lq Int)) (CL:List q9):Prop where
 a:∀ (q:Nat) b,AL[q]? = some b->(∃ ad,oa = some ad/\∀ u:aa4,sub h (hp u)->u.cell? (ad.add q) = some (bF b))/\bh h b.2 b.1.1 b.2.length
 g:∀ (q:Nat) b,GL[q]? = some b->(∃ ad,og = some ad/\∀ u:aa4,sub h (hp u)->u.cell? (ad.add q) = some (bF b))/\bh h b.2 b.1.1 b.2.length
 c:bh h (CL.map jY) oc CL.length
theorem LR {o:aa3} {vs:List Value} {q:Nat} {v:Value} (r:fo o vs h) (hv:vs[q]? = some v):∃ ad,o = some ad/\∀ u:aa4,sub h (hp u)->u.cell? (ad.add q) = some v:=by
 rcases r with e | ⟨ad,e,z⟩
 ·rw [e] at hv; simp at hv
 ·exact ⟨ad,e,λu s=>lB (pz s (z q v hv))⟩
theorem Ni {oa og oc:aa3} {ca cg cc:Nat} {AL:List (Lq aJ)} {GL:List (Lq Int)} {CL:List q9} (hs:aD (Nc oa ca og cg oc cc AL GL CL ++ L) h):Fi h oa og oc AL GL CL:=by
 have hs:aD (own 1 oa AL.length ca (AL.map bF) :: aC (AL.map (bB 2 cJ)) :: own 1 og GL.length cg (GL.map bF) :: aC (GL.map (bB 1 iv)) :: own 3 oc CL.length cc (rP CL) :: aC (kR CL) :: L) h:=hs
 refine ⟨λq b G=>⟨LR (dJ 0 hs) (by rw [YW,G]; rfl),?_⟩,λq b G=>⟨LR (dJ 2 hs) (by rw [YW,G]; rfl),?_⟩,M_ (dJ 4 hs) λd R=>?_⟩
 ·obtain ⟨O,u,z⟩:=lF (A:=bB 2 cJ b) (i:=q) (aY hs) (by rw [YW,G]; rfl);exact (vq rfl (dJ 0 (lX z))).mono u
 ·obtain ⟨O,u,z⟩:=lF (A:=bB 1 iv b) (i:=q) (aY (aY (aY hs))) (by rw [YW,G]; rfl);exact (eO rfl (dJ 0 (lX z))).mono u
 ·obtain ⟨i,hi⟩:=Zr R;obtain ⟨O,u,z⟩:=lF (A:=bB 2 cJ d.2) (i:=i) (aY (aY (aY (aY (aY hs))))) (by unfold kR; rw [YW,hi]; rfl);exact (vq rfl (dJ 0 (lX z))).mono u
theorem Fi.mono {h' : Hp} {oa og oc:aa3} {AL:List (Lq aJ)} {GL:List (Lq Int)} {CL:List q9} (s:sub h h') (r:Fi h oa og oc AL GL CL):Fi h' oa og oc AL GL CL :=
 ⟨λq b R=>by obtain ⟨⟨O,e,U⟩,G⟩:=r.a q b R; exact ⟨⟨O,e,λu z=>U u (sub.trans s z)⟩,G.mono s⟩,λq b R=>by obtain ⟨⟨O,e,U⟩,G⟩:=r.g q b R; exact ⟨⟨O,e,λu z=>U u (sub.trans s z)⟩,G.mono s⟩,r.c.mono s⟩
def Yk (g:af) (w:aa4) (v:Value) (w' : aa4):Prop:=∃ (ss:List SQ) (ask int f:Int) (nn:List Bool) (oa:aa3) (ca:Nat) (og:aa3) (cg:Nat) (oc:aa3) (cc:Nat) (AL:List (Lq aJ)) (GL:List (Lq Int)) (CL:List q9),
 v = .tuple #[.agg #[.slice oa AL.length ca,.slice og GL.length cg,.slice oc CL.length cc],.int .i64 f]/\sV g ss ask int f/\(f = 0->j6 g nn)/\AL.map (·.2) = B_ g nn ss/\GL.map (·.2) = Fg g ss/\CL.map jY = zv g nn ss/\Fi (hp w') oa og oc AL GL CL/\Gr w w'
end
section
variable {w:aa4} {L:List az} {g:af} {x:GA}
theorem wN {a a2:aa3} {l l2 c c2:Nat} {xs ys:List aJ} (hx:bh (hp w) xs a l) (hy:bh (hp w) ys a2 l2) (hb:l<=4611686018427387904):ρ mF [.slice a l c,.slice a2 l2 c2] w λv w'=>v = .bool (decide (xs = ys))/\Gr w w':=by
 have R:=hx.1;have W:=hy.1
 refine kT (ae (λG=>?_) λG=>?_)
 ·have G:(l:Int)≠l2:=by simpa using G
  have:xs≠ys:=λe=>G (by rw [<- R,<- W,e]);exact ⟨by rw [Zu this],Gr.refl _⟩
 have G:(l:Int) = l2:=by simpa using G
 have G:l2 = l:=ω
 subst G;refine ⟨λz w'=>∃ j:Nat,z = j/\j<=l2/\xs.take j = ys.take j/\hp w' = hp w,λz _=>l2 - z.toNat,⟨0,rfl,Y4 _,rfl,rfl⟩,?_⟩;rintro _ _ w1 ⟨j,rfl,hj,hs,Z⟩;refine ae (λG=>?_) λG=>?_
 rotate_left
 ·have G:j = l2:=by have:=YS G; omega
  have:xs = ys:=Eu ω (by rw [R,<- G]; exact hs);exact ⟨by rw [Zp this],Gr.of_eq Z⟩
 have G:j < l2:=by have:=YR G; omega
 intro w2 hd;have V:hp w2 = hp w:=(aE hd).trans Z;have sb:∀ u:aa4,hp u = hp w->sub (hp w) (hp u):=λu e=>by rw [e]; exact sub.refl _
 obtain ⟨U,a0,X,p1,r1⟩:=ib hx G;obtain ⟨Y,a1,q2,p2,r2⟩:=ib hy G
 refine ⟨λu=>hp u = hp w,V,aq p1 G ⟨_,_,λu e=>r1.at (sb u e) rfl,aq p2 G ⟨_,_,λu e=>r2.at (sb u e) rfl,_,λu _=>Xr u _ _ U Y,_,rfl,ae (λO=>?_) λO=>?_⟩⟩⟩
 ·have O:U≠Y:=by simpa using O
  have:xs≠ys:=λe=>by rw [e,q2] at X; exact O (Option.some.inj X).symm
  exact ⟨by rw [Zu this],Gr.of_eq V⟩
 ·have O:U = Y:=by simpa using O
  subst O;exact ⟨⟨ω,ω⟩,⟨j + 1,σ,G,by rw [Y2,Y2,hs,X,q2],V⟩,bn G⟩
theorem Kg {a a2:aa3} {l l2 c c2:Nat} {xs ys:List bX} (hx:bh (hp w) xs a l) (hy:bh (hp w) ys a2 l2) (hb:l<=4611686018427387904) (hbs:∀ x∈xs,x.acts.length<=4611686018427387904):ρ oJ [.slice a l c,.slice a2 l2 c2] w λv w'=>v = .bool (decide (xs = ys))/\Gr w w':=by
 have Z:=hx.1;have a0:=hy.1
 refine mH (ae (λG=>?_) λG=>?_)
 ·have G:(l:Int)≠l2:=by simpa using G
  have:xs≠ys:=λe=>G (by rw [<- Z,<- a0,e]);exact ⟨by rw [Zu this],Gr.refl _⟩
 have G:(l:Int) = l2:=by simpa using G
 have G:l2 = l:=ω
 subst G;refine ⟨λz w'=>∃ j:Nat,z = j/\j<=l2/\xs.take j = ys.take j/\Gr w w',λz _=>l2 - z.toNat,⟨0,rfl,Y4 _,rfl,Gr.refl _⟩,?_⟩;rintro _ _ w1 ⟨j,rfl,hj,hs,g1⟩;refine ae (λG=>?_) λG=>?_
 rotate_left
 ·have G:j = l2:=by have:=YS G; omega
  have:xs = ys:=Eu ω (by rw [Z,<- G]; exact hs);exact ⟨by rw [Zp this],g1⟩
 have G:j < l2:=by have:=YR G; omega
 intro w2 hd;have g2:Gr w w2:=g1.trans (Gr.drawn hd);obtain ⟨W,a4,b1,d1,q1,p1,r1,t1⟩:=Et hx G;obtain ⟨X,a5,b2,d2,q2,p2,r2,t2⟩:=Et hy G;have no:W≠X->∀ {u:aa4},Gr w u->(.bool false:Value) = .bool (decide (xs = ys))/\Gr w u:=λa3 u gu=>⟨by rw [Zu λe=>by rw [e,q2] at q1; exact a3 (Option.some.inj q1).symm],gu⟩;refine ⟨λu=>Gr w2 u,Gr.refl _,aq p1 G ⟨_,_,_,λu s=>r1.cell (sub.trans g2 s) (j:=2) rfl,aq p2 G ⟨_,_,_,λu s=>r2.cell (sub.trans g2 s) (j:=2) rfl,(wN (t1.mono g2) (t2.mono g2) (hbs _ (YV q1))).mono ?_⟩⟩⟩;rintro _ w5 ⟨rfl,Y⟩;refine ⟨_,rfl,Y,λw6 a1=>?_⟩;have O:Gr w w6:=g2.trans (Y.trans (Gr.drawn a1));refine ⟨λu=>Gr w6 u,Gr.refl _,ae (λV=>no (λe=>by rw [e] at V; simp at V) O) λV=>?_⟩;refine aq p1 G ⟨_,λu s=>r1.cell0 (sub.trans O s),aq p2 G ⟨_,λu s=>r2.cell0 (sub.trans O s),ae (λR=>no (λe=>by rw [e] at R; simp at R) O) λR=>?_⟩⟩;refine aq p1 G ⟨_,λu s=>r1.cell (sub.trans O s) (j:=1) rfl,aq p2 G ⟨_,λu s=>r2.cell (sub.trans O s) (j:=1) rfl,ae (λU=>no (λe=>by rw [e] at U; simp at U) O) λU=>?_⟩⟩;have R:W.st = X.st:=by simpa using R
 have U:W.tm = X.tm:=by simpa using U
 have V:W.acts = X.acts:=by simpa using V
 have e:W = X:=by cases W; cases X; simp at R U V; simp [R,U,V]
 subst e;exact ⟨⟨ω,ω⟩,⟨j + 1,σ,G,by rw [Y2,Y2,hs,q1,q2],O⟩,bn G⟩
variable {w:aa4} {L:List az} {g:af} {x:GA}
theorem Wj {xs:List aJ} {a:aa3} {c:Nat} {d:Bool} (hr:bh (hp w) xs a xs.length):ρ wI [.slice a xs.length c,.bool d] w λv w'=>v = .agg ⟨cf (rM (xs,d))⟩/\Gr w w':=by
 refine tw (ag (St.all w) λY W h=>?_);have X:Gr w W:=h.aW
 refine ae (λu=>?_) λu=>ae (λG=>?_) λG=>?_
 ·have u:0 < xs.length:=by have:=YR u; omega
  obtain ⟨y,R,V,rfl,U⟩:=ib (hr.mono X) u;rw [show (cE 0 2) = 0 from rfl,show R.add 0 = R from by simp [Addr.add]] at U;refine iW rfl u ⟨_,_,U.at (sub.refl _) rfl,aU h rfl (by simp [aG]) λO h=>⟨_,_,(ah 0 h.l).at (sub.refl _) rfl,?_,h.aW⟩⟩;cases xs with
  | nil=>simp at u
  | cons z r=>simp at V; subst V; rfl
 ·have e:xs = []:=Y9 (by have:=YS u; omega);subst e;subst G;exact aU h rfl (by simp [aG]) λO h=>⟨_,_,(ah 0 h.l).at (sub.refl _) rfl,rfl,h.aW⟩
 ·have e:xs = []:=Y9 (by have:=YS u; omega);subst e;subst G;exact aU h rfl (by simp [aG]) λO h=>⟨_,_,(ah 0 h.l).at (sub.refl _) rfl,rfl,h.aW⟩
theorem Wk {xs:List aJ} {a:aa3} {c t:Nat} (hc:ak g) (hg:gR (hp w) g x) (hr:bh (hp w) xs a xs.length) (ho:uX g.prods.length xs) (ht:t < g.T):ρ wH [.agg ⟨x.cells⟩,.int .i64 (t:Int),.slice a xs.length c] w λv w'=>∃ (o:aa3) (c' : Nat),v = .tuple #[.slice o (cW g t xs).1.length c',.bool (cW g t xs).2]/\St w' (own 2 o (cW g t xs).1.length c' (cJ (cW g t xs).1) :: all w):=by
 obtain ⟨sT,sN,sP,bi,_,_⟩:=hc.b9;have ba:=Nb ω ho;refine tt (cG hg λk1 w1 gw aa B=>?_);have a7:=hr.mono gw
 refine ⟨λb u=>w1 = u/\(b = true↔∃ y r,xs = y :: r/\y.kind = 1),ae (λG=>?_) λG=>⟨rfl,?_⟩,?_⟩
 ·have G:0 < xs.length:=by have:=YR G; omega
  obtain ⟨y,ad,hy,rfl,ry⟩:=ib a7 G
  obtain ⟨r,b0⟩ : ∃ r,xs = y :: r:=by
   cases xs with
   | nil=>simp at G
   | cons z r=>simp at hy; subst hy; exact ⟨r,rfl⟩
  rw [show (cE 0 2) = 0 from rfl,show ad.add 0 = ad from by simp [Addr.add]] at ry;refine iW rfl G ⟨_,ry.cell0 (sub.refl _),rfl,?_⟩;rw [b0]
  constructor
  ·intro h;exact ⟨y,r,rfl,by simpa using h⟩
  ·rintro ⟨y',r',e,h⟩;cases e;simpa using h
 ·have e:xs = []:=Y9 (by have:=YS G; omega);subst e;exact ⟨λh=>(by cases h),λ⟨_,_,h,_⟩=>(by cases h)⟩
 rintro _ W _ ⟨rfl,hb⟩
 -- an action's a0
 have a0:∀ y∈xs,y.kind = 2->∃ p:Nat,y.to = p/\p < g.prods.length/\uY g t y = d_ g p t:=λy hy O=>by
  obtain ⟨bG,a3⟩ : 0 < y.to/\y.to < g.prods.length:=by
   rcases Rj ho hy with ⟨h,_⟩ | ⟨h,_⟩ | ⟨_,h⟩
   ·omega
   ·omega
   ·exact h
  refine ⟨y.to.toNat,ω,ω,?_⟩;unfold uY; rw [Y5 O]
 refine ⟨λb2 b3 z u=>∃ i:Nat,z = i/\i<=xs.length/\b2 = (!W || (xs.take i).all (wq g t))/\b3 = (W && (xs.take i).any (zG g t))/\Gr w1 u,λ_ _ z _=>xs.length - z.toNat,⟨0,rfl,Y4 _,σ,σ,Gr.refl _⟩,?_⟩;rintro _ _ _ _ w3 ⟨i,rfl,hi,rfl,rfl,Z⟩
 refine ae (λG=>?_) λG=>?_
 ·have G:i < xs.length:=by have:=YR G; omega
  obtain ⟨y,ad,hy,rfl,ry⟩:=ib (a7.mono Z) G;have a8:=YV hy;have X:xs.take (i + 1) = xs.take i ++ [y]:=by rw [Y2,hy]; rfl
  have next:∀ {u:aa4} (b2 b3:Bool),b2 = (!W || (xs.take (i + 1)).all (wq g t))->b3 = (W && (xs.take (i + 1)).any (zG g t))->Gr w1 u->ax ((i:Int) + 1)/\(∃ i' : Nat,(i:Int) + 1 = i'/\i'<=xs.length/\b2 = (!W || (xs.take i').all (wq g t))/\b3 = (W && (xs.take i').any (zG g t))/\Gr w1 u)/\xs.length - ((i:Int) + 1).toNat < xs.length - (i:Int).toNat:=λb2 b3 e2 e3 gu=>⟨⟨ω,ω⟩,⟨i + 1,σ,G,e2,e3,gu⟩,bn G⟩
  refine aq rfl G ⟨_,ry.cell0 (sub.refl _),ae (λO=>next _ _ ?_ ?_ Z) λO=>ae (λR=>next _ _ ?_ ?_ Z) λR=>?_⟩
  ·have O:y.kind≠2:=by simpa using O
   rw [X,aaM]; simp [Ng O]
  ·have O:y.kind≠2:=by simpa using O
   rw [X,List.any_append]; simp [Nh O]
  ·have R:W = false:=by simpa using R
   rw [R]; simp
  ·have R:W = false:=by simpa using R
   rw [R]; simp
  have O:y.kind = 2:=by simpa using O
  have R:W = true:=by simpa using R
  obtain ⟨p,hp,a3,es⟩:=a0 y a8 O;intro w4 hd;have ac:Gr w1 w4:=Z.trans (Gr.drawn hd);refine ⟨λu=>Gr w3 u,Gr.drawn hd,_,_,_,_,_,_,_,_,_,_,_,_,_,λu s=>B.row (sub.trans Z s),aq rfl G ⟨_,λu s=>ry.cell s (j:=1) rfl,?_⟩⟩;rw [hp];refine (RJ hc (aa.mono ac) a3 ht).mono ?_;rintro _ w7 ⟨rfl,aT⟩;rw [<- es];have Y:=ac.trans aT;have be:=Rl (g:=g) t y;rw [R] at next ⊢
  have e2:(!true || (xs.take (i + 1)).all (wq g t)) = ((xs.take i).all (wq g t) && (uY g t y != 2 && uY g t y != 3)):=by
   rw [X,aaM]
   have:wq g t y = (uY g t y != 2 && uY g t y != 3):=by
    unfold wq;by_cases V:uY g t y = 2 <;> by_cases h5:uY g t y = 3 <;> simp [V,h5]
   simp [this]
  have e3:(true && (xs.take (i + 1)).any (zG g t)) = ((xs.take i).any (zG g t) || (uY g t y == 3)):=by
   rw [X,List.any_append]
   have:zG g t y = (uY g t y == 3):=by
    unfold zG;by_cases h5:uY g t y = 3 <;> simp [h5]
   simp [this]
  have st:(!true || (xs.take i).all (wq g t)) = (xs.take i).all (wq g t):=σ
  have nt:(true && (xs.take i).any (zG g t)) = (xs.take i).any (zG g t):=σ
  rw [st,nt]
  refine ⟨_,rfl,(Gr.drawn hd).trans aT,ae (λV=>ae (λh5=>ae (λh6=>?_) λh6=>?_) λh5=>ae (λh6=>?_) λh6=>?_) λV=>ae (λh6=>?_) λh6=>?_⟩
  ·exact next _ _ (by rw [e2,V,h5]; simp) (by rw [e3,h6]; simp) Y
  ·exact next _ _ (by rw [e2,V,h5]; simp) (by rw [e3,h6]; simp) Y
  ·exact next _ _ (by rw [e2,V,h5]; simp) (by rw [e3,h6]; simp) Y
  ·exact next _ _ (by rw [e2,V,h5]; simp) (by rw [e3,h6]; simp) Y
  ·exact next _ _ (by rw [e2,V]; simp) (by rw [e3,h6]; simp) Y
  ·exact next _ _ (by rw [e2,V]; simp) (by rw [e3,h6]; simp) Y
 have G:i = xs.length:=by have:=YS G; omega
 subst G;rw [Zi];obtain ⟨F,hF⟩ : ∃ F:aJ->Bool,F = λx=>if W = true then (if x.kind = 1 then xs.all (wq g t) else uZ g t x) else true:=⟨_,rfl⟩
 have b7:∀ i,((xs.take i).filter F).length<=xs.length:=λi=>by
  have G:=Zt F (xs.take i);rw [Zj] at G;omega
 have aI:(xs.filter F,(W && xs.any (zG g t))) = cW g t xs:=by
  by_cases h:W = true
  ·obtain ⟨y,r,rfl,hk⟩:=hb.1 h;rw [<- T7 ho hk,hF,h];unfold Wi;simp
  ·have e1:xs.filter F = xs:=List.filter_eq_self.2 λx _=>by rw [hF]; simp [h]
   have h:W = false:=by simpa using h
   rw [e1,h];cases xs with
   | nil=>rfl
   | cons y r=>exact (AU λhk=>by have:=hb.2 ⟨y,r,rfl,hk⟩; rw [h] at this; cases this).symm
 refine ⟨λo n c' z u=>∃ i:Nat,z = i/\i<=xs.length/\n = ((xs.take i).filter F).length/\St u (own 2 o n c' (cJ ((xs.take i).filter F)) :: has (hp w1) :: []),λ_ _ _ z _=>xs.length - z.toNat,⟨0,rfl,Y4 _,rfl,ay 2 (St.here Z)⟩,?_⟩;rintro _ o5 _ c5 _ w8 ⟨i,rfl,hi,rfl,h⟩;have a6:Gr w1 w8:=aR 1 h.l;refine ae (λG=>?_) λG=>?_
 rotate_left
 ·have G:i = xs.length:=by have:=YS G; omega
  subst G;rw [Zi] at h ⊢;rw [<- aI];exact ⟨_,_,rfl,St.nf h (bH gw)⟩
 have G:i < xs.length:=by have:=YR G; omega
 obtain ⟨y,ad,hy,rfl,ry⟩:=ib (a7.mono a6) G;have a8:=YV hy;have X:xs.take (i + 1) = xs.take i ++ [y]:=by rw [Y2,hy]; rfl
 have bl:=b7 i
 refine ⟨λb4 u=>w8 = u/\b4 = (if y.kind = 1 then (!W || xs.all (wq g t)) else true),aq rfl G ⟨_,ry.cell0 (sub.refl _),ae (λO=>⟨rfl,?_⟩) λO=>⟨rfl,?_⟩⟩,?_⟩
 ·have O:y.kind = 1:=by simpa using O
  rw [Y5 O]
 ·have O:¬ y.kind = 1:=by simpa using O
  rw [YZ O]
 rintro _ b4 _ ⟨rfl,ab⟩;have a4:F y = if W = true then (if y.kind = 1 then xs.all (wq g t) else uZ g t y) else true:=by rw [hF]
 refine ⟨λb5 u=>Gr w8 u/\St u (own 2 o5 ((xs.take i).filter F).length c5 (cJ ((xs.take i).filter F)) :: has (hp w1) :: [])/\b5 = F y,aq rfl G ⟨_,ry.cell0 (sub.refl _),ae (λO=>ae (λR=>?_) λR=>⟨Gr.refl _,h,?_⟩) λO=>⟨Gr.refl _,h,?_⟩⟩,?_⟩
 ·have O:y.kind = 2:=by simpa using O
  obtain ⟨p,hp,a3,es⟩:=a0 y a8 O;intro b6 hd;have a1:Gr w8 b6:=Gr.drawn hd;refine ⟨λu=>Gr w8 u,a1,_,_,_,_,_,_,_,_,_,_,_,_,_,λu s=>B.row (sub.trans a6 s),aq rfl G ⟨_,λu s=>ry.cell s (j:=1) rfl,?_⟩⟩;rw [hp];refine (RJ hc (aa.mono (a6.trans a1)) a3 ht).mono ?_;rintro _ bC ⟨rfl,a9⟩;have U:=a1.trans a9;rw [<- es]
  refine ⟨_,rfl,U,ae (λV=>⟨U,h.gr U,?_⟩) λV=>⟨U,h.gr U,?_⟩⟩
  ·have V:uY g t y = 0:=by simpa using V
   rw [a4,Y5 R,YZ ω];exact (Zp (.inl V)).symm
  ·have V:¬ uY g t y = 0:=by simpa using V
   rw [a4,Y5 R,YZ ω];unfold uZ;by_cases h5:uY g t y = 2 <;> simp [V,h5]
 ·rw [a4,ab,R]; simp
 ·have O:¬ y.kind = 2:=by simpa using O
  rw [a4,ab];cases W with
  | false=>simp
  | true =>
   by_cases R:y.kind = 1
   ·simp [R]
   ·simp [R,T6 O]
 rintro _ b5 bA ⟨am,h,a5⟩
 refine ae (λO=>?_) λO=>?_
 ·rw [O] at a5;have e:(xs.take (i + 1)).filter F = (xs.take i).filter F ++ [y]:=by rw [X,Zs,aal a5.symm]; simp
  refine aq rfl G ⟨_,_,ry.at am rfl,ag h λbd bb h=>?_⟩;refine (aL (us:=cJ ((xs.take i).filter F)) aQ (rfl:aj Ty _ = .slice _) (rfl:aj Ty _ = .slice _) rfl rfl rfl h rfl (by simp [aG]) (by show (((xs.take i).filter F).length + 1) * 16<=_; omega) ω).mono ?_;rintro _ bc ⟨o4,c4,rfl,h⟩;refine ⟨_,_,_,rfl,⟨ω,ω⟩,⟨i + 1,σ,G,by rw [e]; simp,?_⟩,bn G⟩;rw [e,zx];exact h.pick 2 [0]
 ·rw [O] at a5;have e:(xs.take (i + 1)).filter F = (xs.take i).filter F:=by rw [X,Zs,aam (by rw [<- a5]; simp)]; simp
  exact ⟨⟨ω,ω⟩,⟨i + 1,σ,G,by rw [e],by rw [e]; exact h⟩,bn G⟩
end
section
variable {g:af} {nn:List Bool} {ss:List SQ}
theorem Nj (hc:ak g) (hA:bw g ss) {q m d:Nat} {r:SQ} {p:aP} {s:Int} (hq:ss[q]? = some r) (hy:pI g r.1.2 ⟨(m:Int),(d:Int)⟩) (hp:g.prods[m]? = some p) (hs:p.right[d]? = some s) (hT:(g.T:Int)<=s):∃ (v j:Nat) (r' : SQ),(bD g ss)[v]? = some ⟨(q:Int),s⟩/\fy ss q s = some (j:Int)/\ss[j]? = some r'/\(⟨(m:Int),((d + 1:Nat):Int)⟩ : ai)∈r'.1.2:=by
 obtain ⟨j,r',u,G,z⟩:=vl hc hA hq hy (gf hp hs) ω;obtain ⟨v,hv⟩:=Q5 (g:=g) u hT;exact ⟨v,j,r',hv,u,G,by simpa using z⟩
end
inductive Bb (g:af) (ss:List SQ):Nat->Nat->Nat->Nat->Prop
 | st:Bb g ss 0 0 0 0
 | sh (q m d j x:Nat) (p:aP) (s:Int):g.prods[m]? = some p->p.right[d]? = some s->fy ss q s = some (j:Int)->Bb g ss q m d x->Bb g ss j m (d + 1) x
 | fs (q m d n x:Nat) (p p' : aP) (s:Int) (r:SQ):ss[q]? = some r->pI g r.1.2 ⟨(m:Int),(d:Int)⟩->g.prods[m]? = some p->p.right[d]? = some s->g.prods[n]? = some p'->p'.left = s->sW g (p.right.drop (d + 1)) x->Bb g ss q n 0 x
 | up (q m d n x:Nat) (p p' : aP) (s:Int):g.prods[m]? = some p->p.right[d]? = some s->g.prods[n]? = some p'->p'.left = s->E9 g (p.right.drop (d + 1))->Bb g ss q m d x->Bb g ss q n 0 x
section
variable {g:af} {nn:List Bool} {ss:List SQ}
theorem Bb.Yl (hc:ak g) (hA:bw g ss) {m i x:Nat} {p:aP} (hp:g.prods[m]? = some p) (h:Bb g ss i m 0 x) (hi:i < ss.length):∀ (d q:Nat),d<=p.right.length->cK ss (i:Int) (p.right.take d) = (q:Int)->Bb g ss q m d x/\q < ss.length
 | 0,q,_,hw=>by
  rw [List.take_zero] at hw
  have hw:(i:Int) = q:=hw
  have:i = q:=ω
  subst this
  exact ⟨h,hi⟩
 | d + 1,q,hd,hw=>by
  have hs:p.right[d]? = some p.right[d]:=YU ω
  rw [bI hs,uE (λi s j h=>iq hc hA h) _ _ _ (Zx _) ω] at hw
  obtain ⟨k,hk⟩ : ∃ k,k = cK ss (i:Int) (p.right.take d):=⟨_,rfl⟩
  rw [<- hk] at hw
  by_cases h0:k = -1
  ·rw [Y5 h0] at hw; omega
  ·rw [YZ h0] at hw
   have hk0:0<=k:=by
    rcases y_ (ss:=ss) (λi s j h=>iq hc hA h) (p.right.take d) i (Zx _) ω with h | h
    ·rw [<- hk] at h; exact absurd h h0
    ·rw [<- hk] at h; exact h.1
   obtain ⟨k',rfl⟩ : ∃ k' : Nat,k = k':=⟨k.toNat,ω⟩
   obtain ⟨ih,ihl⟩:=Bb.Yl hc hA hp h hi d k' ω hk.symm
   rw [jT,Za] at hw
   cases hn:fy ss k' p.right[d] with
   | none=>rw [hn] at hw; simp at hw
   | some j =>
    rw [hn] at hw
    have hw:cK ss j [] = (q:Int):=hw
    have hj:j = q:=hw
    subst hj
    obtain ⟨_,_,_,_,_,_,hto⟩:=qN hn
    exact ⟨.sh k' m d q x p _ hp hs hn ih,(iq hc hA hn).2 |> λh=>ω⟩
theorem Wl (hc:ak g) {p:aP} (hp:p∈g.prods) {s:Int} (hs:s∈p.right):s≠g.T:=by
 obtain ⟨_,R,u,W,z,V,G,_⟩:=hc;obtain ⟨n,O⟩:=Zr hp;cases n with
 | zero =>
  rw [z] at O; cases O;rw [G,Zl] at hs;have:=u.2.2.2.2.1;omega
 | succ n =>
  have U:p∈g.prods.drop 1:=by
   refine YV (i:=n) ?_;rw [Zv,aaQ]; exact O
  have:=(u.2.2.1 p U).2 s hs;unfold fw at this;omega
theorem Nk (hc:ak g) {n:Nat} {p p' : aP} {s:Int} (hp:p∈g.prods) (hs:s∈p.right) (hn:g.prods[n]? = some p') (hl:p'.left = s):n≠0:=λh=>by
 subst h
 have h:=Wl hc hp hs
 obtain ⟨_,_,_,G,u,z,_⟩:=hc
 rw [u] at hn; cases hn
 omega
theorem T8 (hc:ak g) (hA:bw g ss) (hn:j6 g nn) {v x:Nat} (h:dN (vW g nn ss) (LF g nn ss) v x):∀ (i:Nat) t,(bD g ss)[v]? = some t->t.st = i->∀ (n:Nat) p',g.prods[n]? = some p'->p'.left = t.sym->Bb g ss i n 0 x:=by
 refine dN.least (Q:=λv x=>∀ (i:Nat) t,(bD g ss)[v]? = some t->t.st = i->∀ (n:Nat) p',g.prods[n]? = some p'->p'.left = t.sym->Bb g ss i n 0 x) (λv x hx i t ht hi n p' R hl=>?_) (λv u x hu ih i t ht hi n p' R hl=>?_) h
 ·rw [LH (YT.1 ht).1] at hx;obtain ⟨x',e,_,hh⟩:=iN.1 hx;have:x' = x:=ω
  subst this;obtain ⟨W,j,q,r,f1,hq,f3,f4,f5,hr,a0⟩:=xP hc hA ht;have:W = i:=ω
  subst this
  rcases TS hc hA hn hh W j t ht f1 f4 with ⟨rfl,rfl⟩ | X
  ·have hi:W = 0:=by have f1:(0:Int) = W:=f1; omega
   subst hi;obtain ⟨_,_,_,p0,a4,a5,Y,_⟩:=hc;exact .up 0 0 0 n 0 p0 p' _ a4 (by rw [Y]; rfl) R hl (λs V=>by rw [Y] at V; simp at V) .st
  ·obtain ⟨z,hz,hf⟩:=X.item hc hA r hr;rw [a0] at hz;obtain ⟨y,h1,Z,rfl⟩:=de.1 hz;obtain ⟨p,hp,V,_⟩:=zr (y:=y) (by rw [Z]; omega);obtain ⟨hT,hN,hP,a6,_,_⟩:=hc.b9;have hK:=(fN hA hq).1;have O:=h1.fit ((dE (g:=g) ω W).fit _ (YV hK));have hd:(y.dot + 1).toNat = y.dot.toNat + 1:=by have:=O.2.1; omega
   unfold rest at hf;rw [show g.prods[((⟨y.prod,y.dot + 1⟩ : ai).prod).toNat]? = some p from hp] at hf;have hf:sW g (p.right.drop (y.dot + 1).toNat) x':=hf;rw [hd] at hf;rw [Z] at V;refine .fs W y.prod.toNat y.dot.toNat n x' p p' _ q hq ?_ hp V R hl hf
   have e:(⟨(y.prod.toNat:Int),(y.dot.toNat:Int)⟩ : ai) = y:=by
    have a1:=O.1; have a2:=O.2.1;cases y; simp at *; omega
   rw [e]; exact h1
 ·obtain ⟨h1,Z,G⟩:=Q4.1 hu;have U : (bD g ss)[u]? = some (bD g ss)[u]:=YU Z;unfold zc at G;rw [U] at G;simp only [aaf] at G;obtain ⟨m,hm,G⟩:=G;rw [Zd] at G;obtain ⟨_,G⟩:=G;cases hp:g.prods[m]? with
  | none=>rw [hp] at G; cases G
  | some p =>
   rw [hp] at G;simp only [Zd,aaf,Y7] at G;obtain ⟨h4,k,hk,X,h6⟩:=G;have hk:=Zo.1 hk;rw [ht] at X;have X:=Option.some.inj X;subst X;obtain ⟨i0,j0,q0,_,f1,a3,_⟩:=xP hc hA U;have V:p.right[k]? = some (p.right.getD k 0):=by rw [YX,YU hk]; rfl
   have hi:cK ss (bD g ss)[u].st (p.right.take k) = (i:Int):=hi;rw [f1] at hi;have hb:=ih i0 _ U f1 m p hp h4;have:=(hb.Yl hc hA hp (YT.1 a3).1 k i ω hi).1;exact .up i m k n x p p' _ hp V R hl ((JZ hc hn).1 h6) this
structure Ym (g:af) (nn:List Bool) (ss:List SQ) (q m d x:Nat):Prop where
 it:∃ r,ss[q]? = some r/\pI g r.1.2 ⟨(m:Int),(d:Int)⟩
 pr:∃ p,g.prods[m]? = some p/\d<=p.right.length/\(m = 0->x = 0/\cK ss 0 (p.right.take d) = (q:Int)) /\
  (m≠0->∃ (i v:Nat),(bD g ss)[v]? = some ⟨(i:Int),p.left⟩/\cK ss (i:Int) (p.right.take d) = (q:Int)/\dN (vW g nn ss) (LF g nn ss) v x)
theorem Bb.inv (hc:ak g) (hA:bw g ss) (hn:j6 g nn) {q m d x:Nat} (h:Bb g ss q m d x):Ym g nn ss q m d x:=by
 have a4:=hc;obtain ⟨_,_,a7,p0,a1,aa,a0,_⟩:=a4;have ab:=a7.2.2.2.2.1;have U:=hA.pos
 induction h with
 | st =>
  obtain ⟨r,O⟩ : ∃ r,ss[0]? = some r:=⟨_,YU U⟩;have hK:=(fN hA O).1
  have e:r.1.2 = [⟨0,0⟩]:=by
   have:(cN g 0).1[0]? = some [⟨0,0⟩]:=rfl;rw [this] at hK;exact (Option.some.inj hK).symm
  exact ⟨⟨r,O,.base (by rw [e]; simp)⟩,p0,a1,Y4 _,λ_=>⟨rfl,rfl⟩,λh=>absurd rfl h⟩
 | sh q m d j x p s hp z hj _ ih =>
  obtain ⟨⟨r,O,G⟩,p',Y,hd,h0,h1⟩:=ih;rw [hp] at Y; cases Y;have R:=(YT.1 z).1;have a9:=hc.sym (YV hp) (YV z);obtain ⟨j',r',e1,e2,e3⟩:=vl hc hA O G (gf hp z) ω;rw [hj] at e1;have:j = j':=by have:=Option.some.inj e1; omega
  subst this
  have step:∀ i:Nat,i < ss.length->cK ss (i:Int) (p.right.take d) = (q:Int)->cK ss (i:Int) (p.right.take (d + 1)) = (j:Int):=λi hi Z=>by
   rw [bI z,uE (λi s j h=>iq hc hA h) _ _ _ (Zx _) ω,Z,YZ ω,jT,Za,hj];rfl
  refine ⟨⟨r',e2,.base (by simpa using e3)⟩,p,hp,R,λV=>⟨(h0 V).1,?_⟩,λV=>?_⟩
  ·have:=step 0 U (h0 V).2;exact this
  ·obtain ⟨i,v,q1,q2,q3⟩:=h1 V;obtain ⟨i',_,q',_,f1,a6,_⟩:=xP hc hA q1;have:i = i':=by have f1:(i:Int) = i':=f1; omega
   subst this;exact ⟨i,v,q1,step i (YT.1 a6).1 q2,q3⟩
 | fs q m d n x p p' s r O G hp z hn' hl hf =>
  have W:(g.T:Int)<=s:=by rw [<- hl]; exact hc.left (YV hn')
  obtain ⟨v,j,r',hv,f1,f2,f3⟩:=Nj hc hA O G hp z W;have X:=Nk hc (YV hp) (YV z) hn' hl;refine ⟨⟨r,O,.step G (by rw [gf hp z]; omega) hn' (by rw [gf hp z]; exact hl)⟩,p',hn',Y4 _,λh=>absurd h X,λ_=>⟨q,v,by rw [hl]; exact hv,rfl,dN.iff.2 (.inl ?_)⟩⟩;have hh:=(Ff.V8 hc hA hp f2 (.base f3) hf).has hc hA hn v q _ hv rfl f1;have a8:=Xn hc hA hh;obtain ⟨sT,_⟩:=hc.b9;rw [LH (YT.1 hv).1];exact iN.2 ⟨x,rfl,ω,hh⟩
 | up q m d n x p p' s hp z hn' hl hnu _ ih =>
  obtain ⟨⟨r,O,G⟩,p2,a3,hd,h0,h1⟩:=ih;rw [hp] at a3; cases a3;have W:(g.T:Int)<=s:=by rw [<- hl]; exact hc.left (YV hn')
  obtain ⟨v,j,r',hv,f1,f2,f3⟩:=Nj hc hA O G hp z W;have X:=Nk hc (YV hp) (YV z) hn' hl;refine ⟨⟨r,O,.step G (by rw [gf hp z]; omega) hn' (by rw [gf hp z]; exact hl)⟩,p',hn',Y4 _,λh=>absurd h X,λ_=>⟨q,v,by rw [hl]; exact hv,rfl,?_⟩⟩
  by_cases V:m = 0
  ·subst V;obtain ⟨rfl,Z⟩:=h0 rfl;rw [a1] at hp; cases hp;have R:=(YT.1 z).1;rw [a0] at R;have a5:d = 0:=by simp at R; omega
   subst a5;have hq:(0:Int) = q:=Z;have hq:q = 0:=ω
   subst hq;rw [a0] at z;have z:g.start = s:=Option.some.inj z;subst z;obtain ⟨sT,_⟩:=hc.b9;have hd:dN (sZ g nn ss) (qZ g ss) v 0:=dN.iff.2 (.inl ((HJ hc hA hv rfl f1).2 (.inl ⟨rfl,rfl⟩)));refine dN.iff.2 (.inl ?_);rw [LH (YT.1 hv).1];exact iN.2 ⟨0,rfl,ω,hd⟩
  ·obtain ⟨i,u,hu,Z,hh⟩:=h1 V;refine dN.iff.2 (.inr ⟨u,Q4.2 ⟨(YT.1 hv).1,(YT.1 hu).1,?_⟩,hh⟩);unfold zc;rw [hu];simp only [aaf,Zo];refine ⟨m,(YT.1 hp).1,?_⟩;rw [Zp V,aaz,hp];simp only [decide_true,aaz,aaf,Zo,Zd,Y7];refine ⟨d,(YT.1 z).1,?_,(JZ hc hn).2 hnu⟩;rw [hv,Z,YX,z];rfl
theorem RK (hc:ak g) (hA:bw g ss) (hn:j6 g nn) {q m:Nat} {p:aP} (hp:g.prods[m]? = some p) (hm:m≠0) {z:Int}:z∈(eZ g (EJ g nn ss) ⟨(q:Int),(m:Int),cq (bD g ss).length (dM g ss q m)⟩).tm↔∃ x:Nat,z = x/\x < g.T/\Bb g ss q m p.right.length x:=by
 rw [J0];refine exists_congr λx=>and_congr_right λ_=>and_congr_right λhx=>?_
 constructor
 ·rintro ⟨t,ht,hf⟩;obtain ⟨u,rfl,Y,hb⟩:=df.1 ht;have ht:(bD g ss)[u]? = some (bD g ss)[u]:=YU Y;obtain ⟨R,p',G,V⟩:=(jV ht).1 hb;rw [hp] at G; cases G;obtain ⟨_,p2,O,Z⟩:=jt.1 R;rw [hp] at O; cases O;rw [Za,Q6 Y] at hf;obtain ⟨x',e,_,hh⟩:=iN.1 hf;have:x' = x:=ω
  subst this;obtain ⟨i,_,q0,_,f1,U,_⟩:=xP hc hA ht;have h0:=T8 hc hA hn hh i _ ht f1 m p hp Z;rw [f1] at V;exact (h0.Yl hc hA hp (YT.1 U).1 p.right.length q (Zc _) (by rw [Zi]; exact V)).1
 ·intro h;obtain ⟨_,p',G,_,_,h1⟩:=h.inv hc hA hn;rw [hp] at G; cases G;obtain ⟨i,v,W,X,q3⟩:=h1 hm;rw [Zi] at X;have hv:=(YT.1 W).1;obtain ⟨sT,_⟩:=hc.b9;refine ⟨(v:Int),df.2 ⟨v,rfl,hv,(jV W).2 ⟨jt.2 ⟨ω,p,hp,rfl⟩,p,hp,X⟩⟩,?_⟩;rw [Za,Q6 hv];exact iN.2 ⟨x,rfl,ω,q3⟩
end
abbrev fa:=Nat->Nat->List Bool
def bW (g:af) (ss:List SQ) (q:Nat):List ai:=match ss[q]? with
 | some r=>cls g r.1.2
 | none=>[]
def iS (g:af) (ss:List SQ) (q i:Nat):Option ai:=(bW g ss q)[i]?
def OB (g:af) (ss:List SQ) (q:Nat):List (Nat × Nat):=(List.range (bW g ss q).length).map λi=>(q,i)
def Fj (g:af) (ss:List SQ) (n:Nat):List (Nat × Nat):=(List.range n).flatMap (OB g ss)
abbrev gm (g:af) (ss:List SQ):List (Nat × Nat):=Fj g ss ss.length
def EM (F:fa) (q i:Nat) (v:List Bool):fa:=λq' i'=>if q' = q/\i' = i then v else F q' i'
def oM (D:List (Nat × Nat)) (F:fa):Nat:=(D.map λx=>bg (F x.1 x.2)).sum
section
variable {g:af} {nn:List Bool} {ss:List SQ} {F F' F0:fa} {q i:Nat} {v:List Bool} {D:List (Nat × Nat)}
theorem ic:EM F q i v q i = v:=by unfold EM; rw [Y5 ⟨rfl,rfl⟩]
theorem oN {q' i' : Nat} (h:¬ (q' = q/\i' = i)):EM F q i v q' i' = F q' i':=by unfold EM; rw [YZ h]
theorem Kh:EM F q i (F q i) = F:=by
 funext q' i'; unfold EM
 by_cases h:q' = q/\i' = i
 ·rw [Y5 h,h.1,h.2]
 ·rw [YZ h]
theorem Gu {n:Nat}:Fj g ss (n + 1) = Fj g ss n ++ OB g ss n:=by unfold Fj; rw [Z1,ZB]; simp
theorem ED {x:Nat × Nat}:x∈OB g ss q↔x.1 = q/\x.2 < (bW g ss q).length:=by
 unfold OB;rw [Zh]
 constructor
 ·rintro ⟨i,hi,rfl⟩; exact ⟨rfl,Zo.1 hi⟩
 ·rintro ⟨rfl,h⟩; exact ⟨x.2,Zo.2 h,rfl⟩
theorem jB {n:Nat} {x:Nat × Nat}:x∈Fj g ss n↔x.1 < n/\x.2 < (bW g ss x.1).length:=by
 unfold Fj;rw [aaa]
 constructor
 ·rintro ⟨q,G,h⟩;obtain ⟨rfl,u⟩:=ED.1 h;exact ⟨Zo.1 G,u⟩
 ·rintro ⟨z,u⟩; exact ⟨x.1,Zo.2 z,ED.2 ⟨rfl,u⟩⟩
theorem HT:∀ n,(Fj g ss n).Nodup
 | 0=>by simp [Fj]
 | n + 1=>by
  rw [Gu,ZE]
  refine ⟨HT n,?_,λa ha b hb e=>?_⟩
  ·unfold OB
   rw [ZH,ZO]
   exact List.Pairwise.imp (λh e=>h (by cases e; rfl)) (ZH.1 List.nodup_range)
  ·have h1:=jB.1 ha
   have h2:=ED.1 hb
   rw [e] at h1; omega
theorem CJ {y:ai} (h:iS g ss q i = some y):q < ss.length/\i < (bW g ss q).length:=by
 refine ⟨?_,(YT.1 h).1⟩;refine Nat.lt_of_not_le λu=>?_;unfold iS bW at h;rw [Zf u] at h;simp at h
theorem jC {y:ai} (h:iS g ss q i = some y):(q,i)∈gm g ss:=jB.2 (CJ h)
theorem Nl {r:SQ} (hr:ss[q]? = some r):bW g ss q = cls g r.1.2:=by unfold bW; rw [hr]
theorem zB {r:SQ} {y:ai} (hr:ss[q]? = some r) (h:pI g r.1.2 y):∃ i,iS g ss q i = some y:=by
 obtain ⟨i,hi⟩:=Zr (jn.2 h);exact ⟨i,by unfold iS; rw [Nl hr]; exact hi⟩
theorem T9 {r:SQ} {y:ai} (hr:ss[q]? = some r) (h:iS g ss q i = some y):pI g r.1.2 y:=by
 unfold iS at h;rw [Nl hr] at h;exact jn.1 (YV h)
theorem Xv:(bW g ss q).Nodup:=by
 unfold bW
 split
 ·have h:∀ {I:List ai},jb (cls g I):=yT;exact ZH.2 (h.imp λ{a b} h e=>by subst e; unfold ai.lt at h; omega)
 ·simp
theorem zC {i' : Nat} {y:ai} (h:iS g ss q i = some y) (h' : iS g ss q i' = some y):i = i' :=
 (List.getElem?_inj (YT.1 h).1 Xv).1 (by show iS g ss q i = iS g ss q i'; rw [h,h'])
theorem Nn {F:fa} {q i:Nat} {v:List Bool}:∀ {D:List (Nat × Nat)},D.Nodup->(q,i)∈D->oM D (EM F q i v) + bg (F q i) = oM D F + bg v
 | [],_,h=>by cases h
 | x :: D,hn,h=>by
  obtain ⟨h1,h2⟩:=ZR.1 hn
  have e:∀ F:fa,oM (x :: D) F = bg (F x.1 x.2) + oM D F:=λF=>by unfold oM; rw [ZF,aa1]
  rw [e,e]
  by_cases hx:x = (q,i)
  ·subst hx
   have:oM D (EM F q i v) = oM D F:=by
    unfold oM
    congr 1
    refine ZP λy hy=>?_
    rw [oN λhh=>h1 (by rw [<- hh.1,<- hh.2]; exact hy)]
   rw [this]
   show bg (EM F q i v q i) + _ + _ = bg (F q i) + _ + _
   rw [ic]; omega
  ·rw [oN λhh=>hx (by rw [<- hh.1,<- hh.2])]
   have:=Nn (F:=F) (v:=v) h2 ((Ze.1 h).resolve_left (aaw hx))
   omega
theorem Np {B:Nat}:∀ {D:List (Nat × Nat)},(∀ x∈D,bg (F x.1 x.2)<=B)->oM D F<=D.length * B
 | [],_=>by simp [oM]
 | x :: D,h=>by
  have e:oM (x :: D) F = bg (F x.1 x.2) + oM D F:=by unfold oM; rw [ZF,aa1]
  rw [e,ZC,aao]
  have:=Np (D:=D) λy hy=>h y (by simp [hy])
  have:=h x σ
  omega
theorem OC {bs cs:List Bool} (hl:cs.length = bs.length) (hs:∀ k,aV bs k = true->aV cs k = true):bg bs<=bg cs:=by
 unfold bg; rw [hl]; exact (Ar hs _).1
structure mL (D:List (Nat × Nat)) (F0 F:fa) (b:Bool):Prop where
 le:oM D F0<=oM D F
 yes:b = true->oM D F0 < oM D F
 no:b = false->F = F0
theorem mL.start:mL D F F false:=⟨Zc _,λh=>(by cases h),λ_=>rfl⟩
theorem mL.trans {b b' : Bool} (h:mL D F0 F b) (h' : mL D F F' b'):mL D F0 F' (b || b'):=by
 have G:=h.le;have z:=h'.le
 refine ⟨ω,λu=>?_,λu=>?_⟩
 ·rcases ZZ _ _ ▸ u with u | u
  ·have:=h.yes u; omega
  ·have:=h'.yes u; omega
 ·rw [aaY] at u;rw [h'.no u.2,h.no u.1]
theorem mL.one {T:Nat} {l:List Bool} (hD:D.Nodup) (hm:(q,i)∈D) (hF:(F q i).length = T) (hl:l.length = T):mL D F (EM F q i (xD T (F q i) l)) (decide (xD T (F q i) l≠F q i)):=by
 have O:=Nn (F:=F) (v:=xD T (F q i) l) hD hm;have G:bg (F q i)<=bg (xD T (F q i) l):=OC (by rw [jv,hF]) λk z=>(Aw hF hl k).2 (.inl z)
 refine ⟨ω,λu=>?_,λu=>?_⟩
 ·have u:=YR u;have:bg (xD T (F q i) l)≠bg (F q i):=λe=>u (D0 (by rw [jv,hF]) (λk z=>(Aw hF hl k).2 (.inl z)) e);omega
 ·have u:=YS u;have:xD T (F q i) l = F q i:=Z3 u;rw [this,Kh]
structure Bz (g:af) (ss:List SQ) (F:fa):Prop where
 ln:∀ q i,(q,i)∈gm g ss->(F q i).length = g.T
 sd:∀ q i y t,iS g ss q i = some y->aV (F q i) t = true->Bb g ss q y.prod.toNat y.dot.toNat t
 st:∀ i,iS g ss 0 i = some ⟨0,0⟩->aV (F 0 i) 0 = true
theorem Bz.up (h:Bz g ss F) {y:ai} {l:List Bool} (hy:iS g ss q i = some y) (hl:l.length = g.T) (hs:∀ t,aV l t = true->Bb g ss q y.prod.toNat y.dot.toNat t):Bz g ss (EM F q i (xD g.T (F q i) l)):=by
 have R:=h.ln q i (jC hy)
 refine ⟨λO z U=>?_,λO z V t u ht=>?_,λz G=>?_⟩
 ·by_cases e:O = q/\z = i
  ·rw [e.1,e.2,ic,jv]
  ·rw [oN e]; exact h.ln O z U
 ·by_cases e:O = q/\z = i
  ·obtain ⟨rfl,rfl⟩:=e;rw [ic] at ht;rw [hy] at u; cases u
   rcases (Aw R hl t).1 ht with ht | ht
   ·exact h.sd _ _ _ _ hy ht
   ·exact hs t ht
  ·rw [oN e] at ht; exact h.sd _ _ _ _ u ht
 ·by_cases e:0 = q/\z = i
  ·obtain ⟨rfl,rfl⟩:=e;rw [ic];exact (Aw R hl 0).2 (.inl (h.st _ G))
  ·rw [oN e]; exact h.st _ G
theorem Bz.sum (h:Bz g ss F):oM (gm g ss) F<=(gm g ss).length * g.T:=Np λx u=>by
 have:=fZ (F x.1 x.2)
 rw [h.ln x.1 x.2 u] at this
 exact this
def Yz (g:af) (ss:List SQ) (F:fa) (q i:Nat) (y:ai) (s:Int):Prop:=∀ q' i' : Nat,fy ss q s = some (q' : Int)->iS g ss q' i' = some ⟨y.prod,y.dot + 1⟩->∀ t,aV (F q i) t = true->aV (F q' i') t = true
def Yn (g:af) (ss:List SQ) (F:fa) (q:Nat) (s:Int) (l:List Bool) (k:Nat):Prop:=∀ (n:Nat) p' i',n < k->g.prods[n]? = some p'->p'.left = s->iS g ss q i' = some ⟨(n:Int),0⟩->∀ t,aV l t = true->aV (F q i') t = true
def Sg (g:af) (F:fa) (q i:Nat) (r:List Int) (l:List Bool):Prop:=l.length = g.T/\∀ t,aV l t = true↔t < g.T/\(sW g r t\/(E9 g r/\aV (F q i) t = true))
def RL (g:af) (ss:List SQ) (F:fa) (q i:Nat):Prop:=∀ y,iS g ss q i = some y->0<=di g y->Yz g ss F q i y (di g y)/\((g.T:Int)<=di g y->∀ p,g.prods[y.prod.toNat]? = some p->∀ l,Sg g F q i (p.right.drop (y.dot.toNat + 1)) l->Yn g ss F q (di g y) l g.prods.length)
open Classical in
theorem Sg.ex (F:fa) (q i:Nat) (r:List Int):∃ l,Sg g F q i r l:=by
 refine ⟨yz g.T λt=>decide (t < g.T) && decide (sW g r t\/(E9 g r/\aV (F q i) t = true)),mg _ _,λt=>?_⟩;rw [yA λk u=>by simp; omega];simp
theorem Wm (hc:ak g) (hA:bw g ss) (hn:j6 g nn) (hI:Bz g ss F) (hC:∀ q i,(q,i)∈gm g ss->RL g ss F q i) {q m d x:Nat} (h:Bb g ss q m d x) (hx:x < g.T):∃ i,iS g ss q i = some ⟨(m:Int),(d:Int)⟩/\aV (F q i) x = true:=by
 induction h with
 | st =>
  obtain ⟨⟨r,X,z⟩,_⟩:=(Bb.st (g:=g) (ss:=ss)).inv hc hA hn;obtain ⟨i,hi⟩:=zB X z;exact ⟨i,hi,hI.st i hi⟩
 | sh q m d j x p s hp hs hj h0 ih =>
  obtain ⟨i,hi,ht⟩:=ih hx;obtain ⟨⟨r,X,z⟩,_⟩:=(Bb.sh q m d j x p s hp hs hj h0).inv hc hA hn;obtain ⟨U,u⟩:=zB X z;have R:di g ⟨(m:Int),(d:Int)⟩ = s:=gf hp hs;have Z:=hc.sym (YV hp) (YV hs);have V:=(hC q i (jC hi) _ hi (by rw [R]; omega)).1;rw [R] at V;exact ⟨U,u,V j U hj (by simpa using u) x ht⟩
 | fs q m d n x p p' s r X z hp hs hn' hl hf =>
  obtain ⟨i,hi⟩:=zB X z;obtain ⟨⟨r',W,O⟩,_⟩:=(Bb.fs q m d n x p p' s r X z hp hs hn' hl hf).inv hc hA hn;obtain ⟨U,u⟩:=zB W O;have R:di g ⟨(m:Int),(d:Int)⟩ = s:=gf hp hs;have Y:(g.T:Int)<=s:=by rw [<- hl]; exact hc.left (YV hn')
  obtain ⟨l,G⟩:=Sg.ex (g:=g) F q i (p.right.drop (d + 1));have V:=(hC q i (jC hi) _ hi (by rw [R]; omega)).2 (by rw [R]; exact Y) p (by show g.prods[(m:Int).toNat]? = _; rw [Za]; exact hp) l (by simpa using G);rw [R] at V;exact ⟨U,u,V n p' U (YT.1 hn').1 hn' hl (by simpa using u) x ((G.2 x).2 ⟨hx,.inl hf⟩)⟩
 | up q m d n x p p' s hp hs hn' hl hnu h0 ih =>
  obtain ⟨i,hi,ht⟩:=ih hx;obtain ⟨⟨r',W,O⟩,_⟩:=(Bb.up q m d n x p p' s hp hs hn' hl hnu h0).inv hc hA hn;obtain ⟨U,u⟩:=zB W O;have R:di g ⟨(m:Int),(d:Int)⟩ = s:=gf hp hs;have Y:(g.T:Int)<=s:=by rw [<- hl]; exact hc.left (YV hn')
  obtain ⟨l,G⟩:=Sg.ex (g:=g) F q i (p.right.drop (d + 1));have V:=(hC q i (jC hi) _ hi (by rw [R]; omega)).2 (by rw [R]; exact Y) p (by show g.prods[(m:Int).toNat]? = _; rw [Za]; exact hp) l (by simpa using G);rw [R] at V;exact ⟨U,u,V n p' U (YT.1 hn').1 hn' hl (by simpa using u) x ((G.2 x).2 ⟨hx,.inr ⟨hnu,ht⟩⟩)⟩
end
abbrev wJ:FuncId:=45
def tz:bm:={ rngs:=[],loops:=[(3,[(6,(.one (.int .i64)))]),(8,[(8,(.one .slice)),(9,(.one (.int .i64)))]),(17,[(11,(.one .bool))]),(20,[(11,(.one .bool)),(12,(.one (.int .i64)))]),(23,[(11,(.one .bool)),(13,(.one (.int .i64)))])],joins:=[],blocks:=[] }
section
variable {a b c d e:aa3} {i j k l m n o p q r:Nat} {A B C:Int} {w:aa4} {R:Value->WP}
theorem tA (h:new w (ψ a i j b k l c m n A d o p) λa b=>new b (oC [vS e q r,iI B,iI C] 45) λb c=>∀ d,drawn c d->∃ (c:WP),c d/\∃ e f g h i j k l m n o p q,(∀ b,c b->rowAt b (aM a) 0 5 = some [vS e f g,vS h i j,vS k l m,iI n,vS o p q])/\∃ r s t u v,(∀ a,c a->rowAt a (aM b) 0 3 = some [vS r s t,iI u,iI v])/\∃ w x y z a0 a1 a2 a3 a4 a5 a6 a7 a8,(∀ b,c b->rowAt b (aM a) 0 5 = some [vS w x y,vS z a0 a1,vS a2 a3 a4,iI a5,vS a6 a7 a8])/\rE 80 [vG [vS w x y,vS z a0 a1,vS a2 a3 a4,iI a5,vS a6 a7 a8]] d λd w=>∃ x,d = vP x/\c w/\new w (oC [vS e f g,vS h i j,vS k l m,iI n,vS o p q,vS r s t,iI u,iI v,vS none 0 0,vS none 0 0,vP x] 147) λd e=>c e/\τ [(6,aB)] λc f=>c 0 e/\∀ (_:ν) e g,c e g->∃ h i j,World.cell? g (aM b) = some (vS h i j)/\br (decide (e < (i:Int))) (∀ h,drawn g h->∃ (i:WP),i h/\∃ j k l m n o p q r s t u v,(∀ b,i b->rowAt b (aM a) 0 5 = some [vS j k l,vS m n o,vS p q r,iI s,vS t u v])/\∃ w x y,(∀ a,i a->World.cell? a (aM b) = some (vS w x y))/\idx w x e 2 λb=>∃ w x y,(∀ a,i a->World.cell? a b = some (vS w x y))/\rE 76 [vG [vS j k l,vS m n o,vS p q r,iI s,vS t u v],vS w x y] h λb h=>∃ j k l,b = vS j k l/\i h/\τ [(8,fD),(9,aB)] λb i=>b none 0 0 0 h/\∀ (_:ν) h m n o p,b h m n o p->br (decide (o < (k:Int))) (∃ c d e,World.cell? p (aM a) = some (vS c d e)/\tE (d:Int) (d:Int) 1/\new p (Obj.cells (Array.mk (ir (Int.toNat (d:Int)) [vB false])) 4) λa c=>new c (oC [vS (some (aM a)) (Int.toNat (d:Int)) (Int.toNat (d:Int))] 149) λa c=>rS (fe 148 (Array.mk [vS h m n,vS (some (aM a)) 1 1])) c λa c=>∃ d e f,a = vS d e f/\ax (o + 1)/\b d e f (o + 1) c/\i d e f (o + 1) c < i h m n o p) (∃ a b i,World.cell? p (Addr.add (aM d) 8) = some (vS a b i)/\new p (oC [vS j k l] 51) λj k=>rS (fe 144 (Array.mk [vS a b i,vS (some (aM j)) 1 1])) k λa b=>∃ i j k,a = vS i j k/\st1 b (Addr.add (aM d) 8) (vS i j k) λa=>∃ b i j,World.cell? a (Addr.add (aM d) 9) = some (vS b i j)/\new a (oC [vS h m n] 148) λa h=>rS (fe 145 (Array.mk [vS b i j,vS (some (aM a)) 1 1])) h λa b=>∃ h i j,a = vS h i j/\st1 b (Addr.add (aM d) 9) (vS h i j) λa=>ax (e + 1)/\c (e + 1) a/\f (e + 1) a < f e g)) (∃ b c e,World.cell? g (aM a) = some (vS b c e)/\tE (c:Int) (c:Int) 1/\new g (Obj.cells (Array.mk (ir (Int.toNat (c:Int)) [vB false])) 4) λa b=>idx (some (aM a)) (Int.toNat (c:Int)) 0 1 λe=>st1 b e (vB true) λb=>rE 81 [vP (some (aM d)),iI 0,vG [iI 0,iI 0],vS (some (aM a)) (Int.toNat (c:Int)) (Int.toNat (c:Int))] b λa b=>∃ c,a = vB c/\τ [(11,jD)] λa c=>a true b/\∀ (_:ν) b e,a b e->br b (τ [(11,jD),(12,aB)] λf g=>f false 0 e/\∀ (_:ν) h i j,f h i j->∃ k l m,World.cell? j (Addr.add (aM d) 8) = some (vS k l m)/\br (decide (i < (l:Int))) (τ [(11,jD),(13,aB)] λa b=>a h 0 j/\∀ (_:ν) c e k,a c e k->∃ l m n,World.cell? k (Addr.add (aM d) 8) = some (vS l m n)/\idx l m i 1 λl=>∃ m n o,World.cell? k l = some (vS m n o)/\br (decide (e < (n:Int))) (rE 82 [vP (some (aM d)),iI i,iI e] k λd f=>∃ g,d = vB g/\br c (ax (e + 1)/\a true (e + 1) f/\b true (e + 1) f < b c e k) (ax (e + 1)/\a g (e + 1) f/\b g (e + 1) f < b c e k)) (ax (i + 1)/\f c (i + 1) k/\g c (i + 1) k < g h i j)) (a h j/\c h j < c b e)) (R (vP (some (aM d))) e))):ρ 45 [φ a i j b k l c m n A d o p,(.agg #[(.slice e q r),(.int .i64 B),(.int .i64 C)])] w R:=rv Tryz.func45 tz (by kernel_rfl) h
abbrev mM:FuncId:=46
def kU:bm:={ rngs:=[],loops:=[(3,[(3,(.one .slice)),(4,(.one (.int .i64)))]),(6,[(3,(.one .slice)),(5,(.one (.int .i64)))])],joins:=[],blocks:=[] }
theorem kV (h:τ [(3,fD),(4,aB)] λb c=>b none 0 0 0 w/\∀ (_:ν) d e f g h,b d e f g h->nn a λi=>∃ j k l,World.cell? h (Addr.add i 8) = some (vS j k l)/\br (decide (g < (k:Int))) (τ [(3,fD),(5,aB)] λi j=>i d e f 0 h/\∀ (_:ν) k l m n o,i k l m n o->nn a λp=>∃ q r s,World.cell? o (Addr.add p 8) = some (vS q r s)/\idx q r g 1 λp=>∃ q r s,World.cell? o p = some (vS q r s)/\br (decide (n < (r:Int))) (nn a λb=>∃ c d e,World.cell? o (Addr.add b 8) = some (vS c d e)/\idx c d g 1 λb=>∃ c d e,World.cell? o b = some (vS c d e)/\idx c d n 2 λb=>∃ c d,rowAt o b 0 2 = some [iI c,iI d]/\new o (oC [iI 0,iI 0] 104) λb e=>da e (aM b) [iI c,iI d] λc=>∀ d,drawn c d->∃ (c:WP),c d/\∃ e,(∀ a,c a->World.cell? a (aM b) = some (iI e))/\br (decide (0 < e)) (nn a λe=>∃ f h p q r s t u v w x y z,(∀ a,c a->rowAt a e 0 5 = some [vS f h p,vS q r s,vS t u v,iI w,vS x y z])/\∃ e a0,(∀ a,c a->rowAt a (aM b) 0 2 = some [iI e,iI a0])/\rE 83 [vG [vS f h p,vS q r s,vS t u v,iI w,vS x y z],vG [iI e,iI a0]] d λd e=>∃ f,d = iI f/\c e/\br (decide (f < 0)) (∀ c,drawn e c->∃ (d:WP),d c/\∃ e,(∀ a,d a->World.cell? a (aM b) = some (iI e))/\nn a λa=>∃ b f h,(∀ c,d c->World.cell? c (Addr.add a 9) = some (vS b f h))/\idx b f g 1 λa=>∃ b f h,(∀ c,d c->World.cell? c a = some (vS b f h))/\idx b f n 1 λa=>∃ b f h,(∀ c,d c->World.cell? c a = some (vS b f h))/\rE 84 [vS b f h] c λa b=>∃ c f h,a = vS c f h/\d b/\new b (oC [iI g,iI e,vS c f h] 58) λa b=>d b/\rS (fe 48 (Array.mk [vS k l m,vS (some (aM a)) 1 1])) b λa b=>∃ c e f,a = vS c e f/\d b/\ax (n + 1)/\i c e f (n + 1) b/\j c e f (n + 1) b < j k l m n o) (ax (n + 1)/\i k l m (n + 1) e/\j k l m (n + 1) e < j k l m n o)) (ax (n + 1)/\i k l m (n + 1) d/\j k l m (n + 1) d < j k l m n o)) (ax (g + 1)/\b k l m (g + 1) o/\c k l m (g + 1) o < c d e f g h)) (R (vS d e f) h)):ρ 46 [(.pointer a)] w R:=rv Tryz.func46 kU (by kernel_rfl) h
abbrev oO:FuncId:=81
def mN:bm:={ rngs:=[],loops:=[(3,[(9,(.one .bool)),(10,(.one (.int .i64)))]),(8,[(9,(.one .bool)),(12,(.one (.int .i64)))])],joins:=[],blocks:=[] }
theorem mP (h:new w (oC [iI B,iI C] 104) λc d=>τ [(9,jD),(10,aB)] λe f=>e false 0 d/\∀ (_:ν) d g h,e d g h->nn a λj=>∃ k l m,World.cell? h (Addr.add j 8) = some (vS k l m)/\idx k l A 1 λj=>∃ k l m,World.cell? h j = some (vS k l m)/\br (decide (g < (l:Int))) (∀ j,drawn h j->∃ (k:WP),k j/\nn a λl=>∃ m n o,(∀ a,k a->World.cell? a (Addr.add l 8) = some (vS m n o))/\idx m n A 1 λl=>∃ m n o,(∀ a,k a->World.cell? a l = some (vS m n o))/\idx m n g 2 λl=>∃ m n,(∀ a,k a->rowAt a l 0 2 = some [iI m,iI n])/\∃ l o,(∀ a,k a->rowAt a (aM c) 0 2 = some [iI l,iI o])/\∃ c,(∀ a,k a->Sem.run Proofs.Tryz.prog (je BinOp.neq 104 (Operand.tmp 34) (Operand.tmp 35) (vG [iI m,iI n]) (vG [iI l,iI o])) a = Result.ok c a)/\∃ k,c = vB k/\br k (ax (g + 1)/\e d (g + 1) j/\f d (g + 1) j < f d g h) (nn a λa=>∃ c k l,World.cell? j (Addr.add a 9) = some (vS c k l)/\idx c k A 1 λa=>∃ c k l,World.cell? j a = some (vS c k l)/\idx c k g 1 λa=>∃ c k l,World.cell? j a = some (vS c k l)/\τ [(9,jD),(12,aB)] λa l=>a d 0 j/\∀ (_:ν) j m n,a j m n->br (decide (m < (i:Int))) (idx b i m 1 λb=>∃ d,World.cell? n b = some (vB d)/\br d (idx c k m 1 λb=>∃ d,World.cell? n b = some (vB d)/\br (!d) (idx c k m 1 λb=>st1 n b (vB true) λb=>ax (m + 1)/\a true (m + 1) b/\l true (m + 1) b < l j m n) (ax (m + 1)/\a j (m + 1) n/\l j (m + 1) n < l j m n)) (ax (m + 1)/\a j (m + 1) n/\l j (m + 1) n < l j m n)) (ax (g + 1)/\e j (g + 1) n/\f j (g + 1) n < f d g h))) (R (vB d) h)):ρ 81 [(.pointer a),(.int .i64 A),(.agg #[(.int .i64 B),(.int .i64 C)]),(.slice b i j)] w R:=rv Tryz.func81 mN (by kernel_rfl) h
abbrev nw:FuncId:=82
def lM:bm:={ rngs:=[],loops:=[(12,[(14,(.one (.int .i64)))]),(16,[(10,(.one .bool)),(15,(.one (.int .i64)))])],joins:=[],blocks:=[] }
theorem lO (h:nn a λb=>∃ c d e,World.cell? w (Addr.add b 8) = some (vS c d e)/\idx c d A 1 λb=>∃ c d e,World.cell? w b = some (vS c d e)/\idx c d B 2 λb=>∃ c d,rowAt w b 0 2 = some [iI c,iI d]/\new w (oC [iI 0,iI 0] 104) λb e=>da e (aM b) [iI c,iI d] λc=>nn a λd=>∃ e f g,World.cell? c (Addr.add d 9) = some (vS e f g)/\idx e f A 1 λd=>∃ e f g,World.cell? c d = some (vS e f g)/\idx e f B 1 λd=>∃ e f g,World.cell? c d = some (vS e f g)/\∀ d,drawn c d->∃ (c:WP),c d/\nn a λh=>∃ i j k l m n o p q r s t u,(∀ a,c a->rowAt a h 0 5 = some [vS i j k,vS l m n,vS o p q,iI r,vS s t u])/\∃ h v,(∀ a,c a->rowAt a (aM b) 0 2 = some [iI h,iI v])/\rE 83 [vG [vS i j k,vS l m n,vS o p q,iI r,vS s t u],vG [iI h,iI v]] d λd h=>∃ i,d = iI i/\c h/\br (decide (i < 0)) (R (vB false) h) (∀ c,drawn h c->∃ (d:WP),d c/\nn a λh=>∃ j k l m n,(∀ a,d a->rowAt a (Addr.add h 5) 0 3 = some [vS j k l,iI m,iI n])/\∃ h,(∀ a,d a->World.cell? a (aM b) = some (iI h))/\∃ o,(∀ a,d a->World.cell? a (Addr.add (aM b) 1) = some (iI o))/\ax (o + 1)/\rE 73 [vG [vS j k l,iI m,iI n],iI A,iI i] c λc j=>∃ k,c = iI k/\d j/\rE 81 [vP a,iI k,vG [iI h,iI (o + 1)],vS e f g] j λc g=>∃ h,c = vB h/\d g/\nn a λc=>∃ d j k l m n o p q r s t u,rowAt g c 0 5 = some [vS d j k,vS l m n,vS o p q,iI r,vS s t u]/\rE 134 [vG [vS d j k,vS l m n,vS o p q,iI r,vS s t u],iI i] g λc d=>∃ g,c = vB g/\br (!g) (R (vB h) d) (∀ c,drawn d c->∃ (d:WP),d c/\nn a λg=>∃ j,(∀ a,d a->World.cell? a (Addr.add g 10) = some (vP j))/\nn a λg=>∃ k l m,(∀ a,d a->World.cell? a (Addr.add g 4) = some (vS k l m))/\∃ g,(∀ a,d a->World.cell? a (aM b) = some (iI g))/\idx k l g 3 λg=>∃ k l m,(∀ a,d a->World.cell? a (Addr.add g 1) = some (vS k l m))/\∃ g,(∀ a,d a->World.cell? a (Addr.add (aM b) 1) = some (iI g))/\ax (g + 1)/\lR k l m (some (g + 1)) none none 1 λ(b:aa3) (g k:Nat)=>rE 135 [vP j,vS b g k] c λb c=>∃ g j k l,b = vU [vS g j k,vB l]/\d c/\τ [(14,aB)] λb d=>b 0 c/\∀ (_:ν) c m,b c m->br (decide (c < (f:Int))) (idx g j c 1 λa=>∃ h,World.cell? m a = some (vB h)/\br h (idx g j c 1 λa=>st1 m a (vB true) λa=>ax (c + 1)/\b (c + 1) a/\d (c + 1) a < d c m) (br l (idx e f c 1 λa=>∃ e,World.cell? m a = some (vB e)/\idx g j c 1 λa=>st1 m a (vB e) λa=>ax (c + 1)/\b (c + 1) a/\d (c + 1) a < d c m) (idx g j c 1 λa=>st1 m a (vB false) λa=>ax (c + 1)/\b (c + 1) a/\d (c + 1) a < d c m))) (τ [(10,jD),(15,aB)] λb c=>b h 0 m/\∀ (_:ν) d e f,b d e f->nn a λh=>∃ l m n,World.cell? f (Addr.add h 4) = some (vS l m n)/\br (decide (e < (m:Int))) (nn a λh=>∃ l m n,World.cell? f (Addr.add h 4) = some (vS l m n)/\idx l m e 3 λh=>∃ l,World.cell? f h = some (iI l)/\br (l == i) (rE 81 [vP a,iI A,vG [iI e,iI 0],vS g j k] f λa g=>∃ h,a = vB h/\br d (ax (e + 1)/\b true (e + 1) g/\c true (e + 1) g < c d e f) (ax (e + 1)/\b h (e + 1) g/\c h (e + 1) g < c d e f)) (ax (e + 1)/\b d (e + 1) f/\c d (e + 1) f < c d e f)) (R (vB d) f))))):ρ 82 [(.pointer a),(.int .i64 A),(.int .i64 B)] w R:=rv Tryz.func82 lM (by kernel_rfl) h
end
structure RM where
 x:GA
 oA:aa3
 cA:Nat
 ask:Int
 int:Int
 oI:aa3
 cI:Nat
 oT:aa3
 cT:Nat
 bp:Nat
 kh:Nat
 B:Nat->Nat->Nat
def RM.row (d:RM) (n:Nat):List Value:=d.x.cells ++ [.slice d.oA n d.cA,.int .i64 d.ask,.int .i64 d.int,.slice d.oI n d.cI,.slice d.oT n d.cT,.pointer (some ⟨d.bp,0,none⟩)]
structure US (H:Hp) (g:af) (ns:List Bool) (ss:List SQ) (d:RM):Prop where
 gr:gR H g d.x
 r:au H (aM d.kh) (d.row ss.length)
 a:vN H ss d.oA
 i:∀ q,q < ss.length->∃ ad a c,d.oI = some ad/\au H (ad.add q) [.slice a (bW g ss q).length c]/\bh H (bW g ss q) a (bW g ss q).length
 t:∀ q,q < ss.length->∃ ad a c,d.oT = some ad/\au H (ad.add q) [.slice a (bW g ss q).length c]/\∀ i,i < (bW g ss q).length->∃ ad2,a = some ad2/\au H (ad2.add i) [.slice (some (aM (d.B q i))) g.T g.T]
 b:∃ k4 o c ps vs,Lw H g d.x d.bp k4 o c ns ps vs/\Ll g (td g.T ns) vs/\ps.length = vs.length
theorem US.mono {H H' : Hp} {g:af} {ns:List Bool} {ss:List SQ} {d:RM} (s:sub H H') (h:US H g ns ss d):US H' g ns ss d:=by
 refine ⟨h.gr.mono s,h.r.mono s,h.a.mono s,λq u=>?_,λq u=>?_,?_⟩
 ·obtain ⟨G,a,c,e,r,t⟩:=h.i q u;exact ⟨G,a,c,e,r.mono s,t.mono s⟩
 ·obtain ⟨G,a,c,e,r,t⟩:=h.t q u;refine ⟨G,a,c,e,r.mono s,λi hi=>?_⟩;obtain ⟨z,R,U⟩:=t i hi;exact ⟨z,R,U.mono s⟩
 ·obtain ⟨k4,o,c,ps,vs,t,al,O⟩:=h.b;exact ⟨k4,o,c,ps,vs,t.mono s,al,O⟩
def rQ (g:af) (ss:List SQ) (d:RM) (F:fa):List az:=(gm g ss).map λp=>aH (d.B p.1 p.2) (bv (F p.1 p.2))
section
variable {w:aa4} {L:List az} {g:af} {ss:List SQ} {d:RM} {F:fa} {q i:Nat} {v:List Bool}
theorem T_ {n:Nat} (hn:(gm g ss)[n]? = some (q,i)):(rQ g ss d F).set n (aH (d.B q i) (bv v)) = rQ g ss d (EM F q i v):=by
 refine ZK λm=>?_;unfold rQ;rw [ZN,Y3,YW,YW];have u:=(YT.1 hn).1
 by_cases z:n = m
 ·subst z;rw [Y5 rfl,Y5 u,hn]
  show some (aH (d.B q i) (bv v)) = some (aH (d.B q i) (bv (EM F q i v q i)))
  rw [ic]
 ·rw [YZ z];cases hp:(gm g ss)[m]? with
  | none=>rfl
  | some p =>
   have G:¬ (p.1 = q/\p.2 = i):=λe=>z (by
    have O:p = (q,i):=by rw [<- e.1,<- e.2]
    rw [O] at hp;exact (List.getElem?_inj u (HT _)).1 (by rw [hn,hp]))
   show some (aH (d.B p.1 p.2) (bv (F p.1 p.2))) = some (aH (d.B p.1 p.2) (bv (EM F q i v p.1 p.2)))
   rw [oN G]
theorem RN (hm:(q,i)∈gm g ss) (h:St w (aC (rQ g ss d F) :: L)):∃ M,St w (aH (d.B q i) (bv (F q i)) :: aC M :: L)/\∀ {w' : aa4} {L' : List az} {v:List Bool},St w' (aH (d.B q i) (bv v) :: aC M :: L')->St w' (aC (rQ g ss d (EM F q i v)) :: L'):=by
 obtain ⟨n,u⟩:=Zr hm;have hA:(rQ g ss d F)[n]? = some (aH (d.B q i) (bv (F q i))):=by unfold rQ; rw [YW,u]; rfl
 refine ⟨_,St.out h hA,λ{w' L' v} h'=>?_⟩;have:=St.back h' hA;rwa [T_ u] at this
theorem HU (hm:(q,i)∈gm g ss) (h:St w (aC (rQ g ss d F) :: L)):au (hp w) (aM (d.B q i)) (bv (F q i)):=by
 obtain ⟨M,u,_⟩:=RN hm h;exact ah 0 u.l
end
def HV (g:af) (ss:List SQ) (F:fa) (q:Nat) (y:ai) (l:List Bool) (n:Nat) (F' : fa) (b:Bool):Prop :=
 (∃ i,i < n/\iS g ss q i = some y/\F' = EM F q i (xD g.T (F q i) l)/\b = decide (xD g.T (F q i) l≠F q i))\/((∀ i,i < n->iS g ss q i≠some y)/\F' = F/\b = false)
theorem nQ (n:Nat) (bs cs:List Bool) (k:Nat):aV (xD n bs cs) k = (decide (k < n) && (aV bs k || aV cs k)):=by
 unfold xD;rw [yA λk u=>by simp; omega]
theorem mQ (l:List Bool) (k j:Nat):aV (l.take k) j = (decide (j < k) && aV l j):=by
 unfold aV;rw [YX,YX,ZT];by_cases h:j < k <;> simp [h]
theorem or_zero {T:Nat} {bs l:List Bool} (hb:bs.length = T):xD T bs (l.take 0) = bs:=by
 refine ij (by rw [jv,hb]) λk=>?_;rw [nQ,mQ]
 by_cases h:k < T
 ·simp [h]
 ·have:aV bs k = false:=by unfold aV; rw [YX,Zf ω]; rfl
  simp [h,this]
theorem CK {T k:Nat} {bs l:List Bool} {b:Bool} (hk:l[k]? = some b) (h:b = false\/aV (xD T bs (l.take k)) k = true):xD T bs (l.take (k + 1)) = xD T bs (l.take k):=by
 refine ij (by rw [jv,jv]) λj=>?_;have z:=j3 hk;rw [nQ,nQ,mQ,mQ]
 by_cases u:j = k
 ·subst u
  rcases h with h | h
  ·rw [z,h]; simp
  ·rw [nQ,mQ] at h;simp at h;simp [h]
 ·have:(decide (j < k + 1)) = decide (j < k):=by congr 1; exact propext ⟨λh=>ω,λh=>ω⟩
  rw [this]
theorem Wn {T k:Nat} {bs l:List Bool} (hb:bs.length = T) (hkT:k < T) (hk:l[k]? = some true):xD T bs (l.take (k + 1)) = (xD T bs (l.take k)).set k true:=by
 refine ij (by rw [Zn,jv,jv]) λj=>?_;have z:=j3 hk;rw [G4 (by rw [jv]; exact hkT),nQ,nQ,mQ,mQ]
 by_cases u:j = k
 ·subst u;rw [Y5 rfl,z]; simp [hkT]
 ·rw [YZ u];have:(decide (j < k + 1)) = decide (j < k):=by congr 1; exact propext ⟨λh=>ω,λh=>ω⟩
  rw [this]
theorem Wo {T k:Nat} {bs l:List Bool} (hb:bs.length = T) (hkT:k < T) (hk:l[k]? = some true) (h:aV (xD T bs (l.take k)) k = false):xD T bs (l.take (k + 1))≠bs:=λe=>by
 have u:aV (xD T bs (l.take (k + 1))) k = true:=by
  rw [nQ,mQ,j3 hk]; simp [hkT]
 rw [e] at u
 rw [nQ,u] at h
 simp [hkT] at h
section
variable {w:aa4} {g:af} {ns:List Bool} {ss:List SQ} {d:RM} {F:fa} {q:Nat} {y:ai} {H:Hp}
theorem HW {oL:aa3} {cL:Nat} {l:List Bool} (hI:US H g ns ss d) (hq:q < ss.length) (hF:∀ i,(q,i)∈gm g ss->(F q i).length = g.T) (hl:l.length = g.T) (hT:g.T<=65) (hcl:(bW g ss q).length<=4611686018427387904) (h:St w [aC (rQ g ss d F),has H])
  (hr:∀ (F' : fa) (u:aa4) (H' : Hp),sub H H'->(∀ q' i',¬ (q' = q/\iS g ss q i' = some y)->F' q' i' = F q' i')->St u [aC (rQ g ss d F'),has H']->bh (hp u) l oL g.T) :
  ρ oO [.pointer (some (aM d.kh)),.int .i64 (q:Int),.agg #[.int .i64 y.prod,.int .i64 y.dot],.slice oL g.T cL] w λv w'=>∃ (b:Bool) (F' : fa),v = .bool b/\HV g ss F q y l (bW g ss q).length F' b/\St w' [aC (rQ g ss d F'),has H]:=by
 refine mP (ag h λk1 w1 h=>?_);obtain ⟨Z,a0,a7,h⟩:=St.freeze (h.pick 3 [1,0,2]);have rk:au Z (aM k1) [.int .i64 y.prod,.int .i64 y.dot]:=ah 0 a0;have g1:sub H Z:=aR 1 a0;clear a0 a7;have hI:=hI.mono g1;have hr:=λF' u hc hu=>hr F' u Z g1 hc hu;obtain ⟨b3,aI,cI,eI,rI,a1⟩:=hI.i q hq;obtain ⟨b7,aT,cT,eT,rT,a5⟩:=hI.t q hq;obtain ⟨n,hn⟩ : ∃ n,n = (bW g ss q).length:=⟨_,rfl⟩;have a8:∀ {j:Nat} {z:ai},(bW g ss q)[j]? = some z->iS g ss q j = some z:=λh=>h;rw [<- hn] at rI a1 rT a5 hcl ⊢;have ad:∀ {j:Nat},j < n->(q,j)∈gm g ss:=λh=>jB.2 ⟨hq,by rw [<- hn]; exact h⟩;refine ⟨λb z w'=>∃ (j:Nat) (F' : fa),z = j/\j<=n/\HV g ss F q y l j F' b/\St w' [aC (rQ g ss d F'),has Z],λ_ z _=>n - z.toNat,⟨0,F,rfl,Y4 _,.inr ⟨λi hi=>ω,rfl,rfl⟩,h⟩,?_⟩;clear h;rintro _ b _ w2 ⟨j,R,rfl,hj,hP,h⟩;have s2:sub Z (hp w2):=aR 1 h.l;refine ⟨_,_,_,hI.r.cell s2 (j:=8) rfl,aw eI hq ⟨_,_,_,rI.cell0 s2,ae (λU=>?_) λU=>?_⟩⟩
 rotate_left
 ·have U:j = n:=by have:=YS U; omega
  subst U;exact ⟨b,R,rfl,hP,St.nf h (bH g1)⟩
 have U:j < n:=by have:=YR U; omega
 obtain ⟨z,bc,hz,b1,rz⟩:=pU a1 U;have W:=a8 hz;intro w3 hd;have hM:=h.drawn hd;have s3:sub Z (hp w3):=aR 1 hM.l
 refine ⟨λu=>sub Z (hp u),s3,_,_,_,λu s=>hI.r.cell s (j:=8) rfl,aw eI hq ⟨_,_,_,λu s=>rI.cell0 s,aq b1 U ⟨_,_,λu s=>rz.at s rfl,_,_,λu s=>rk.at s rfl,_,λu _=>Lb u _ _ z y,_,rfl,ae (λh2=>?_) λh2=>?_⟩⟩⟩
 ·have h2:z≠y:=by simpa using h2
  refine ⟨⟨ω,ω⟩,⟨j + 1,R,σ,U,?_,hM⟩,bn U⟩
  rcases hP with ⟨i,hi,e1,e2,e3⟩ | ⟨e1,e2,e3⟩
  ·exact .inl ⟨i,ω,e1,e2,e3⟩
  ·refine .inr ⟨λi hi he=>?_,e2,e3⟩
   by_cases aa:i = j
   ·subst aa; rw [W] at he; exact h2 (Option.some.inj he)
   ·exact e1 i ω he
 have h2:z = y:=by simpa using h2
 subst h2
 obtain ⟨e1,e2,e3⟩ : (∀ i,i < j->iS g ss q i≠some z)/\R = F/\b = false:=by
  rcases hP with ⟨i,hi,e1,_⟩ | e
  ·exact absurd (zC e1 W) ω
  ·exact e
 subst e2; subst e3;obtain ⟨b6,ac,b0⟩:=a5 j U;have a4:=ad U;have Y:=hF j a4;have a3:∀ acc q' i',¬ (q' = q/\iS g ss q i' = some z)->EM R q j acc q' i' = R q' i':=λacc q' i' am=>oN λe=>am ⟨e.1,by rw [e.2]; exact W⟩;refine ⟨_,_,_,hI.r.cell s3 (j:=9) rfl,aw eT hq ⟨_,_,_,rT.cell0 s3,aw ac U ⟨_,_,_,b0.cell0 s3,?_⟩⟩⟩;refine ⟨λb z' w'=>∃ k:Nat,z' = k/\k<=g.T/\b = decide (xD g.T (R q j) (l.take k)≠R q j)/\St w' [aC (rQ g ss d (EM R q j (xD g.T (R q j) (l.take k)))),has Z],λ_ z _=>g.T - z.toNat,⟨0,rfl,Y4 _,by rw [or_zero Y]; simp,by rw [or_zero Y,Kh]; exact hM⟩,?_⟩;clear h;rintro _ _ _ w9 ⟨k,rfl,hk,rfl,h⟩;refine ae (λG=>?_) λG=>?_
 rotate_left
 ·have G:k = g.T:=by have:=YS G; omega
  rw [G,Zb ω] at h ⊢;exact ⟨⟨ω,ω⟩,⟨j + 1,_,σ,U,.inl ⟨j,ω,W,rfl,rfl⟩,h⟩,bn U⟩
 have G:k < g.T:=by have:=YR G; omega
 obtain ⟨bb,ba,V,b2,rb⟩:=(hr _ _ (a3 _) h).cY G;obtain ⟨M,h4,back⟩:=RN a4 h;rw [ic] at h4;obtain ⟨acc,O⟩ : ∃ acc,acc = xD g.T (R q j) (l.take k):=⟨_,rfl⟩;have b4:acc.length = g.T:=by rw [O]; exact jv _ _ _
 have ha:acc[k]? = some (aV acc k):=by
  unfold aV;rw [YX,YU ω]; rfl
 have ab:(bv acc)[k]? = some (.bool (aV acc k)):=by unfold bv; rw [YW,ha]; rfl
 refine aw b2 G ⟨_,rb _ (sub.refl _),ae (λh5=>?_) λh5=>?_⟩
 rotate_left
 ·refine ⟨⟨ω,ω⟩,⟨k + 1,σ,G,?_,?_⟩,bn G⟩
  ·rw [CK V (.inl h5)]
  ·rw [CK V (.inl h5)]; exact h
 have h5:bb = true:=h5;subst h5;rw [<- O] at h4
 refine aw rfl G ⟨aV acc k,?_,ae (λX=>?_) λX=>?_⟩
 ·rw [aK,h4.cell]; exact ab
 ·have X:aV acc k = false:=by simpa using X
  refine aw rfl G ?_;rw [aK];refine bj h4 (by rw [n_]; omega) λb5 a6=>?_;rw [Cq,O,<- Wn Y G V] at a6;have a9:=back a6
  refine ⟨⟨ω,ω⟩,⟨k + 1,σ,G,?_,?_⟩,bn G⟩
  ·rw [Zp (Wo Y G V (by rw [<- O]; exact X))]
  ·rwa [show EM (EM R q j (xD g.T (R q j) (l.take k))) q j (xD g.T (R q j) (l.take (k + 1))) = EM R q j (xD g.T (R q j) (l.take (k + 1))) from by
    funext q' i'; unfold EM; by_cases e:q' = q/\i' = j <;> simp [e]] at a9
 ·have X:aV acc k = true:=by simpa using X
  rw [O] at X
  refine ⟨⟨ω,ω⟩,⟨k + 1,σ,G,?_,?_⟩,bn G⟩
  ·rw [CK V (.inr X)]
  ·rw [CK V (.inr X)]; exact h
end
section
variable {g:af} {ns:List Bool} {ss:List SQ} {F F' : fa} {q i:Nat} {y:ai} {l:List Bool}
theorem UT (hc:ak g) (hA:bw g ss) (hy:iS g ss q i = some y):∃ (r:SQ) (m d:Nat) (p:aP),ss[q]? = some r/\pI g r.1.2 y/\y = ⟨(m:Int),(d:Int)⟩/\g.prods[m]? = some p/\d<=p.right.length/\kN g y /\
  (0<=di g y->p.right[d]? = some (di g y)/\d < p.right.length/\di g y < (g.T:Int) + g.N/\∃ q' : Nat,fy ss q (di g y) = some (q' : Int)/\q' < ss.length):=by
 obtain ⟨hq,_⟩:=CJ hy;have G:ss[q]? = some ss[q]:=YU hq;obtain ⟨_,_,_,a1,_,_⟩:=hc.b9;have R:yX g ss[q].1.2:=(dE (g:=g) ω q).fit _ (YV (fN hA G).1);have u:=T9 G hy;have hf:=u.fit R;obtain ⟨f0,f1,p,hp,U⟩:=id hf;obtain ⟨m,d,rfl⟩ : ∃ m d:Nat,y = ⟨(m:Int),(d:Int)⟩:=⟨y.prod.toNat,y.dot.toNat,by cases y; simp at f0 f1 ⊢; omega⟩;have hp:g.prods[m]? = some p:=by simpa using hp
 have U:d<=p.right.length:=by have:(d:Int)<=p.right.length:=U; omega
 refine ⟨_,m,d,p,G,u,rfl,hp,U,hf,λh0=>?_⟩;have X:di g ⟨(m:Int),(d:Int)⟩ = p.right.getD d (-1):=by rw [kz (p:=p) (by simpa using hp)]; simp
 have z:d < p.right.length:=by
  refine Nat.lt_of_not_le λO=>?_;rw [X,YX,Zf O] at h0;simp at h0
 have es:p.right[d]? = some (di g ⟨(m:Int),(d:Int)⟩):=by rw [X,YX,YU z]; rfl
 have a0:=hc.sym (YV hp) (YV es);obtain ⟨n,V⟩ : ∃ n:Nat,di g ⟨(m:Int),(d:Int)⟩ = n:=⟨_,(Int.toNat_of_nonneg h0).symm⟩;have Y:=mz hA G (n:=n) ω;rw [Zp (List.ne_nil_of_mem (de.2 ⟨_,u,V,rfl⟩))] at Y;obtain ⟨j,W⟩:=aaE.1 Y;obtain ⟨Z,j1⟩:=iq hc hA W;refine ⟨es,z,ω,j.toNat,?_,ω⟩;rw [V,W,Int.toNat_of_nonneg Z]
theorem HV.hv {b:Bool} (h:HV g ss F q y l (bW g ss q).length F' b) (hV:Bz g ss F) (hl:l.length = g.T) (hs:∀ t,aV l t = true->Bb g ss q y.prod.toNat y.dot.toNat t):Bz g ss F'/\mL (gm g ss) F F' b:=by
 rcases h with ⟨i,_,u,rfl,rfl⟩ | ⟨_,rfl,rfl⟩
 ·exact ⟨hV.up u hl hs,.one (HT _) (jC u) (hV.ln _ _ (jC u)) hl⟩
 ·exact ⟨hV,.start⟩
theorem HV.all {b:Bool} (h:HV g ss F q y l (bW g ss q).length F' b) (hV:Bz g ss F) (hl:l.length = g.T) (hb:F' = F) {i' : Nat} (hi:iS g ss q i' = some y) {t:Nat} (ht:aV l t = true):aV (F q i') t = true:=by
 rcases h with ⟨i,_,u,G,_⟩ | ⟨u,_,_⟩
 ·have:=zC u hi;subst this
  have z:xD g.T (F q i) l = F q i:=by
   have:=congrFun (congrFun (G.symm.trans hb) q) i;rwa [ic] at this
  rw [<- z];exact (Aw (hV.ln _ _ (jC u)) hl t).2 (.inr ht)
 ·exact absurd hi (u i' (CJ hi).2)
theorem HV.ne {b:Bool} (h:HV g ss F q y l (bW g ss q).length F' b) {q' i' : Nat} (hne:¬ (q' = q/\iS g ss q i' = some y)):F' q' i' = F q' i':=by
 rcases h with ⟨i,_,u,rfl,_⟩ | ⟨_,rfl,_⟩
 ·exact oN λe=>hne ⟨e.1,by rw [e.2]; exact u⟩
 ·rfl
theorem Sg.one {r:List Int} {l l' : List Bool} (h:Sg g F q i r l) (h' : Sg g F q i r l'):l = l':=ij (h.1.trans h'.1.symm) λt=>by rw [ZI,h.2,h'.2]
def Si (bs:List Bool) (b:Bool) (t:List Bool) (k:Nat):List Bool:=yz bs.length λj=>aV bs j || (decide (j < k) && (b && aV t j))
theorem j7 {bs t:List Bool} {b:Bool} {k:Nat}:(Si bs b t k).length = bs.length:=mg _ _
theorem RO {n:Nat} {m:Nat->Bool} {j:Nat} (hj:j < n):aV (yz n m) j = m j:=by
 unfold aV yz;rw [YX,YW,Z8 hj]; rfl
theorem EE {bs t:List Bool} {b:Bool} {k j:Nat} (hj:j < bs.length):aV (Si bs b t k) j = (aV bs j || (decide (j < k) && (b && aV t j))):=RO hj
theorem EF {bs:List Bool} {j:Nat} (hj:bs.length<=j):aV bs j = false:=by
 unfold aV; rw [YX,Zf hj]; rfl
theorem RP {bs t:List Bool} {b:Bool}:Si bs b t 0 = bs:=ij j7 λj=>by
 by_cases u:j < bs.length
 ·rw [EE u]; simp
 ·rw [EF (by rw [j7]; omega),EF ω]
theorem RQ {bs t:List Bool} {b:Bool} {k:Nat} (hk:k < bs.length):Si bs b t (k + 1) = (Si bs b t k).set k (aV bs k || (b && aV t k)):=ij (by rw [Zn,j7,j7]) λj=>by
 rw [G4 (by rw [j7]; exact hk)]
 by_cases u:j < bs.length
 ·rw [EE u,EE u]
  by_cases h:j = k
  ·subst h; simp
  ·rw [YZ h]
   have:(decide (j < k + 1)) = decide (j < k):=by congr 1; exact propext ⟨λh=>ω,λh=>ω⟩
   rw [this]
 ·rw [EF (by rw [j7]; omega),YZ ω,EF (by rw [j7]; omega)]
end
section
variable {w:aa4} {g:af} {ns:List Bool} {ss:List SQ} {d:RM} {F:fa} {q i:Nat} {H:Hp}
theorem HBZ {bs:List Bool} {k:Nat} (hk:k < bs.length):(bv bs)[k]? = some (.bool (aV bs k)):=by
 unfold bv aV;rw [YW,YX,YU hk]; rfl
theorem RR (hc:ak g) (hA:bw g ss) (hb:jd g) (hn:j6 g ns) (hI:US H g ns ss d) (hV:Bz g ss F) (hm:(q,i)∈gm g ss) (hcl:∀ q,(bW g ss q).length<=4611686018427387904) (h:St w [aC (rQ g ss d F),has H]) :
  ρ nw [.pointer (some (aM d.kh)),.int .i64 (q:Int),.int .i64 (i:Int)] w λv w'=>∃ (b:Bool) (F' : fa),v = .bool b/\Bz g ss F'/\mL (gm g ss) F F' b/\(b = false->F' = F/\RL g ss F q i)/\St w' [aC (rQ g ss d F'),has H]:=by
 have hq:q < ss.length:=(jB.1 hm).1;have hi:i < (bW g ss q).length:=(jB.1 hm).2;obtain ⟨y,hy⟩ : ∃ y,iS g ss q i = some y:=⟨_,YU hi⟩;obtain ⟨r,m,O,p,hr,et,rfl,X,eQ,cy,ci⟩:=UT hc hA hy;obtain ⟨sT,sN,sP,f6,_,_⟩:=hc.b9;have d6:=hA.xv hc;have eg:∀ q∈ss,q.2.2.length<=130:=λq hq=>(d6 q hq).2;have cc:=hA.dn.2.1;have cg:=YV X;have b7:=hb.2.2.2.2.2.2 p cg;have ab:=hV.ln q i hm;refine lO ?_;have s0:sub H (hp w):=aR 1 h.l;obtain ⟨f4,aI,cI,eI,rI,cD⟩:=hI.i q hq;obtain ⟨z,f9,hz,ez,rz⟩:=pU cD hi;obtain rfl:z = ⟨(m:Int),(O:Int)⟩:=Option.some.inj (hz.symm.trans hy);refine ⟨_,_,_,hI.r.cell s0 (j:=8) rfl,aw eI hq ⟨_,_,_,rI.cell0 s0,aq ez hi ⟨_,_,rz.at s0 rfl,ag h λk5 w1 G=>aU G rfl (by simp [aG]) λw2 R=>?_⟩⟩⟩;obtain ⟨W,ba,cC,h3⟩:=St.freeze (R.pick 3 [1,0,2]);have rk:au W (aM k5) [.int .i64 (m:Int),.int .i64 (O:Int)]:=ah 0 ba;have g1:sub H W:=aR 1 ba;clear ba cC R h;have hI:=hI.mono g1;obtain ⟨f8,aT,cT,eT,rT,e5⟩:=hI.t q hq;obtain ⟨f7,e9,ey⟩:=e5 i hi;have s2:sub W (hp w2):=aR 1 h3.l;refine ⟨_,_,_,hI.r.cell s2 (j:=9) rfl,aw eT hq ⟨_,_,_,rT.cell0 s2,aw e9 hi ⟨_,_,_,ey.cell0 s2,λw3 d0=>?_⟩⟩⟩;have h4:=h3.drawn d0;have s3:sub W (hp w3):=aR 1 h4.l;have rg:au W (aM d.kh) d.x.cells:=au.take (vs:=[.slice d.oA ss.length d.cA,.int .i64 d.ask,.int .i64 d.int,.slice d.oI ss.length d.cI,.slice d.oT ss.length d.cT,.pointer (some ⟨d.bp,0,none⟩)]) hI.r;have ra:au W ((aM d.kh).add 5) [.slice d.oA ss.length d.cA,.int .i64 d.ask,.int .i64 d.int]:=au.take (vs:=[.slice d.oI ss.length d.cI,.slice d.oT ss.length d.cT,.pointer (some ⟨d.bp,0,none⟩)]) (Gg hI.r 5);refine ⟨λu=>sub W (hp u),s3,_,_,_,_,_,_,_,_,_,_,_,_,_,λu s=>rg.at s rfl,_,_,λu s=>rk.at s rfl,(Cv (y:=⟨(m:Int),(O:Int)⟩) (hI.gr.mono s3) cy).mono ?_⟩;rintro _ w6 ⟨rfl,dk⟩;have h5:=h4.gr dk;have s6:sub W (hp w6):=aR 1 h5.l;clear h3 h4
 refine ⟨_,rfl,s6,ae (λG=>?_) λG=>?_⟩
 ·have G:di g ⟨(m:Int),(O:Int)⟩ < 0:=YR G;refine ⟨false,F,rfl,hV,.start,λ_=>⟨rfl,λy' Y h0=>?_⟩,St.nf h5 (bH g1)⟩;rw [hy] at Y; cases Y; omega
 have h0:0<=di g ⟨(m:Int),(O:Int)⟩:=by have:=YS G; omega
 obtain ⟨hs,eU,ca,q',a8,d5⟩:=ci h0;obtain ⟨s,es⟩ : ∃ s,s = di g ⟨(m:Int),(O:Int)⟩:=⟨_,rfl⟩;rw [<- es] at hs ca a8 h0 ⊢;clear ci G;intro w7 eb;have h7:=h5.drawn eb;have s7:sub W (hp w7):=aR 1 h7.l;clear h5;refine ⟨λu=>sub W (hp u),s7,_,_,_,_,_,λu s=>ra.at s rfl,_,λu s=>rk.cell0 s,_,λu s=>rk.cell s (j:=1) rfl,⟨ω,ω⟩,(Li hA (hI.a.mono s7) hq eg cc).mono ?_⟩;rintro _ ej ⟨rfl,bT⟩;have b0:=h7.gr bT;have e6:sub W (hp ej):=aR 1 b0.l;clear h7;have d7:kE ss q s = (q' : Int):=by unfold kE; rw [a8]; rfl
 rw [d7]
 have ad:¬ (q = q'/\iS g ss q' i = some ⟨(m:Int),(O:Int) + 1⟩):=λhh=>by
  have R:=hh.2;rw [<- hh.1,hy] at R;have h3:=congrArg ai.dot (Option.some.inj R);have h3:(O:Int) = (O:Int) + 1:=h3;omega
 refine ⟨_,rfl,e6,(HW (F:=F) (q:=q') (y:=⟨(m:Int),(O:Int) + 1⟩) (l:=F q i) hI d5 (λi' h'=>hV.ln _ _ h') ab sT (hcl q') b0 (λF' u H' _ d1 hu=>?_)).mono ?_⟩
 ·have e:=d1 q i ad;have rr:=HU hm hu;rw [e] at rr;exact mf ab (.inr ⟨_,rfl,rr⟩)
 rintro _ ea ⟨b1,F1,rfl,bd,am⟩;have b5:sub W (hp ea):=aR 1 am.l;clear b0
 obtain ⟨ck,a0⟩:=bd.hv hV ab λt ht=>by
  have:=Bb.sh q m O q' t p s X hs a8 (by simpa using hV.sd q i _ t hy ht)
  show Bb g ss q' (m:Int).toNat ((O:Int) + 1).toNat t
  rw [Za,show ((O:Int) + 1).toNat = O + 1 by omega];exact this
 have em:F1 q i = F q i:=bd.ne ad
 have cx:F1 = F->Yz g ss F q i ⟨(m:Int),(O:Int)⟩ s:=λe q2 i2 a6 ec t ht=>by
  rw [a8] at a6;have:q' = q2:=by have:=Option.some.inj a6; omega
  subst this;exact bd.all hV ab e ec ht
 refine ⟨_,rfl,b5,_,_,_,_,_,_,_,_,_,_,_,_,_,rg.at b5 rfl,(TQ (s:=s) (hI.gr.mono b5) hb).mono ?_⟩;rintro _ fc ⟨rfl,b4⟩;have bc:=am.gr b4;clear am
 refine ⟨_,rfl,ae (λR=>?_) λR=>?_⟩
 ·have dc:¬ (g.T:Int)<=s:=λhT=>by
   rw [Zp hT,Zp ca] at R;cases R
  refine ⟨b1,F1,rfl,ck,a0,λhb=>⟨a0.no hb,λy' Y _=>?_⟩,St.nf bc (bH g1)⟩;rw [hy] at Y;cases Y;rw [<- es];exact ⟨cx (a0.no hb),λhT=>absurd hT dc⟩
 have eY:(g.T:Int)<=s:=by
  refine Int.not_lt.1 λeX=>?_;rw [Zu (by omega:¬ (g.T:Int)<=s)] at R;cases R
 intro ei c7;have bi:=bc.drawn c7;have a9:sub W (hp ei):=aR 1 bi.l;clear bc R;obtain ⟨k4,o,c,ps,vs,tb,al,cp⟩:=hI.b;obtain ⟨p',fd,eN,c6,e7,e8,eo,rl,rc,rfl,bP,bA⟩:=hI.gr.p.get (i:=m) (by have:=hI.gr.p.1; have:=(YT.1 X).1; omega);rw [X] at c6; cases c6;have f3:=bA.1;have eC:=(YT.1 X).1;have eS:=hI.gr.p.1;refine ⟨λu=>sub W (hp u),a9,_,λu s=>hI.r.cell s (j:=10) rfl,_,_,_,λu s=>rg.cell s (j:=4) rfl,_,λu s=>rk.cell0 s,aq e7 ω ⟨_,_,_,λu s=>e8.cell s (j:=1) rfl,_,λu s=>rk.cell s (j:=1) rfl,⟨ω,ω⟩,?_⟩⟩
 show lR eo rl rc (some ((O:Int) + 1)) none none 1 _
 rw [show (O:Int) + 1 = ((O + 1:Nat):Int) by simp];have d8:X4 g (p.right.drop (O + 1)):=λz hz=>by have:=hc.sym cg (aac hz); omega
 refine ct ω bP ((X7 (hI.gr.mono a9) (.inr hc) (tb.mono a9) hn al cp ((bA.drop (k:=O + 1) (m:=rc) ω bP).mono a9) d8 ω).mono ?_);rintro _ ek ⟨k3,bs,b3,rfl,cb,d9,c9⟩;have bl:=St.nf c9 bi.l;have ep:sub W (hp ek):=aR 2 bl.l;clear c9 bi;have eB:=cb.1;refine ⟨_,_,_,_,rfl,ep,λz w'=>∃ k:Nat,z = k/\k<=g.T/\St w' (aH k3 (bv (Si bs b3 (F q i) k)) :: [aC (rQ g ss d F1),has W]),λz _=>g.T - z.toNat,⟨0,rfl,Y4 _,by rw [RP]; exact bl⟩,?_⟩;clear bl;rintro _ _ dF ⟨k,rfl,hk,a1⟩
 refine ae (λG=>?_) λG=>?_
 ·have G:k < g.T:=by have:=YR G; omega
  have eA:aV (Si bs b3 (F q i) k) k = aV bs k:=by rw [EE ω]; simp
  have cB:(bv (Si bs b3 (F q i) k))[k]? = some (.bool (aV bs k)):=by rw [HBZ (by rw [j7]; omega),eA]
  have put:∀ v:Bool,v = (aV bs k || (b3 && aV (F q i) k))->st1 dF ((aM k3).add k) (.bool v) λbC=>ax ((k:Int) + 1)/\(∃ k' : Nat,(k:Int) + 1 = k'/\k'<=g.T/\St bC (aH k3 (bv (Si bs b3 (F q i) k')) :: [aC (rQ g ss d F1),has W]))/\g.T - ((k:Int) + 1).toNat < g.T - (k:Int).toNat:=λv hv=>by
   rw [aK];refine bj a1 (by rw [n_,j7]; omega) λbC a5=>?_;rw [Cq,hv,<- RQ ω] at a5;exact ⟨⟨ω,ω⟩,⟨k + 1,σ,G,a5⟩,bn G⟩
  refine aw rfl G ⟨aV bs k,by rw [aK,a1.cell]; exact cB,ae (λh5=>aw rfl G (put true (by rw [h5]; rfl))) λh5=>ae (λh6=>?_) λh6=>aw rfl G (put false (by rw [h5,h6]; rfl))⟩;have rr:=HU hm (a1.pick 3 [1,0,2]);rw [em] at rr;refine aw rfl G ⟨aV (F q i) k,rr.cell (sub.refl _) (HBZ ω),aw rfl G (put _ (by rw [h5,h6]; rfl))⟩
 have G:k = g.T:=by have:=YS G; omega
 subst G;obtain ⟨l,el⟩ : ∃ l,l = Si bs b3 (F q i) g.T:=⟨_,rfl⟩;have a4:l.length = g.T:=by rw [el,j7,eB]
 have cv:Sg g F q i (p.right.drop (O + 1)) l:=by
  refine ⟨a4,λt=>?_⟩
  by_cases ht:t < g.T
  ·rw [el,EE ω,<- cb.2,<- d9];simp [ht]
  ·rw [EF ω]; simp [ht]
 rw [<- el] at a1;obtain ⟨H2,bb,ef,a5⟩:=St.freeze (a1.pick 3 [1,0,2]);have dl:au H2 (aM k3) (bv l):=ah 0 bb;have g2:sub W H2:=aR 1 bb;clear bb ef a1;have c5:=hI.mono g2;have c8:=rg.mono g2
 have lh:∀ (n:Nat) p',g.prods[n]? = some p'->p'.left = s->∀ t,aV l t = true->Bb g ss q n 0 t:=λn p' U V t ht=>by
  rcases ((cv.2 t).1 ht).2 with h | ⟨h,h'⟩
  ·exact .fs q m O n t p p' s r hr et X hs U V h
  ·exact .up q m O n t p p' s X hs U V h (by simpa using hV.sd q i _ t hy h')
 refine ⟨λb z w'=>∃ (k:Nat) (F2:fa),z = k/\k<=g.prods.length/\Bz g ss F2/\mL (gm g ss) F F2 b/\(b = false->F1 = F/\F2 = F/\Yn g ss F q s l k)/\St w' [aC (rQ g ss d F2),has H2],λ_ z _=>g.prods.length - z.toNat,⟨0,F1,rfl,Y4 _,ck,a0,λhb=>⟨a0.no hb,a0.no hb,λn p' i' U=>ω⟩,a5⟩,?_⟩;clear a5;rintro _ b6 _ er ⟨k,F2,rfl,hk,a3,b2,Z,a7⟩;have be:sub H2 (hp er):=aR 1 a7.l;refine ⟨_,_,_,c8.cell be (j:=4) rfl,ae (λG=>?_) λG=>?_⟩
 rotate_left
 ·have G:k = g.prods.length:=by have:=YS G; omega
  subst G;refine ⟨b6,F2,rfl,a3,b2,λhb=>⟨(Z hb).2.1,λy' Y _=>?_⟩,St.nf a7 (bH (sub.trans g1 g2))⟩;rw [hy] at Y;cases Y;rw [<- es];refine ⟨cx (Z hb).1,λ_ p' aa l' V=>?_⟩;have aa : g.prods[m]? = some p':=by simpa using aa
  rw [X] at aa;cases aa;have e:l' = l:=Sg.one (by simpa using V) cv;rw [e];exact (Z hb).2.2
 have G:k < g.prods.length:=by have:=YR G; omega
 obtain ⟨p2,eK,eG,cm,e0,a6,eP,eV,f2,rfl,eD,f5⟩:=c5.gr.p.get (i:=k) ω;refine ⟨_,_,_,c8.cell be (j:=4) rfl,aq e0 ω ⟨_,a6.cell0 be,ae (λR=>?_) λR=>?_⟩⟩
 rotate_left
 ·have R:p2.left≠s:=by simpa using R
  refine ⟨⟨ω,ω⟩,⟨k + 1,F2,σ,G,a3,b2,λhb=>⟨(Z hb).1,(Z hb).2.1,λn p' i' d2 U V ac t ht=>?_⟩,a7⟩,bn G⟩
  by_cases e:n = k
  ·subst e; rw [cm] at U; cases U; exact absurd V R
  ·exact (Z hb).2.2 n p' i' ω U V ac t ht
 have R:p2.left = s:=by simpa using R
 refine (HW (F:=F2) (q:=q) (y:=⟨(k:Int),0⟩) (l:=l) c5 hq (λi' h'=>a3.ln _ _ h') a4 sT (hcl q) a7 (λF' u H' g' _ hu=>mf a4 (.inr ⟨_,rfl,dl.mono (sub.trans g' (aR 1 hu.l))⟩))).mono ?_;rintro _ d4 ⟨ch,F3,rfl,bG,eu⟩;obtain ⟨d3,cz⟩:=bG.hv a3 a4 λt ht=>by simpa using lh k p2 cm R t ht
 have next:∀ b:Bool,b = (b6 || ch)->ax ((k:Int) + 1)/\(∃ (k' : Nat) (F2:fa),(k:Int) + 1 = k'/\k'<=g.prods.length/\Bz g ss F2/\mL (gm g ss) F F2 b/\(b = false->F1 = F/\F2 = F/\Yn g ss F q s l k')/\St d4 [aC (rQ g ss d F2),has H2])/\g.prods.length - ((k:Int) + 1).toNat < g.prods.length - (k:Int).toNat:=λb cu=>by
  refine ⟨⟨ω,ω⟩,⟨k + 1,F3,σ,G,d3,by rw [cu]; exact b2.trans cz,λhb=>?_,eu⟩,bn G⟩;rw [cu,aaY] at hb;obtain ⟨e1,e2,e3⟩:=Z hb.1;have e4:=cz.no hb.2;refine ⟨e1,by rw [e4,e2],λn p' i' d2 U V ac t ht=>?_⟩
  by_cases e:n = k
  ·subst e;have:=bG.all a3 a4 e4 ac ht;rwa [e2] at this
  ·exact e3 n p' i' ω U V ac t ht
 exact ⟨_,rfl,ae (λh3=>next true (by rw [h3]; rfl)) λh3=>next ch (by rw [h3]; rfl)⟩
end
theorem xV:∀ (N:List az) {M:List az} {h:Hp},aD (N ++ M) h->∃ h0,aD M h0/\sub h0 h/\aD (N ++ [has h0]) h
 | [],M,h,hs=>⟨h,hs,sub.refl _,bH (sub.refl _)⟩
 | A :: N,M,h,⟨h1,h2,d,s1,s2,ha,hl⟩=>by
  obtain ⟨h0,k1,k2,k3⟩:=xV N hl
  exact ⟨h0,k1,sub.trans k2 s2,h1,h2,d,s1,s2,ha,k3⟩
theorem St.Ua {w:aa4} (N:List az) {M:List az} (h:St w (N ++ M)):∃ h0,aD M h0/\St w (N ++ [Proofs.YtndaepmjkbmjmaaGreatDoor.has h0]):=by
 obtain ⟨h0,z,_,u⟩:=xV N h;exact ⟨h0,z,u⟩
def OR (g:af) (ss:List SQ) (B:Nat->Nat->Nat) (n:Nat):List az:=(Fj g ss n).map λp=>aH (B p.1 p.2) (bv (List.replicate g.T false))
structure Ub (H:Hp) (g:af) (ss:List SQ) (B:Nat->Nat->Nat) (vI vT:List Value) (n:Nat):Prop where
 lI:vI.length = n
 lT:vT.length = n
 i:∀ q,q < n->∃ a c,vI[q]? = some (.slice a (bW g ss q).length c)/\bh H (bW g ss q) a (bW g ss q).length
 t:∀ q,q < n->∃ a c,vT[q]? = some (.slice a (bW g ss q).length c)/\∀ i,i < (bW g ss q).length->∃ ad2,a = some ad2/\au H (ad2.add i) [.slice (some (aM (B q i))) g.T g.T]
def UU (B:Nat->Nat->Nat) (n:Nat) (bs:List Nat):Nat->Nat->Nat:=λq i=>if q = n then bs.getD i 0 else B q i
section
variable {g:af} {ss:List SQ} {B:Nat->Nat->Nat} {vI vT:List Value} {n:Nat} {H H' : Hp} {bs:List Nat}
theorem Ub.mono (s:sub H H') (h:Ub H g ss B vI vT n):Ub H' g ss B vI vT n:=by
 refine ⟨h.lI,h.lT,λq u=>?_,λq u=>?_⟩
 ·obtain ⟨a,c,e,r⟩:=h.i q u;exact ⟨a,c,e,r.mono s⟩
 ·obtain ⟨a,c,e,t⟩:=h.t q u;refine ⟨a,c,e,λi hi=>?_⟩;obtain ⟨z,G,O⟩:=t i hi;exact ⟨z,G,O.mono s⟩
theorem Ub.zero:Ub H g ss B [] [] 0:=⟨rfl,rfl,λq u=>ω,λq u=>ω⟩
theorem Ub.snoc (h:Ub H g ss B vI vT n) {a a2:aa3} {c c2:Nat} (hi:bh H (bW g ss n) a (bW g ss n).length) (ht:∀ i,i < (bW g ss n).length->∃ ad2,a2 = some ad2/\au H (ad2.add i) [.slice (some (aM (bs.getD i 0))) g.T g.T]) :
  Ub H g ss (UU B n bs) (vI ++ [.slice a (bW g ss n).length c]) (vT ++ [.slice a2 (bW g ss n).length c2]) (n + 1):=by
 refine ⟨by simp [h.lI],by simp [h.lT],λq R=>?_,λq R=>?_⟩
 ·by_cases e:q = n
  ·subst e;exact ⟨a,c,by rw [Y_ (by rw [h.lI]; omega),h.lI]; simp,hi⟩
  ·obtain ⟨u,O,z,r⟩:=h.i q ω;exact ⟨u,O,by rw [Y8 (by rw [h.lI]; omega)]; exact z,r⟩
 ·by_cases e:q = n
  ·subst e;refine ⟨a2,c2,by rw [Y_ (by rw [h.lT]; omega),h.lT]; simp,λi hi=>?_⟩;have G:UU B q bs q i = bs.getD i 0:=Y5 rfl;rw [G]; exact ht i hi
  ·obtain ⟨u,O,z,t⟩:=h.t q ω;refine ⟨u,O,by rw [Y8 (by rw [h.lT]; omega)]; exact z,λi hi=>?_⟩;have G:UU B n bs q i = B q i:=YZ e;rw [G]; exact t i hi
theorem RS (hl:bs.length = (bW g ss n).length):OR g ss B n ++ bs.map (λb=>aH b (bv (List.replicate g.T false))) = OR g ss (UU B n bs) (n + 1):=by
 unfold OR;rw [Gu,Zg]
 congr 1
 ·refine ZP λp u=>?_;have:=(jB.1 u).1;rw [show UU B n bs p.1 p.2 = B p.1 p.2 from YZ ω]
 ·unfold OB;rw [aay];refine List.ext_getElem (by simp [hl]) λi z G=>?_;simp only [Y3] at z;simp only [List.getElem_map,List.getElem_range,Function.comp];rw [show UU B n bs n i = bs.getD i 0 from Y5 rfl,YX,YU z]; rfl
theorem row_one {h:Hp} {a:Addr} {vs:List Value} (r:au h a vs) {i:Nat} {v:Value} (hv:vs[i]? = some v):au h (a.add i) [v]:=by
 obtain ⟨hi,e⟩:=YT.1 hv;have u:=Gg r i;rw [Zy hi,e] at u;exact au.take (us:=[v]) u
theorem Bz.first {F:fa} {l:List Bool} (hl:∀ t,aV l t = true↔t = 0) (hll:l.length = g.T) {b:Bool} (hP:HV g ss (λ_ _=>List.replicate g.T false) 0 ⟨0,0⟩ l (bW g ss 0).length F b):Bz g ss F:=by
 have h0:∀ t,aV (List.replicate g.T false) t = false:=λt=>by
  unfold aV;rw [YX,Z2]
  split <;> rfl
 rcases hP with ⟨i,_,G,rfl,_⟩ | ⟨G,rfl,_⟩
 ·have u:∀ t,aV (xD g.T (List.replicate g.T false) l) t = true↔t = 0:=λt=>by
   rw [Aw σ hll,h0,hl]; simp
  refine ⟨λq j _=>?_,λq j y t O ht=>?_,λj z=>?_⟩
  ·by_cases e:q = 0/\j = i
   ·rw [e.1,e.2,ic,jv]
   ·rw [oN e]; simp
  ·by_cases e:q = 0/\j = i
   ·obtain ⟨rfl,rfl⟩:=e;rw [ic] at ht;rw [G] at O; cases O;rw [(u t).1 ht];exact .st
   ·rw [oN e,h0] at ht; cases ht
  ·have:=zC G z;subst this;rw [ic]; exact (u 0).2 rfl
 ·refine ⟨λq j _=>σ,λq j y t O ht=>?_,λj z=>absurd z (G j (CJ z).2)⟩;rw [h0] at ht; cases ht
end
section
variable {w:aa4} {g:af} {ss:List SQ} {x:GA}
theorem Uc {L A B:List az} (h:St w (aC A :: aC B :: L)):St w (aC (A ++ B) :: L):=by
 have u:=(St.flat.1 h).perm (ZQ:(A ++ aC B :: L).Perm (aC B :: (A ++ L)));have z:=St.flat.1 u;exact St.flat.2 (z.perm (by rw [<- Y6]; exact List.perm_append_comm.append_right _))
theorem HX {h:Hp} {o:aa3} {vs:List Value} {i:Nat} {v:Value} (r:fo o vs h) (hv:vs[i]? = some v):∃ ad,o = some ad/\au h (ad.add i) [v]:=by
 rcases r with e | ⟨ad,e,u⟩
 ·rw [e] at hv; simp at hv
 ·exact ⟨ad,e,row_one u hv⟩
theorem Wp {oA:aa3} {cA:Nat} {ask int:Int} (hc:ak g) (hA:bw g ss) (hb:jd g) (hg:gR (hp w) g x) (ha:vN (hp w) ss oA):ρ wJ [.agg ⟨x.cells⟩,.agg #[.slice oA ss.length cA,.int .i64 ask,.int .i64 int]] w λv w'=>∃ (d:RM) (ns:List Bool) (F:fa) (H:Hp),v = .pointer (some (aM d.kh))/\j6 g ns/\US H g ns ss d/\sub (hp w) H/\Bz g ss F/\(∀ q i,(q,i)∈gm g ss->RL g ss F q i)/\St w' [aC (rQ g ss d F),has H]:=by
 obtain ⟨sT,sN,sP,er,ei,_⟩:=hc.b9;obtain ⟨iG,bT,bN,pN,pT,bP⟩:=Tz (.inr hc:im g);have bG:=hA.xv hc;have e8:=hA.dn.2.1;have bC:=hA.pos;have cc:g.T = x.tl:=hg.t.1
 have b0:∀ q,(bW g ss q).length<=29197:=λq=>by
  unfold bW
  split
  ·rename_i r hr;have G:=yY g r.1.2;have O:=(bG r (YV hr)).1;omega
  ·simp
 refine tA (cG hg λk1 w1 gw cD Bx=>ag (St.all w1) λk2 w2 O=>λw3 hd=>?_);have dF:au (hp w2) (aM k2) [.slice oA ss.length cA,.int .i64 ask,.int .i64 int]:=ah 0 O.l;have V:Gr w1 w3:=O.aW.trans (Gr.drawn hd);have rA:=dF.mono (Gr.drawn hd);have bb:=cD.mono V;have ch:=ha.mono (gw.trans V);clear O hd;refine ⟨λu=>Gr w3 u,Gr.refl _,_,_,_,_,_,_,_,_,_,_,_,_,_,λu s=>Bx.row (V.trans s),_,_,_,_,_,λu s=>rA.at s rfl,_,_,_,_,_,_,_,_,_,_,_,_,_,λu s=>Bx.row (V.trans s),(TA bb hb (.inr hc)).mono ?_⟩;rintro _ w7 ⟨bp,k4,o,c,ns,ps,vs,rfl,c8,al,ci,ht⟩;have X:Gr w3 w7:=aR 4 ht.l;have ek:=al.lv;have tb:Lw (hp w7) g x bp k4 o c ns ps vs:=TB ω pN ht.l;clear ht;refine ⟨_,rfl,X,ag (St.all w7) λkh w8 h8=>⟨X.trans h8.aW,?_⟩⟩
 refine ⟨λz w'=>∃ (n:Nat) (B:Nat->Nat->Nat) (vI vT:List Value) (oI oT:aa3) (cI cT:Nat) (H:Hp),z = n/\n<=ss.length/\Ub H g ss B vI vT n/\sub (hp w7) H/\St w' [aH kh (x.cells ++ [.slice oA ss.length cA,.int .i64 ask,.int .i64 int,.slice oI n cI,.slice oT n cT,.pointer (some ⟨bp,0,none⟩)]),own 1 oI n cI vI,own 1 oT n cT vT,aC (OR g ss B n),has H],λz _=>ss.length - z.toNat,⟨0,λ_ _=>0,[],[],none,none,0,0,hp w7,rfl,Y4 _,.zero,sub.refl _,by
  rw [show OR g ss (λ_ _=>0) 0 = [] by simp [OR,Fj]];exact (ay 1 (ay 1 ((St.flat (M:=[])).2 h8))).pick 5 [3,0,1,2,4]⟩,?_⟩
 clear h8;rintro _ _ w9 ⟨n,B,vI,vT,oI,oT,cI,cT,H,rfl,hn,hM,hH,h⟩;have dc:Gr w7 w9:=sub.trans hH (aR 4 h.l);have b6:Gr w3 w9:=X.trans dc
 refine ⟨_,_,_,rA.cell0 b6,ae (λG=>?_) λG=>?_⟩
 ·have G:n < ss.length:=by have:=YR G; omega
  obtain ⟨r,hr⟩ : ∃ r,ss[n]? = some r:=⟨_,YU G⟩;have d4:yX g r.1.2:=(dE (g:=g) ω n).fit _ (YV (fN hA hr).1);have ec:=(bG r (YV hr)).1;have hN:=b0 n;have d3:=Nl (g:=g) hr;obtain ⟨ad,eA,rs,d8,_⟩:=ch n r hr;intro ca aa;have cb:=h.drawn aa;have W:=b6.trans (Gr.drawn aa);refine ⟨λu=>Gr ca u,Gr.refl _,_,_,_,_,_,_,_,_,_,_,_,_,_,λu s=>Bx.row ((V.trans W).trans s),_,_,_,λu s=>rA.cell0 (W.trans s),aq eA G ⟨_,_,_,λu s=>rs.cell0 (W.trans s),(FY (bb.mono W) hb hc (d8.mono W) d4 ω).mono ?_⟩⟩;rintro _ d7 ⟨oL,cL,rfl,a5⟩;have bc:Gr ca d7:=a5.aW;have cp:=a5.nf cb.l;obtain ⟨H1,aT,ac⟩:=St.Ua [aH kh _,own 1 oI n cI vI,own 1 oT n cT vT,aC (OR g ss B n)] (M:=[own 2 oL _ cL _,has H]) (cp.pick 6 [1,2,3,4,0,5]);simp only [List.cons_append,Zz] at ac;have rL:bh H1 (cls g r.1.2) oL (cls g r.1.2).length:=Cr rfl (dJ 0 aT);have ba:sub H H1:=aR 1 aT;clear aT cp a5 cb;rw [<- d3] at rL ⊢;obtain ⟨N,eN⟩ : ∃ N,N = (bW g ss n).length:=⟨_,rfl⟩;rw [<- eN] at rL hN ⊢;refine ⟨_,_,_,rfl,bc,λo k c z w'=>∃ (bs:List Nat),k = bs.length/\z = (bs.length:Int)/\bs.length<=N/\St w' (own 1 o k c (bs.map λb=>.slice (some (aM b)) g.T g.T) :: aC (bs.map λb=>aH b (bv (List.replicate g.T false))) :: [aH kh (x.cells ++ [.slice oA ss.length cA,.int .i64 ask,.int .i64 int,.slice oI n cI,.slice oT n cT,.pointer (some ⟨bp,0,none⟩)]),own 1 oI n cI vI,own 1 oT n cT vT,aC (OR g ss B n),has H1]),λ_ _ _ z _=>N - z.toNat,⟨[],rfl,rfl,Y4 _,by simp only [List.map_nil]; exact ay 1 ((St.flat (M:=[])).2 ac)⟩,?_⟩;clear ac;rintro _ a0 _ a3 _ bi ⟨bs,rfl,rfl,et,h⟩;have bl:Gr w7 bi:=sub.trans hH (sub.trans ba (aR 6 h.l))
  refine ae (λO=>?_) λO=>?_
  ·have O:bs.length < N:=by have:=YR O; omega
   refine ⟨_,_,_,Bx.c0 ((V.trans X).trans bl),?_⟩;rw [<- cc];refine ⟨⟨ω,rfl,ω⟩,?_⟩;rw [Za,dq,D4];refine ag h λcv ef h=>ag (h.pick 8 [1,0,2,3,4,5,6,7]) λeb eg h=>?_;refine (aL (us:=bs.map λb=>.slice (some (aM b)) g.T g.T) aQ (rfl:aj Ty _ = .slice _) (rfl:aj Ty _ = .slice _) rfl rfl rfl h rfl (by simp [aG]) (by show (bs.length + 1) * 24<=_; omega) ω).mono ?_;rintro _ eo ⟨eG,eC,rfl,h⟩;have h:=St.snoc (h.pick 9 [2,3,0,4,5,6,7,8]);refine ⟨_,_,_,rfl,⟨ω,ω⟩,⟨bs ++ [cv],σ,σ,by simp; omega,?_⟩,bn O⟩;rw [Zg,Zg];exact h.pick 7 [1,0,2,3,4,5,6]
  have O:bs.length = N:=by have:=YS O; omega
  refine ⟨_,_,_,(ah 2 h.l:au (hp bi) (aM kh) _).cell (sub.refl _) (j:=8) rfl,ag h λcg eu h=>?_⟩;refine (aL (us:=vI) aQ (rfl:aj Ty _ = .slice _) (rfl:aj Ty _ = .slice _) rfl rfl rfl (h.pick 8 [0,4,1,2,3,5,6,7]) rfl (by simp [aG]) (by show (n + 1) * 24<=_; omega) ω).mono ?_;rintro _ ez ⟨a1,Z,rfl,h⟩;refine ⟨_,_,_,rfl,?_⟩;rw [aK];refine bj (h.pick 8 [4,0,1,2,3,5,6,7]) (by simp [GA.cells]) λc6 h=>?_;have h:St c6 [aH kh (x.cells ++ [.slice oA ss.length cA,.int .i64 ask,.int .i64 int,.slice a1 (n + 1) Z,.slice oT n cT,.pointer (some ⟨bp,0,none⟩)]),own 1 a1 (n + 1) Z (vI ++ [.slice oL N cL]),aH cg [.slice oL N cL],own 1 a0 bs.length a3 (bs.map λb=>.slice (some (aM b)) g.T g.T),aC (bs.map λb=>aH b (bv (List.replicate g.T false))),own 1 oT n cT vT,aC (OR g ss B n),has H1]:=h;rw [O] at h;rw [O];refine ⟨_,_,_,(ah 0 h.l:au (hp c6) (aM kh) _).cell (sub.refl _) (j:=9) rfl,ag h λdl ea h=>?_⟩;refine (aL (us:=vT) aQ (rfl:aj Ty _ = .slice _) (rfl:aj Ty _ = .slice _) rfl rfl rfl (h.pick 9 [0,6,1,2,3,4,5,7,8]) rfl (by simp [aG]) (by show (n + 1) * 24<=_; omega) ω).mono ?_;rintro _ ep ⟨a6,a8,rfl,h⟩;refine ⟨_,_,_,rfl,?_⟩;rw [aK];refine bj (h.pick 9 [2,0,1,3,4,5,6,7,8]) (by simp [GA.cells]) λd2 h=>?_;have h:St d2 [aH kh (x.cells ++ [.slice oA ss.length cA,.int .i64 ask,.int .i64 int,.slice a1 (n + 1) Z,.slice a6 (n + 1) a8,.pointer (some ⟨bp,0,none⟩)]),own 1 a6 (n + 1) a8 (vT ++ [.slice a0 N a3]),aH dl [.slice a0 N a3],own 1 a1 (n + 1) Z (vI ++ [.slice oL N cL]),aH cg [.slice oL N cL],own 1 a0 N a3 (bs.map λb=>.slice (some (aM b)) g.T g.T),aC (bs.map λb=>aH b (bv (List.replicate g.T false))),aC (OR g ss B n),has H1]:=h;have h:=Uc (h.pick 9 [7,6,0,3,1,5,8,2,4]);have e5:bs.length = (bW g ss n).length:=by rw [O,eN]
  rw [RS e5] at h;obtain ⟨R,U,cu⟩:=St.Ua [aH kh _,own 1 a1 (n + 1) Z _,own 1 a6 (n + 1) a8 _,aC (OR g ss (UU B n bs) (n + 1))] (M:=[own 1 a0 N a3 _,has H1]) (h.pick 8 [1,2,3,0,4,5]);simp only [List.cons_append,Zz] at cu;have e6:fo a0 (bs.map λb=>Value.slice (some (aM b)) g.T g.T) R:=dJ 0 U;have Y:sub H1 R:=aR 1 U;refine ⟨⟨ω,ω⟩,⟨n + 1,UU B n bs,_,_,a1,a6,Z,a8,R,σ,G,?_,sub.trans hH (sub.trans ba Y),cu⟩,bn G⟩;rw [eN];rw [eN] at rL;refine (hM.mono (sub.trans ba Y)).snoc (rL.mono Y) λi hi=>HX e6 ?_;rw [YW,YX,YU ω]; rfl
 have G:n = ss.length:=by have:=YS G; omega
 subst G;refine ⟨_,_,_,Bx.c0 (V.trans b6),?_⟩;rw [<- cc];refine ⟨⟨ω,rfl,ω⟩,?_⟩;rw [Za,dq,D4];refine ag h λbA eB h=>iW rfl ω (bj h (by rw [n_]; simp; omega) λcz h=>?_);rw [Cq] at h;obtain ⟨l,el⟩ : ∃ l,l = (List.replicate g.T false).set 0 true:=⟨_,rfl⟩;have be:l.length = g.T:=by rw [el]; simp
 have cC:∀ t,aV l t = true↔t = 0:=λt=>by
  rw [el,G4 (by simp; omega)]
  by_cases e:t = 0
  ·simp [e]
  ·rw [YZ e]
   have:aV (List.replicate g.T false) t = false:=by
    unfold aV;rw [YX,Z2]
    split <;> rfl
   simp [this,e]
 rw [<- el] at h;obtain ⟨R,U,a9⟩:=St.Ua [aC (OR g ss B ss.length)] (M:=[aH bA (bv l),aH kh _,own 1 oI ss.length cI vI,own 1 oT ss.length cT vT,has H]) (h.pick 6 [4,0,1,2,3,5]);simp only [List.cons_append,Zz] at a9;have rl:au R (aM bA) (bv l):=ah 0 U;have rh:au R (aM kh) (x.cells ++ [.slice oA ss.length cA,.int .i64 ask,.int .i64 int,.slice oI ss.length cI,.slice oT ss.length cT,.pointer (some ⟨bp,0,none⟩)]):=ah 1 U;have rI:fo oI vI R:=dJ 2 U;have rT:fo oT vT R:=dJ 3 U;have Y:sub H R:=aR 4 U;have a7:sub (hp w7) R:=sub.trans hH Y;clear U h;obtain ⟨d,hd⟩ : ∃ d:RM,d = ⟨x,oA,cA,ask,int,oI,cI,oT,cT,bp,kh,B⟩:=⟨_,rfl⟩
 have hI:US R g ns ss d:=by
  subst hd
  refine ⟨bb.mono (sub.trans X a7),rh,ch.mono (sub.trans X a7),λq hq=>?_,λq hq=>?_,⟨k4,o,c,ps,vs,tb.mono a7,al,ci⟩⟩
  ·obtain ⟨a,c',e,r⟩:=hM.i q hq;obtain ⟨ad,e2,r2⟩:=HX rI e;exact ⟨ad,a,c',e2,r2,r.mono Y⟩
  ·obtain ⟨a,c',e,t⟩:=hM.t q hq;obtain ⟨ad,e2,r2⟩:=HX rT e;refine ⟨ad,a,c',e2,r2,λi hi=>?_⟩;obtain ⟨d6,e3,r3⟩:=t i hi;exact ⟨d6,e3,r3.mono Y⟩
 have d0:d.kh = kh:=by rw [hd]
 have a9:St cz [aC (rQ g ss d λ_ _=>List.replicate g.T false),has R]:=by subst hd; exact a9
 rw [<- d0];have e0:sub (hp w) R:=sub.trans gw (sub.trans V (sub.trans X a7));clear hd rh rI rT hM;have ab : ∀ q,(bW g ss q).length<=4611686018427387904:=λq=>by have:=b0 q; omega
 refine (HW (F:=λ_ _=>List.replicate g.T false) (q:=0) (y:=⟨0,0⟩) (l:=l) hI bC (λ_ _=>σ) be sT (ab 0) a9 (λF' u H' g' _ hu=>mf be (.inr ⟨_,rfl,rl.mono (sub.trans g' (aR 1 hu.l))⟩))).mono ?_;rintro _ em ⟨b1,F1,rfl,hP,c9⟩;have hV:=Bz.first cC be hP;obtain ⟨D,eD⟩ : ∃ D,D = gm g ss:=⟨_,rfl⟩;refine ⟨_,rfl,λb w'=>∃ F:fa,(Bz g ss F/\(b = false->∀ q i,(q,i)∈gm g ss->RL g ss F q i))/\St w' [aC (rQ g ss d F),has R],λb w'=>if b = true then 1 + UJ (λ(F:fa) w=>Bz g ss F/\St w [aC (rQ g ss d F),has R]) (λF=>(gm g ss).length * g.T - oM (gm g ss) F) w' else 0,⟨F1,⟨hV,λh=>by cases h⟩,c9⟩,?_⟩;clear c9 hV hP;rintro _ b2 d5 ⟨F,⟨hV,hC⟩,h⟩;refine ae (λG=>?_) λG=>?_
 rotate_left
 ·exact ⟨d,ns,F,R,rfl,c8,hI,e0,hV,hC G,h⟩
 subst G;obtain ⟨F0,⟨d9,h0⟩,e7⟩:=Hb (P:=λ(F:fa) w=>Bz g ss F/\St w [aC (rQ g ss d F),has R]) (w:=d5) (f:=λF:fa=>(gm g ss).length * g.T - oM (gm g ss) F) ⟨F,hV,h⟩;clear h hV hC;refine ⟨λb z w'=>∃ (n:Nat) (F' : fa),z = n/\n<=ss.length/\Bz g ss F'/\mL (gm g ss) F0 F' b/\(b = false->∀ q i,q < n->(q,i)∈gm g ss->RL g ss F0 q i)/\St w' [aC (rQ g ss d F'),has R],λ_ z _=>ss.length - z.toNat,⟨0,F0,rfl,Y4 _,d9,.start,λ_ q i hq=>ω,h0⟩,?_⟩;clear h0;rintro _ b3 _ c7 ⟨n,F',rfl,hn,a4,hG,bd,h⟩;have d1:sub R (hp c7):=aR 1 h.l;refine ⟨_,_,_,hI.r.cell d1 (j:=8) rfl,ae (λG=>?_) λG=>?_⟩
 rotate_left
 ·have G:n = ss.length:=by have:=YS G; omega
  subst G
  refine ⟨⟨F',⟨a4,λhb q i hm=>?_⟩,h⟩,?_⟩
  ·rw [hG.no hb];exact bd hb q i (jB.1 hm).1 hm
  ·cases b3 with
   | false=>simp; omega
   | true =>
    have h3:=hG.yes rfl;have h4:=a4.sum;have h5:=Dx (P:=λ(F:fa) w=>Bz g ss F/\St w [aC (rQ g ss d F),has R]) (f:=λF:fa=>(gm g ss).length * g.T - oM (gm g ss) F) (w:=c7) ⟨a4,h⟩;simp only [if_true];omega
 have G:n < ss.length:=by have:=YR G; omega
 obtain ⟨ej,aI,ey,eI,rI,e9⟩:=hI.i n G;refine ⟨λb z w'=>∃ (i:Nat) (F' : fa),z = i/\i<=(bW g ss n).length/\Bz g ss F'/\mL (gm g ss) F0 F' b/\(b = false->(∀ q i,q < n->(q,i)∈gm g ss->RL g ss F0 q i)/\∀ j,j < i->RL g ss F0 n j)/\St w' [aC (rQ g ss d F'),has R],λ_ z _=>(bW g ss n).length - z.toNat,⟨0,F',rfl,Y4 _,a4,hG,λhb=>⟨bd hb,λj hj=>ω⟩,h⟩,?_⟩;clear h bd hG a4;rintro _ b4 _ cB ⟨i,F2,rfl,hi,c5,am,b7,h⟩;have ck:sub R (hp cB):=aR 1 h.l;refine ⟨_,_,_,hI.r.cell ck (j:=8) rfl,aw eI G ⟨_,_,_,rI.cell0 ck,ae (λO=>?_) λO=>?_⟩⟩
 rotate_left
 ·have O:i = (bW g ss n).length:=by have:=YS O; omega
  refine ⟨⟨ω,ω⟩,⟨n + 1,F2,σ,G,c5,am,λhb q j hq hm=>?_,h⟩,bn G⟩
  by_cases e:q = n
  ·subst e;exact (b7 hb).2 j (by have:=(jB.1 hm).2; have:j < (bW g ss q).length:=this; omega)
  ·exact (b7 hb).1 q j ω hm
 have O:i < (bW g ss n).length:=by have:=YR O; omega
 have hN:=b0 n;refine (RR hc hA hb c8 hI c5 (jB.2 ⟨G,O⟩) ab h).mono ?_;rintro _ cx ⟨b5,F3,rfl,cy,dt,dk,e4⟩
 have next:∀ b:Bool,b = (b4 || b5)->ax ((i:Int) + 1)/\(∃ (i' : Nat) (F' : fa),(i:Int) + 1 = i'/\i'<=(bW g ss n).length/\Bz g ss F'/\mL (gm g ss) F0 F' b/\(b = false->(∀ q i,q < n->(q,i)∈gm g ss->RL g ss F0 q i)/\∀ j,j < i'->RL g ss F0 n j)/\St cx [aC (rQ g ss d F'),has R])/\(bW g ss n).length - ((i:Int) + 1).toNat < (bW g ss n).length - (i:Int).toNat:=λb cm=>by
  refine ⟨⟨ω,ω⟩,⟨i + 1,F3,σ,O,cy,by rw [cm]; exact am.trans dt,λhb=>?_,e4⟩,bn O⟩;rw [cm,aaY] at hb;obtain ⟨e1,e2⟩:=b7 hb.1;have e3:=(dk hb.2).2;rw [am.no hb.1] at e3;refine ⟨e1,λj hj=>?_⟩
  by_cases e:j = i
  ·subst e; exact e3
  ·exact e2 j ω
 exact ⟨_,rfl,ae (λh3=>next true (by rw [h3]; rfl)) λh3=>next b5 (by rw [h3]; rfl)⟩
end
noncomputable section
variable {g:af} {ns:List Bool} {ss:List SQ} {F:fa} {q i:Nat}
def Fk (g:af) (ns:List Bool) (ss:List SQ) (q:Nat) (z:Int):bK:=eZ g (EJ g ns ss) ⟨(q:Int),z,cq (bD g ss).length (dM g ss q z.toNat)⟩
def OD (g:af) (ns:List Bool) (ss:List SQ) (q:Nat) (l:List ai):List bK:=((l.filter (uT g)).map (·.prod)).map (Fk g ns ss q)
def Ud (g:af) (ns:List Bool) (ss:List SQ) (n:Nat):List bK:=(B5 g ss n).map (eZ g (EJ g ns ss))
theorem RT (q j:Nat):((dH g ss q j).map (·.prod)).map (Fk g ns ss q) = (dH g ss q j).map (eZ g (EJ g ns ss)):=by
 rw [aay];refine ZP λb u=>?_;obtain ⟨m,_,_,rfl⟩:=qb.1 u
 show Fk g ns ss q (m:Int) = _
 unfold Fk;rw [Za]
theorem Ue (hc:ak g) (hA:bw g ss) {r:SQ} (hr:ss[q]? = some r):OD g ns ss q (bW g ss q) = (dH g ss q g.prods.length).map (eZ g (EJ g ns ss)):=by
 unfold OD;rw [Nl hr,Q0 hc hA hr,RT]
theorem RU:Ud g ns ss (q + 1) = Ud g ns ss q ++ (dH g ss q g.prods.length).map (eZ g (EJ g ns ss)):=by unfold Ud; rw [vn,Zg]
theorem Uf:Ud g ns ss ss.length = bz g ns ss:=rfl
theorem Wq {l:List ai} {y:ai} (h:uT g y = false):OD g ns ss q (l ++ [y]) = OD g ns ss q l:=by
 unfold OD;rw [Zs,Z_,YZ (by rw [h]; simp)];simp
theorem Ug {l:List ai} {y:ai} (h:uT g y = true):OD g ns ss q (l ++ [y]) = OD g ns ss q l ++ [Fk g ns ss q y.prod]:=by
 unfold OD;rw [Zs,Z_,Y5 h];simp
theorem Uh (q:Nat) (l:List ai):(OD g ns ss q l).length<=l.length:=by
 unfold OD;rw [Y3,Y3];exact Zt _ _
theorem Wr (hc:ak g) (hA:bw g ss) (hn:j6 g ns) (hV:Bz g ss F) (hC:∀ q i,(q,i)∈gm g ss->RL g ss F q i) {m:Nat} {p:aP} (hp:g.prods[m]? = some p) (hm:m≠0) (hy:iS g ss q i = some ⟨(m:Int),(p.right.length:Int)⟩):Fk g ns ss q (m:Int) = ⟨(q:Int),(m:Int),dB (F q i)⟩:=by
 have e:(Fk g ns ss q (m:Int)).tm = dB (F q i):=by
  rw [HH,hV.ln q i (jC hy)];unfold Fk;rw [Za];refine qY λk O=>?_;have R:=RK hc hA hn (q:=q) hp hm (z:=(k:Int));rw [J0] at R;rw [ZI]
  have U:(∃ x:Nat,(k:Int) = x/\x < g.T/\Bb g ss q m p.right.length x)↔aV (F q i) k = true:=by
   constructor
   ·rintro ⟨x,e,G,h⟩;have:k = x:=ω
    subst this;obtain ⟨W,u,h'⟩:=Wm hc hA hn hV hC h G;have:=zC hy u;subst this;exact h'
   ·intro h;exact ⟨k,rfl,O,by simpa using hV.sd q i _ k hy h⟩
  rw [<- U,<- R]
  constructor
  ·intro h;exact ⟨k,rfl,O,YR h⟩
  ·rintro ⟨x,e,G,h⟩;have:k = x:=ω
   subst this;exact Zp h
 have V:Fk g ns ss q (m:Int) = ⟨(q:Int),(m:Int),(Fk g ns ss q (m:Int)).tm⟩:=rfl;rw [V,e]
end
section
variable {w:aa4} {g:af} {ns:List Bool} {ss:List SQ} {d:RM} {F:fa} {H:Hp}
theorem OE (hc:ak g) (hA:bw g ss) (hn:j6 g ns) (hI:US H g ns ss d) (hV:Bz g ss F) (hC:∀ q i,(q,i)∈gm g ss->RL g ss F q i) (h:St w [aC (rQ g ss d F),has H]) :
  ρ mM [.pointer (some (aM d.kh))] w λv w'=>∃ (o:aa3) (c:Nat) (ds:List iK),v = .slice o ds.length c/\ds.map jI = bz g ns ss/\St w' [own 3 o ds.length c (c_ ds),aC (oQ ds),aC (rQ g ss d F),has H]:=by
 obtain ⟨sT,sN,sP,ca,_,_⟩:=hc.b9;have b6:=hA.xv hc;have c5:=hA.dn.2.1
 have bd:∀ q,(bW g ss q).length<=29197:=λq=>by
  unfold bW
  split
  ·rename_i r hr;have R:=yY g r.1.2;have O:=(b6 r (YV hr)).1;omega
  ·simp
 have aa:∀ q,q<=ss.length->(Ud g ns ss q).length<=24832:=λq hq=>by
  unfold Ud;rw [Y3];have R:=uL g ss q;have O:q * g.prods.length<=256 * 97:=aaG ω sP;omega
 refine kV ⟨λo n c z w'=>∃ (q:Nat) (ds:List iK),z = q/\q<=ss.length/\n = ds.length/\ds.map jI = Ud g ns ss q/\St w' [own 3 o n c (c_ ds),aC (oQ ds),aC (rQ g ss d F),has H],λ_ _ _ z _=>ss.length - z.toNat,⟨0,[],rfl,Y4 _,rfl,rfl,ay 3 ((St.flat (M:=[])).2 h)⟩,?_⟩;clear h;rintro _ o1 _ c1 _ w1 ⟨q,ds,rfl,hq,rfl,G,h⟩;have s1:sub H (hp w1):=aR 3 h.l;refine ⟨_,_,_,hI.r.cell s1 (j:=8) rfl,ae (λR=>?_) λR=>?_⟩
 rotate_left
 ·have R:q = ss.length:=by have:=YS R; omega
  subst R;exact ⟨_,_,ds,rfl,by rw [G,Uf],h⟩
 have R:q < ss.length:=by have:=YR R; omega
 have cg:=aa q hq;have hN:=bd q;obtain ⟨r,hr⟩ : ∃ r,ss[q]? = some r:=⟨_,YU R⟩;have am:=Ue (ns:=ns) hc hA hr;obtain ⟨c8,aI,cI,eI,rI,b3⟩:=hI.i q R;obtain ⟨cc,aT,cT,eT,rT,be⟩:=hI.t q R;refine ⟨λo n c z w'=>∃ (i:Nat) (ds:List iK),z = i/\i<=(bW g ss q).length/\n = ds.length/\ds.map jI = Ud g ns ss q ++ OD g ns ss q ((bW g ss q).take i)/\St w' [own 3 o n c (c_ ds),aC (oQ ds),aC (rQ g ss d F),has H],λ_ _ _ z _=>(bW g ss q).length - z.toNat,⟨0,ds,rfl,Y4 _,rfl,by rw [G]; simp [OD],h⟩,?_⟩;clear h G;rintro _ o3 _ c3 _ w2 ⟨i,ds,rfl,hi,rfl,G,h⟩
 have cm:ds.length<=60000:=by
  have h3:=congrArg List.length G;have Y:=Uh (g:=g) (ns:=ns) (ss:=ss) q ((bW g ss q).take i);rw [Y3,Y0] at h3;rw [Zj] at Y;omega
 have s2:sub H (hp w2):=aR 3 h.l;refine ⟨_,_,_,hI.r.cell s2 (j:=8) rfl,aw eI R ⟨_,_,_,rI.cell0 s2,ae (λO=>?_) λO=>?_⟩⟩
 rotate_left
 ·have O:i = (bW g ss q).length:=by have:=YS O; omega
  rw [O,Zi,am,<- RU] at G;exact ⟨⟨ω,ω⟩,⟨q + 1,ds,σ,R,rfl,G,h⟩,bn R⟩
 have O:i < (bW g ss q).length:=by have:=YR O; omega
 obtain ⟨y,c9,hy,bc,ry⟩:=pU b3 O;have a8:iS g ss q i = some y:=hy;have ac:=jC a8;obtain ⟨cb,bA,bP⟩:=be i O;obtain ⟨r',m,W,p,ck,ci,rfl,V,b4,a3,bC⟩:=UT hc hA a8;have ad:(bW g ss q).take (i + 1) = (bW g ss q).take i ++ [⟨(m:Int),(W:Int)⟩]:=by rw [Y2,hy]; rfl
 have skip:uT g ⟨(m:Int),(W:Int)⟩ = false->∀ {u:aa4},St u [own 3 o3 ds.length c3 (c_ ds),aC (oQ ds),aC (rQ g ss d F),has H]->ax ((i:Int) + 1)/\(∃ (i' : Nat) (a0 : List iK),(i:Int) + 1 = i'/\i'<=(bW g ss q).length/\ds.length = a0.length/\a0.map jI = Ud g ns ss q ++ OD g ns ss q ((bW g ss q).take i')/\St u [own 3 o3 ds.length c3 (c_ a0),aC (oQ a0),aC (rQ g ss d F),has H])/\(bW g ss q).length - ((i:Int) + 1).toNat < (bW g ss q).length - (i:Int).toNat:=λbb {u} hu=>by
  refine ⟨⟨ω,ω⟩,⟨i + 1,ds,σ,O,rfl,?_,hu⟩,bn O⟩;rw [ad,Wq bb]; exact G
 refine ⟨_,_,_,hI.r.cell s2 (j:=8) rfl,aw eI R ⟨_,_,_,rI.cell0 s2,aq bc O ⟨_,_,ry.at s2 rfl,ag h λb2 w3 h=>aU h rfl (by simp [aG]) λw4 h=>λw5 hd=>?_⟩⟩⟩;have h:=h.drawn hd;obtain ⟨Z,a7,h5⟩:=St.Ua [own 3 o3 ds.length c3 (c_ ds),aC (oQ ds),aC (rQ g ss d F)] (M:=[aH b2 _,has H]) (h.pick 5 [1,2,3,0,4]);simp only [List.cons_append,Zz] at h5;have rk:au Z (aM b2) [.int .i64 (m:Int),.int .i64 (W:Int)]:=ah 0 a7;have g1:sub H Z:=aR 1 a7;clear h a7;have back:∀ {u:aa4} {o:aa3} {n c:Nat} {ds:List iK},St u [own 3 o n c (c_ ds),aC (oQ ds),aC (rQ g ss d F),has Z]->St u [own 3 o n c (c_ ds),aC (oQ ds),aC (rQ g ss d F),has H]:=λhu=>St.on (N:=[_,_,_]) hu (bH g1);have a4:=hI.mono g1;have rg:au Z (aM d.kh) d.x.cells:=au.take (vs:=[.slice d.oA ss.length d.cA,.int .i64 d.ask,.int .i64 d.int,.slice d.oI ss.length d.cI,.slice d.oT ss.length d.cT,.pointer (some ⟨d.bp,0,none⟩)]) a4.r;have s5:sub Z (hp w5):=aR 3 h5.l;refine ⟨λu=>sub Z (hp u),s5,_,λu s=>rk.cell0 s,ae (λh3=>?_) λh3=>?_⟩
 rotate_left
 ·refine skip ?_ (back h5);have h3:¬ (0:Int) < m:=YS h3;unfold uT;rw [Zu (by show ¬ (1:Int)<=m; omega)]; rfl
 have h3:(0:Int) < m:=YR h3;refine ⟨_,_,_,_,_,_,_,_,_,_,_,_,_,λu s=>rg.at s rfl,_,_,λu s=>rk.at s rfl,(Cv (y:=⟨(m:Int),(W:Int)⟩) (a4.gr.mono s5) a3).mono ?_⟩;rintro _ w9 ⟨rfl,ba⟩;have h9:=h5.gr ba;have s9:sub Z (hp w9):=aR 3 h9.l;clear h5;refine ⟨_,rfl,s9,ae (λY=>?_) λY=>?_⟩
 rotate_left
 ·refine skip ?_ (back h9);have Y:0<=di g ⟨(m:Int),(W:Int)⟩:=by have:=YS Y; omega
  obtain ⟨_,a6,_⟩:=bC Y;unfold uT;simp only [Za,V];rw [Zu (show ¬ ((p.right.length:Nat):Int)<=(W:Int) by omega)];simp
 have Y:di g ⟨(m:Int),(W:Int)⟩ < 0:=YR Y
 have b1:W = p.right.length:=by
  refine Nat.le_antisymm b4 (aax λa6=>?_);have ea:di g ⟨(m:Int),(W:Int)⟩ = p.right.getD W (-1):=by rw [kz (p:=p) (by simpa using V)]; simp
  rw [ea,YX,YU a6] at Y;have:=hc.sym (YV V) (List.getElem_mem a6);simp at Y;omega
 have a9:uT g ⟨(m:Int),(W:Int)⟩ = true:=(p_ a3).2 ⟨m,p,ω,V,by rw [b1]⟩;have ab:=Wr hc hA hn hV hC V (by omega:m≠0) (by rw [<- b1]; exact a8);intro bl b0;have a1:=h9.drawn b0;have b5:sub Z (hp bl):=aR 3 a1.l;clear h9;have rr:=HU ac (a1.pick 4 [2,0,1,3]);have bG:=hV.ln q i ac;refine ⟨λu=>sub Z (hp u),b5,_,λu s=>rk.cell0 s,_,_,_,λu s=>a4.r.cell s (j:=9) rfl,aw eT R ⟨_,_,_,λu s=>(rT.mono g1).cell0 s,aw bA O ⟨_,_,_,λu s=>(bP.mono g1).cell0 s,(VO (mf bG (.inr ⟨_,rfl,rr⟩)) ω ω).mono ?_⟩⟩⟩;rintro _ c6 ⟨U,X,rfl,hl⟩;have a5:=hl.nf a1.l;clear hl a1 rr;rw [<- qz] at a5 ⊢;refine ⟨_,_,_,rfl,aR 4 a5.l,ag a5 λch c7 h=>⟨aR 5 h.l,?_⟩⟩;refine (aL (us:=c_ ds) aQ (rfl:aj Ty _ = .slice _) (rfl:aj Ty _ = .slice _) rfl rfl rfl (h.pick 6 [0,2,1,3,4,5]) rfl (by simp [aG]) (by show (ds.length + 1) * 40<=_; omega) ω).mono ?_;rintro _ b7 ⟨bT,bi,rfl,h⟩
 refine ⟨_,_,_,rfl,aR 5 h.l,⟨ω,ω⟩,⟨i + 1,ds ++ [(((q:Int),(m:Int)),((U,X),dB (F q i)))],σ,O,σ,?_,?_⟩,bn O⟩
 ·rw [Zg,G,ad,Ug a9,ab,Y6];rfl
 ·rw [CD,show oQ (ds ++ [(((q:Int),(m:Int)),((U,X),dB (F q i)))]) = oQ ds ++ [own 1 U (dB (F q i)).length X (iv (dB (F q i)))] by unfold oQ; rw [Zg]; rfl];have R:St b7 [own 1 U (dB (F q i)).length X (iv (dB (F q i))),aC (oQ ds),own 3 bT (ds.length + 1) bi (c_ ds ++ QF (((q:Int),(m:Int)),((U,X),dB (F q i)))),aC (rQ g ss d F),has Z]:=h.pick 6 [2,3,0,4,5];have O:=St.on (N:=[_,_,_]) (St.snoc R).swap (bH g1);exact O
end
section
variable {g:af} {nn:List Bool} {ss:List SQ}
def Cd (q t p:Nat) (l:bK):Bool:=decide (l.st = (q:Int)) && decide (l.prod = (p:Int)) && decide ((t:Int)∈l.tm)
def xW (ls:List bK) (q t p:Nat):List aJ:=(ls.filter (Cd q t p)).map λ_=>⟨2,(p:Int)⟩
def zD (ls:List bK) (q t n:Nat):List aJ:=(ls.filter λl=>decide (l.st = (q:Int)) && decide ((t:Int)∈l.tm) && decide (l.prod < (n:Int))).map λl=>⟨2,l.prod⟩
theorem Gv {α : Type} {k:α->Int} {c:α->Bool} {n:Int}:∀ {l:List α},(l.Pairwise λx y=>k x < k y)->l.filter (λx=>c x && decide (k x < n + 1)) = l.filter (λx=>c x && decide (k x < n)) ++ l.filter (λx=>c x && decide (k x = n))
 | [],_=>rfl
 | a :: l,h=>by
  obtain ⟨h1,h2⟩:=ZU.1 h
  have ih:=Gv (c:=c) (n:=n) h2
  rw [Z_,Z_,Z_,ih]
  by_cases hc:c a = true
  ·rw [hc]
   rcases Int.lt_trichotomy (k a) n with h3 | h3 | h3
   ·simp [h3,show k a < n + 1 by omega,show k a≠n by omega]
   ·have e:l.filter (λx=>c x && decide (k x < n)) = []:=aaj.2 λx hx=>by
     have:=h1 x hx; simp; intro _; omega
    have h4:decide (k a < n + 1) = true:=Zp ω
    have h5:decide (k a < n) = false:=Zu ω
    have h6:decide (k a = n) = true:=Zp h3
    rw [e,h4,h5,h6]
    simp
   ·simp [show ¬ k a < n by omega,show ¬ k a < n + 1 by omega,show k a≠n by omega]
  ·simp [hc]
theorem OG {ls:List bK} {q t n:Nat} (h:ls.Pairwise λx y=>x.prod < y.prod):zD ls q t (n + 1) = zD ls q t n ++ xW ls q t n:=by
 unfold zD xW;rw [show ((n + 1:Nat):Int) = (n:Int) + 1 by omega,Gv (k:=bK.prod) (c:=λl:bK=>decide (l.st = (q:Int)) && decide ((t:Int)∈l.tm)) h,Zg];congr 1
 have e:ls.filter (λx=>decide (x.st = (q:Int)) && decide ((t:Int)∈x.tm) && decide (x.prod = (n:Int))) = ls.filter (Cd q t n):=Z5 λx _=>by
  unfold Cd;rw [Bool.and_assoc,Bool.and_assoc,Bool.and_comm (decide ((t:Int)∈x.tm))]
 rw [e];refine ZP λx u=>?_;have:=(ZA.1 u).2;unfold Cd at this;simp at this;rw [this.1.2]
theorem Bc {ls:List bK} {q t p:Nat} {l:bK}:xW (ls ++ [l]) q t p = if Cd q t p l = true then xW ls q t p ++ [⟨2,(p:Int)⟩] else xW ls q t p:=by
 unfold xW;rw [Zs,Z_];by_cases h:Cd q t p l = true <;> simp [h]
theorem Ki {ls:List bK} {q t:Nat} (h:∀ l∈ls,0 < l.prod):zD ls q t 1 = []:=by
 unfold zD;rw [aaj.2 λl u=>by have:=h l u; simp; intro _ _; omega]; rfl
theorem RV {ls:List bK} {q t n:Nat} (h:∀ l∈ls,l.prod < (n:Int)):zD ls q t n = EK ls q t:=by
 unfold zD EK;congr 1;refine Z5 λl u=>?_;rw [Zp (h l u),Bool.and_true]
def OS (ls:List bK) (q:Nat):List bK:=ls.filter λl=>decide (l.st = (q:Int))
theorem Xw (ls:List bK) (q t:Nat):EK (OS ls q) q t = EK ls q t:=by
 unfold EK OS;rw [List.filter_filter];congr 1;refine Z5 λl _=>?_;cases h:decide (l.st = (q:Int)) <;> simp
end
section
variable {g:af} {nn:List Bool} {ss:List SQ}
theorem RW (hc:ak g) (hA:bw g ss) {q:Nat}:wo ss q 0 = []:=by
 unfold wo;cases h:fy ss q ((0:Nat):Int) with
 | none=>rfl
 | some j =>
  obtain ⟨r,k,e,z,G,u,_⟩:=qN h;have:=(fh hc hA z G).1;have u:e.sym = 0:=u;omega
def H0 (K:List ai) (t i:Nat):List aJ:=if t = 0 then ((K.take i).filter λx=>decide (x = ⟨0,1⟩)).map λ_=>⟨3,0⟩ else []
theorem Kj {K:List ai} {t:Nat}:H0 K t 0 = []:=by unfold H0; split <;> simp
theorem zE {K:List ai} {t i:Nat} {y:ai} (h:K[i]? = some y):H0 K t (i + 1) = if t = 0/\y = ⟨0,1⟩ then H0 K t i ++ [⟨3,0⟩] else H0 K t i:=by
 unfold H0;rw [Y2,h,Zs];by_cases h0:t = 0 <;> by_cases u:y = ⟨0,1⟩ <;> simp [h0,u]
theorem LS {α : Type} [DecidableEq α] {a:α}:∀ {l:List α},l.Nodup->l.filter (λx=>decide (x = a)) = if a∈l then [a] else []
 | [],_=>σ
 | b :: l,h=>by
  obtain ⟨h1,h2⟩:=ZR.1 h
  have ih:=LS (a:=a) h2
  rw [Z_,ih]
  by_cases e:b = a
  ·subst e
   rw [Y5 σ,YZ h1,Y5 σ]
  ·rw [YZ (by simp [e])]
   have:(a∈b :: l)↔a∈l:=by rw [Ze]; exact ⟨λh=>h.resolve_left (aaw e),.inr⟩
   by_cases h3:a∈l
   ·rw [Y5 h3,Y5 (this.2 h3)]
   ·rw [YZ h3,YZ λh=>h3 (this.1 h)]
theorem Ui {q t:Nat} {r:SQ} (hr:ss[q]? = some r) (hK:r.1.2.Nodup):H0 r.1.2 t r.1.2.length = J2 ss q t:=by
 unfold H0 J2;rw [hr,Zi,LS hK];by_cases h0:t = 0 <;> by_cases u:(⟨0,1⟩ : ai)∈r.1.2 <;> simp [h0,u]
def LU (tm:List Int) (t p i:Nat):List aJ:=((tm.take i).filter λx=>decide (x = (t:Int))).map λ_=>⟨2,(p:Int)⟩
theorem Kk {tm:List Int} {t p:Nat}:LU tm t p 0 = []:=by unfold LU; simp
theorem zF {tm:List Int} {t p i:Nat} {y:Int} (h:tm[i]? = some y):LU tm t p (i + 1) = if y = (t:Int) then LU tm t p i ++ [⟨2,(p:Int)⟩] else LU tm t p i:=by
 unfold LU;rw [Y2,h,Zs];by_cases u:y = (t:Int) <;> simp [u]
theorem Uj {l:bK} {q t p:Nat} (hr:jH l.tm) (h1:l.st = (q:Int)) (h2:l.prod = (p:Int)):LU l.tm t p l.tm.length = if Cd q t p l = true then [⟨2,(p:Int)⟩] else []:=by
 unfold LU Cd;have u:l.tm.Nodup:=ZH.2 (List.Pairwise.imp (λh e=>ω) hr);rw [Zi,LS u,h1,h2];by_cases h:(t:Int)∈l.tm <;> simp [h]
end
section
variable {w:aa4} {g:af} {nn:List Bool} {ss:List SQ} {x:GA}
theorem OH {oA oL:aa3} {cA cL q t:Nat} {ask int:Int} {ls:List bK} (hc:ak g) (hA:bw g ss) (hb:jd g) (hg:gR (hp w) g x) (ha:vN (hp w) ss oA) (hq:q < ss.length) (htT:t < g.T) (hL:bh (hp w) ls oL ls.length) (hls:ls = OS (bz g nn ss) q) :
    ρ q_ [.agg ⟨x.cells⟩,.agg #[.slice oA ss.length cA,.int .i64 ask,.int .i64 int],.slice oL ls.length cL,.int .i64 (q:Int),.int .i64 (t:Int)] w λv w'=>∃ (o:aa3) (c:Nat),v = .slice o (cM g nn ss q t).length c/\St w' (own 2 o (cM g nn ss q t).length c (cJ (cM g nn ss q t)) :: all w):=by
  obtain ⟨sT,sN,sP,sP2,_,_⟩:=hc.b9
  have hkl:=hA.xv hc
  have hke:∀ q∈ss,q.2.2.length<=130:=λq hq=>(hkl q hq).2
  have h256:=hA.dn.2.1
  have hlr:=AO (g:=g) (nn:=nn) (ss:=ss) q
  have hlm:∀ l∈ls,l∈bz g nn ss/\l.st = (q:Int):=λl hl=>by
    rw [hls] at hl
    obtain ⟨h1,h2⟩:=ZA.1 hl
    exact ⟨h1,YR h2⟩
  have hlp:∀ l∈ls,0 < l.prod/\l.prod < (g.prods.length:Int)/\jH l.tm/\l.tm.length<=65:=λl hl=>by
    obtain ⟨q',m,_,hm,hm0,rfl⟩:=uW (hlm l hl).1
    exact ⟨by show (0:Int) < (m:Int); omega,by show (m:Int) < _; omega,Gh,Zq J1 sT⟩
  have hsrt:ls.Pairwise λx y=>x.prod < y.prod:=by rw [hls]; exact hlr
  have hll:ls.length<=24832:=by
    rw [hls]
    have h1:=Zt (λl:bK=>decide (l.st = (q:Int))) (bz g nn ss)
    have h2:=(CE hc hA).1
    rw [<- xN (nn:=nn)] at h2
    unfold OS
    omega
  have hfin:wo ss q t ++ J2 ss q t ++ zD ls q t g.prods.length = cM g nn ss q t:=by
    unfold cM
    rw [RV λl hl=>(hlp l hl).2.1,hls,Xw]
  have htot:=J7 (g:=g) (nn:=nn) (ss:=ss) (q:=q) (t:=t)
  have hs1:=HL (ss:=ss) q t
  have ha1:=HM (ss:=ss) q t
  have hrl:∀ n,(zD ls q t n).length<=24832:=λn=>by
    unfold zD
    rw [Y3]
    exact Zq (Zt _ _) hll
  have hil:∀ n p,(xW (ls.take n) q t p).length<=24832:=λn p=>by
    unfold xW
    rw [Y3]
    have h1:=Zt (Cd q t p) (ls.take n)
    rw [Zj] at h1
    omega
  refine oG (cG hg λk1 w1 gw hg1 Bx=>ag (St.all w1) λk2 w2 h2=>?_)
  have rA:au (hp w2) (aM k2) [.slice oA ss.length cA,.int .i64 ask,.int .i64 int]:=ah 0 h2.l
  have g12:Gr w1 w2:=h2.aW
  clear h2
  have gw2:=gw.trans g12
  refine ⟨_,_,_,_,_,rA.at (sub.refl _) rfl,(Li hA (ha.mono gw2) hq hke h256).mono ?_⟩
  rintro _ w3 ⟨rfl,g23⟩
  have gw3:=gw2.trans g23
  have rA:=rA.mono g23
  have ha:=ha.mono gw3
  have hL:=hL.mono gw3
  have Bx:=λ{u:aa4} (s:Gr w3 u)=>Bx.c4 (w:=u) ((g12.trans g23).trans s)
  have fin:∀ {u:aa4} {o:aa3} {n c:Nat} {us:List Value},St u (own 2 o n c us :: all w3)->St u (own 2 o n c us :: all w):=λh=>St.nf h (bH gw3)
  refine ⟨_,rfl,λo n c w'=>n = (wo ss q t).length/\St w' (own 2 o n c (cJ (wo ss q t)) :: all w3),?_,?_⟩
  · refine ae (λh1=>ae (λh2=>?_) λh2=>?_) λh1=>?_
    · have h2:0<=kE ss q (t:Int):=YR h2
      cases hx:fy ss q (t:Int) with
      | none=>unfold kE at h2; rw [hx] at h2; simp at h2
      | some j =>
        have e1:wo ss q t = [⟨1,j⟩]:=by unfold wo; rw [hx]
        have e2:kE ss q (t:Int) = j:=by unfold kE; rw [hx]; rfl
        rw [e1,e2]
        refine ag (ay 2 (St.all w3)) λk5 w4 h=>(aL (us:=[]) aQ (rfl:aj Ty _ = .slice _) (rfl:aj Ty _ = .slice _) rfl rfl rfl h rfl (by simp [aG]) (by show (0 + 1) * 16<=_; omega) ω).mono ?_
        rintro _ w5 ⟨o',c',rfl,h⟩
        exact ⟨_,_,_,rfl,rfl,h.pick 2 [0]⟩
    · have h2:¬ 0<=kE ss q (t:Int):=YS h2
      have e1:wo ss q t = []:=by
        unfold wo
        cases hx:fy ss q (t:Int) with
        | none=>rfl
        | some j =>
          have:=(iq hc hA hx).1
          unfold kE at h2; rw [hx] at h2; exact absurd this h2
      rw [e1]
      exact ⟨rfl,ay 2 (St.all w3)⟩
    · have h1:t = 0:=by have:=YS h1; omega
      rw [h1,RW hc hA]
      exact ⟨rfl,ay 2 (St.all w3)⟩
  rintro _ o3 _ c3 w6 ⟨rfl,h⟩
  obtain ⟨r,hr⟩ : ∃ r,ss[q]? = some r:=⟨_,YU hq⟩
  obtain ⟨ad,eA,rs,rkk,_⟩:=ha q r hr
  have hrl0:=(hkl r (YV hr)).1
  have hK:r.1.2.Nodup:=((dE (g:=g) ω q).Rq _ (YV (fN hA hr).1)).nodup
  have s6:Gr w3 w6:=aR 1 h.l
  refine ⟨_,_,_,rA.cell0 s6,aq eA hq ⟨_,_,_,rs.cell0 s6,λo n c z w'=>∃ i:Nat,z = i/\i<=r.1.2.length/\n = (wo ss q t ++ H0 r.1.2 t i).length/\St w' (own 2 o n c (cJ (wo ss q t ++ H0 r.1.2 t i)) :: all w3),λ_ _ _ z _=>r.1.2.length - z.toNat,⟨0,rfl,Y4 _,by rw [Kj,Zm],by rw [Kj,Zm]; exact h⟩,?_⟩⟩
  clear h
  rintro _ o6 _ c6 _ w7 ⟨i,rfl,hi,rfl,h⟩
  have s7:Gr w3 w7:=aR 1 h.l
  refine ae (λh1=>?_) λh1=>?_
  · have h1:i < r.1.2.length:=by have:=YR h1; omega
    obtain ⟨y,yad,hy,hya,ry⟩:=pU rkk h1
    have hlen:(wo ss q t ++ H0 r.1.2 t i).length<=30000:=by
      rw [Y0]
      unfold H0
      split
      · rw [Y3]
        have:=Zt (λx:ai=>decide (x = ⟨0,1⟩)) (r.1.2.take i)
        rw [Zj] at this
        omega
      · simp; omega
    have skip:¬ (t = 0/\y = ⟨0,1⟩)->ax ((i:Int) + 1)/\(∃ i' : Nat,(i:Int) + 1 = i'/\i'<=r.1.2.length/\(wo ss q t ++ H0 r.1.2 t i).length = (wo ss q t ++ H0 r.1.2 t i').length/\St w7 (own 2 o6 (wo ss q t ++ H0 r.1.2 t i).length c6 (cJ (wo ss q t ++ H0 r.1.2 t i')) :: all w3))/\r.1.2.length - ((i:Int) + 1).toNat < r.1.2.length - (i:Int).toNat:=λhne=>by
      refine ⟨⟨ω,ω⟩,⟨i + 1,σ,h1,?_,?_⟩,bn h1⟩
      · rw [zE hy,YZ hne]
      · rw [zE hy,YZ hne]; exact h
    refine ae (λh2=>aq hya h1 ⟨_,ry.cell0 s7,ae (λh3=>aq hya h1 ⟨_,ry.cell s7 (j:=1) rfl,ae (λh4=>?_) λh4=>skip λhh=>by rw [hh.2] at h4; simp at h4⟩) λh3=>skip λhh=>by rw [hh.2] at h3; simp at h3⟩) λh2=>skip λhh=>by rw [hh.1] at h2; simp at h2
    have h2 : t = 0 := by have : (t : Int) = 0 := by simpa using h2
                          omega
    have h3:y.prod = 0:=by simpa using h3
    have h4:y.dot = 1:=by simpa using h4
    have hy2:y = ⟨0,1⟩:=by cases y; simp at h3 h4; simp [h3,h4]
    refine ag h λk16 w8 h=>(aL (us:=cJ (wo ss q t ++ H0 r.1.2 t i)) aQ (rfl:aj Ty _ = .slice _) (rfl:aj Ty _ = .slice _) rfl rfl rfl h rfl (by simp [aG]) (by show ((wo ss q t ++ H0 r.1.2 t i).length + 1) * 16<=_; omega) ω).mono ?_
    rintro _ w9 ⟨o',c',rfl,h⟩
    refine ⟨_,_,_,rfl,⟨ω,ω⟩,⟨i + 1,σ,h1,?_,?_⟩,bn h1⟩
    · rw [zE hy,Y5 ⟨h2,hy2⟩]; simp; omega
    · rw [zE hy,Y5 ⟨h2,hy2⟩,<- Y6,zx]
      exact h.pick 2 [0]
  have h1:i = r.1.2.length:=by have:=YS h1; omega
  subst h1
  rw [Ui hr hK] at h ⊢
  obtain ⟨P,eP⟩ : ∃ P,P = wo ss q t ++ J2 ss q t:=⟨_,rfl⟩
  have hPl:P.length<=2:=by rw [eP,Y0]; omega
  rw [<- eP] at h hfin ⊢
  have hpl:=hg1.p.1
  have hpos:1<=g.prods.length:=by
    obtain ⟨_,_,_,p0,hp0,_⟩:=hc
    have:=(YT.1 hp0).1
    omega
  refine ⟨λo n c z w'=>∃ p:Nat,z = p/\1<=p/\p<=g.prods.length/\n = (P ++ zD ls q t p).length/\St w' (own 2 o n c (cJ (P ++ zD ls q t p)) :: all w3),λ_ _ _ z _=>g.prods.length - z.toNat,⟨1,rfl,Zc _,hpos,by rw [Ki λl hl=>(hlp l hl).1,Zm],by rw [Ki λl hl=>(hlp l hl).1,Zm]; exact h⟩,?_⟩
  clear h
  rintro _ o8 _ c8 _ w10 ⟨p,rfl,hp1,hp2,rfl,h⟩
  have s10:Gr w3 w10:=aR 1 h.l
  refine ⟨_,_,_,Bx s10,ae (λh1=>?_) λh1=>?_⟩
  rotate_left
  · have h1:p = g.prods.length:=by have:=YS h1; omega
    subst h1
    rw [hfin] at h ⊢
    exact ⟨_,_,rfl,fin h⟩
  have h1:p < g.prods.length:=by have:=YR h1; omega
  have hrp:=hrl p
  obtain ⟨Q,eQ⟩ : ∃ Q,Q = P ++ zD ls q t p:=⟨_,rfl⟩
  have hQl:Q.length<=25000:=by rw [eQ,Y0]; omega
  have hQn:P ++ zD ls q t (p + 1) = Q ++ xW ls q t p:=by rw [OG hsrt,eQ,Y6]
  rw [<- eQ] at h ⊢
  refine ⟨λo n c z w'=>∃ i:Nat,z = i/\i<=ls.length/\n = (Q ++ xW (ls.take i) q t p).length/\St w' (own 2 o n c (cJ (Q ++ xW (ls.take i) q t p)) :: all w3),λ_ _ _ z _=>ls.length - z.toNat,⟨0,rfl,Y4 _,by simp [xW],by simpa [xW] using h⟩,?_⟩
  clear h
  rintro _ o10 _ c10 _ w11 ⟨i,rfl,hi,rfl,h⟩
  have s11:Gr w3 w11:=aR 1 h.l
  refine ae (λh2=>?_) λh2=>?_
  rotate_left
  · have h2:i = ls.length:=by have:=YS h2; omega
    rw [h2,Zi,<- hQn] at h ⊢
    exact ⟨⟨ω,ω⟩,⟨p + 1,σ,ω,h1,rfl,h⟩,bn h1⟩
  have h2:i < ls.length:=by have:=YR h2; omega
  obtain ⟨l,lad,la,lc,hl,hla,rl,rlt⟩:=QX hL h2
  have hlmem:=YV hl
  obtain ⟨_,hlst⟩:=hlm l hlmem
  obtain ⟨_,_,hrise,htl⟩:=hlp l hlmem
  have htk:ls.take (i + 1) = ls.take i ++ [l]:=by rw [Y2,hl]; rfl
  have hiI:=hil i p
  refine aq hla h2 ⟨_,rl.cell0 s11,yB (by rw [hlst]; simp) (aq hla h2 ⟨_,rl.cell s11 (j:=1) rfl,ae (λh3=>?_) λh3=>?_⟩)⟩
  · have h3:l.prod≠(p:Int):=by simpa using h3
    have hno:Cd q t p l = false:=by unfold Cd; rw [Zu h3]; simp
    refine ⟨⟨ω,ω⟩,⟨i + 1,σ,h2,?_,?_⟩,bn h2⟩
    · rw [htk,Bc,hno]; rfl
    · rw [htk,Bc,hno]; exact h
  have h3:l.prod = (p:Int):=by simpa using h3
  obtain ⟨S,eS⟩ : ∃ S,S = Q ++ xW (ls.take i) q t p:=⟨_,rfl⟩
  have hSl:S.length<=50000:=by rw [eS,Y0]; omega
  rw [<- eS] at h ⊢
  refine ⟨λo n c z w'=>∃ k:Nat,z = k/\k<=l.tm.length/\n = (S ++ LU l.tm t p k).length/\St w' (own 2 o n c (cJ (S ++ LU l.tm t p k)) :: all w3),λ_ _ _ z _=>l.tm.length - z.toNat,⟨0,rfl,Y4 _,by rw [Kk,Zm],by rw [Kk,Zm]; exact h⟩,?_⟩
  clear h
  rintro _ o11 _ c11 _ w12 ⟨k,rfl,hk,rfl,h⟩
  have s12:Gr w3 w12:=aR 1 h.l
  refine aq hla h2 ⟨_,_,_,rl.cell s12 (j:=2) rfl,ae (λh4=>?_) λh4=>?_⟩
  rotate_left
  · have h4:k = l.tm.length:=by have:=YS h4; omega
    have e:S ++ LU l.tm t p l.tm.length = Q ++ xW (ls.take (i + 1)) q t p:=by
      rw [Uj hrise hlst h3,htk,Bc,eS]
      by_cases hh:Cd q t p l = true
      · rw [Y5 hh,Y5 hh,Y6]
      · rw [YZ hh,YZ hh,Zm]
    rw [h4,e] at h ⊢
    exact ⟨⟨ω,ω⟩,⟨i + 1,σ,h2,rfl,h⟩,bn h2⟩
  have h4:k < l.tm.length:=by have:=YR h4; omega
  obtain ⟨z,zad,hz,hza,rz⟩:=rlt.cY h4
  have htm:(S ++ LU l.tm t p k).length<=60000:=by
    rw [Y0]
    unfold LU
    rw [Y3]
    have:=Zt (λx:Int=>decide (x = (t:Int))) (l.tm.take k)
    rw [Zj] at this
    omega
  refine aq hla h2 ⟨_,_,_,rl.cell s12 (j:=2) rfl,aw hza h4 ⟨_,rz _ s12,ae (λh5=>?_) λh5=>?_⟩⟩
  · have h5:z = (t:Int):=by simpa using h5
    refine ag h λk31 w13 h=>(aL (us:=cJ (S ++ LU l.tm t p k)) aQ (rfl:aj Ty _ = .slice _) (rfl:aj Ty _ = .slice _) rfl rfl rfl h rfl (by simp [aG]) (by show ((S ++ LU l.tm t p k).length + 1) * 16<=_; omega) ω).mono ?_
    rintro _ w14 ⟨o',c',rfl,h⟩
    refine ⟨_,_,_,rfl,⟨ω,ω⟩,⟨k + 1,σ,h4,?_,?_⟩,bn h4⟩
    · rw [zF hz,Y5 h5]; simp; omega
    · rw [zF hz,Y5 h5,<- Y6,zx]
      exact h.pick 2 [0]
  · have h5:z≠(t:Int):=by simpa using h5
    refine ⟨⟨ω,ω⟩,⟨k + 1,σ,h4,?_,?_⟩,bn h4⟩
    · rw [zF hz,YZ h5]
    · rw [zF hz,YZ h5]; exact h
end
theorem Nq {h:Hp} {o:aa3} {ds:List iK} (r:fo o (c_ ds) h) (hd:∀ d∈ds,bh h d.2.2 d.2.1.1 d.2.2.length):bh h (ds.map jI) o ds.length:=by
 refine ⟨σ,λi x hi=>?_⟩;rw [YW] at hi;cases hb:ds[i]? with
 | none=>rw [hb] at hi; cases hi
 | some p =>
  rw [hb] at hi;simp only [ZY,Option.some.injEq] at hi;subst hi
  rcases r with e | ⟨u,e,z⟩
  ·have G:=congrArg List.length e;rw [CC,ZJ] at G;have:=(YT.1 hb).1; omega
  ·exact ⟨u,QF p,e,bY (n:=3) (λ_=>rfl) ds u z i p hb,p.2.1.1,p.2.1.2,rfl,hd p (YV hb)⟩
def Uk (bs:List iK) (q:Nat):List iK:=bs.filter λb=>decide (b.1.1 = (q:Int))
theorem Ws (bs:List iK) (q:Nat):(Uk bs q).map jI = OS (bs.map jI) q:=by
 unfold Uk OS;rw [List.filter_map]; rfl
theorem RX {bs:List iK} {b:iK} {q:Nat}:Uk (bs ++ [b]) q = if b.1.1 = (q:Int) then Uk bs q ++ [b] else Uk bs q:=by
 unfold Uk;rw [Zs];by_cases h:b.1.1 = (q:Int) <;> simp [h]
section
variable {w:aa4} {g:af} {nn:List Bool} {ss:List SQ} {x:GA}
theorem Wt {oA oL:aa3} {cA cL:Nat} {ask int:Int} {bs:List iK} (hc:ak g) (hA:bw g ss) (hb:jd g) (hg:gR (hp w) g x) (ha:vN (hp w) ss oA) (hL:fo oL (c_ bs) (hp w)) (hLt:∀ b∈bs,bh (hp w) b.2.2 b.2.1.1 b.2.2.length) (hbs:bs.map jI = bz g nn ss) :
  ρ zy [.agg ⟨x.cells⟩,.agg #[.slice oA ss.length cA,.int .i64 ask,.int .i64 int],.slice oL bs.length cL] w λv w'=>∃ (o:aa3) (c:Nat) (ds:List q9),v = .slice o ds.length c/\ds.map jY = gn g nn ss 1/\St w' (own 3 o ds.length c (rP ds) :: aC (kR ds) :: all w):=by
 obtain ⟨sT,sN,sP,cy,_,_⟩:=hc.b9;have cp:=hA.dn.2.1
 have d3:bs.length<=24832:=by
  have e:=congrArg List.length hbs;have V:=(CE hc hA).1;rw [<- xN (nn:=nn)] at V;rw [Y3] at e;omega
 have bi:∀ b∈bs,∃ q:Nat,b.1.1 = (q:Int)/\q < ss.length:=λb aa=>by
  have hm:jI b∈bz g nn ss:=by rw [<- hbs]; exact aaO aa
  obtain ⟨q,m,hq,_,_,e⟩:=uW hm;exact ⟨q,congrArg bK.st e,hq⟩
 have cx:g.T = x.tl:=hg.t.1;refine wA (cG hg λk1 w1 gw bc Bx=>ag (St.all w1) λk2 Z V=>?_);have rA:au (hp Z) (aM k2) [.slice oA ss.length cA,.int .i64 ask,.int .i64 int]:=ah 0 V.l;have a5:Gr w1 Z:=V.aW;clear V;have a6:=gw.trans a5;refine ⟨_,_,_,rA.cell0 (sub.refl _),⟨ω,rfl,ω⟩,?_⟩;rw [Za,dq];refine ag (St.all Z) λk5 w3 h=>?_;have b4:=fo.mono a6 hL;have a9:=λb aa=>(hLt b aa).mono a6;have bl:=bc.mono a5;have bd:=ha.mono a6;have d1:bh (hp Z) (bs.map jI) oL bs.length:=Nq b4 a9
 refine ⟨λz w'=>∃ (i:Nat) (rows:List (Lq iK)),z = i/\i<=bs.length/\rows.length = ss.length/\(∀ (q:Nat) ro,rows[q]? = some ro->ro.2 = Uk (bs.take i) q)/\St w' (aH k5 (rows.map bF) :: aC (rows.map (bB 3 c_)) :: all Z),λz _=>bs.length - z.toNat,⟨0,List.replicate ss.length ((none,0),[]),rfl,Y4 _,σ,λq ro U=>?_,?_⟩,?_⟩
 ·rw [Z2] at U
  split at U
  ·cases U; rfl
  ·cases U
 ·rw [List.map_replicate,List.map_replicate];exact (yM (A:=own 3 none 0 0 []) (λw L h=>ay 3 h) ss.length h).swap
 clear h;rintro _ _ w4 ⟨i,rows,rfl,hi,b7,U,h⟩;have s4:Gr Z w4:=aR 2 h.l
 refine ae (λG=>?_) λG=>?_
 ·have G:i < bs.length:=by have:=YR G; omega
  obtain ⟨b,aI⟩ : ∃ b,bs[i]? = some b:=⟨_,YU G⟩;obtain ⟨q,a3,a8⟩:=bi b (YV aI)
  obtain ⟨ch,eL,rb⟩ : ∃ ad,oL = some ad/\au (hp Z) (ad.add (cE i 3)) (QF b):=by
   rcases b4 with e | ⟨ad,e,bG⟩
   ·have Y:=congrArg List.length e;rw [CC,ZJ] at Y; omega
   ·exact ⟨ad,e,bY (n:=3) (λ_=>rfl) bs ad bG i b aI⟩
  obtain ⟨ro,R⟩ : ∃ ro,rows[q]? = some ro:=⟨_,YU ω⟩;have a7:=U q ro R
  have cm:ro.2.length<=24832:=by
   rw [a7];unfold Uk;have Y:=Zt (λb:iK=>decide (b.1.1 = (q:Int))) (bs.take i);rw [Zj] at Y;omega
  intro w5 hd;have h:=h.drawn hd;have s5:Gr Z w5:=aR 2 h.l;have am:(rows.map bF)[q]? = some (bF ro):=by rw [YW,R]; rfl
  have ac:au (hp Z) (ch.add (cE i 3)) [.int .i64 (q:Int),.int .i64 b.1.2,bF b.2]:=by rw [<- a3]; exact rb
  refine ⟨λu=>Gr Z u/\au (hp u) (aM k5) (rows.map bF),⟨s5,ah 0 h.l⟩,aq eL G ⟨_,λu s=>ac.cell0 s.1,aq eL G ⟨_,λu s=>ac.cell0 s.1,aw rfl a8 ⟨_,_,_,λu s=>s.2.cell (sub.refl _) am,aq eL G ⟨_,_,_,_,_,λu s=>ac.at s.1 rfl,ag h λbb bT h=>⟨⟨aR 3 h.l,ah 1 h.l⟩,?_⟩⟩⟩⟩⟩⟩;have aT:(rows.map (bB 3 c_))[q]? = some (bB 3 c_ ro):=by rw [YW,R]; rfl
  have h6:St bT (own 3 ro.1.1 ro.2.length ro.1.2 (c_ ro.2) :: aC ((rows.map (bB 3 c_)).take q ++ (rows.map (bB 3 c_)).drop (q + 1)) :: aH bb [.int .i64 (q:Int),.int .i64 b.1.2,bF b.2] :: aH k5 (rows.map bF) :: all Z):=St.Ac (h.pick 3 [2,0,1]) aT;refine (aL (us:=c_ ro.2) aQ (rfl:aj Ty _ = .slice _) (rfl:aj Ty _ = .slice _) rfl rfl rfl (h6.pick 4 [2,0,1,3]) rfl (by simp [aG,bF]) (by show (ro.2.length + 1) * 40<=_; omega) ω).mono ?_;rintro _ cC ⟨o4,c4,rfl,h⟩;have h7:=St.Dy (n:=q) (M:=rows.map (bB 3 c_)) (by rw [Y3]; omega) (h.pick 4 [0,2,1,3]);refine ⟨_,_,_,rfl,⟨aR 3 h7.l,ah 2 h7.l⟩,aw rfl a8 ?_⟩;rw [aK];refine bj (h7.pick 3 [2,0]) (by rw [Y3]; omega) λcz h=>?_
  refine ⟨⟨ω,ω⟩,⟨i + 1,rows.set q ((o4,c4),ro.2 ++ [b]),σ,G,by simp [b7],λq' b1 W=>?_,?_⟩,bn G⟩
  ·rw [Y2,aI]
   show b1.2 = Uk (bs.take i ++ [b]) q'
   rw [RX,a3];rw [ZN] at W
   by_cases e:q = q'
   ·subst e;rw [Y5 rfl,Y5 ω] at W;cases W;rw [Y5 rfl,a7]
   ·rw [YZ e] at W;rw [YZ ω];exact U q' b1 W
  ·rw [ZM,ZM];have e1:bF (((o4,c4),ro.2 ++ [b]):Lq iK) = .slice o4 (ro.2.length + 1) c4:=by unfold bF; simp
   have e2:bB 3 c_ (((o4,c4),ro.2 ++ [b]):Lq iK) = own 3 o4 (ro.2.length + 1) c4 (c_ ro.2 ++ [.int .i64 (q:Int),.int .i64 b.1.2,bF b.2]):=by
    unfold bB;rw [CD];simp [c_,QF,a3]
   rw [e1,e2];exact h
 have G:i = bs.length:=by have:=YS G; omega
 subst G;rw [Zi] at U;obtain ⟨H,hl,h0⟩:=xV [] (M:=aH k5 (rows.map bF) :: aC (rows.map (bB 3 c_)) :: all Z) h.l;have hH:sub H (hp w4):=h0.1;have cb:sub (hp Z) H:=aR 2 hl;have r5:au H (aM k5) (rows.map bF):=ah 0 hl
 have b0:∀ (q:Nat) ro,rows[q]? = some ro->bh H (OS (bz g nn ss) q) ro.1.1 (OS (bz g nn ss) q).length/\ro.2.length = (OS (bz g nn ss) q).length:=λq ro R=>by
  have aT:(rows.map (bB 3 c_))[q]? = some (bB 3 c_ ro):=by rw [YW,R]; rfl
  obtain ⟨Y,c9,cg⟩:=lF (aY hl) aT;have ba:fo ro.1.1 (c_ ro.2) H:=fo.mono c9 (dJ 0 (lX cg));have e:=U q ro R;have e2:ro.2.map jI = OS (bz g nn ss) q:=by rw [e,Ws,hbs]
  have e3:ro.2.length = (OS (bz g nn ss) q).length:=by rw [<- e2]; simp
  have b2:=Nq ba λd hd=>(a9 d (by rw [e] at hd; exact (ZA.1 hd).1)).mono cb;rw [e2,e3] at b2;exact ⟨b2,e3⟩
 have c6:=a6.trans s4
 have bC:∀ n,n<=ss.length->(h_ g nn ss 1 n).length<=16640:=λn hn=>by
  have G:=AR (g:=g) (nn:=nn) (ss:=ss) (least:=1) (n:=n);have V:n * g.T<=256 * 65:=aaG ω sT;omega
 clear h hl h0;refine ⟨λo n c z w'=>∃ (q:Nat) (ds:List q9),z = q/\q<=ss.length/\n = ds.length/\ds.map jY = h_ g nn ss 1 q/\St w' (own 3 o n c (rP ds) :: aC (kR ds) :: all w4),λ_ _ _ z _=>ss.length - z.toNat,⟨0,[],rfl,Y4 _,rfl,rfl,ay 3 ((St.flat (M:=[])).2 (St.all w4))⟩,?_⟩;rintro _ o5 _ c5 _ ci ⟨q,ds,rfl,hq,rfl,O,h⟩;have be:Gr w4 ci:=aR 2 h.l;refine ⟨_,_,_,rA.cell0 (s4.trans be),ae (λG=>?_) λG=>?_⟩
 rotate_left
 ·have G:q = ss.length:=by have:=YS G; omega
  subst G;exact ⟨_,_,ds,rfl,O,St.Mr h (bH c6)⟩
 have G:q < ss.length:=by have:=YR G; omega
 have d0:=bC q hq;obtain ⟨ro,R⟩ : ∃ ro,rows[q]? = some ro:=⟨_,YU ω⟩;obtain ⟨rr,b3⟩:=b0 q ro R;have am:(rows.map bF)[q]? = some (.slice ro.1.1 (OS (bz g nn ss) q).length ro.1.2):=by rw [YW,R,<- b3]; rfl
 refine ⟨λo n c z w'=>∃ (t:Nat) (ds:List q9),z = t/\t<=g.T/\n = ds.length/\ds.map jY = h_ g nn ss 1 q ++ jy g nn ss 1 q t/\St w' (own 3 o n c (rP ds) :: aC (kR ds) :: all w4),λ_ _ _ z _=>g.T - z.toNat,⟨0,ds,rfl,Y4 _,rfl,by rw [O]; simp [jy],h⟩,?_⟩;clear h O;rintro _ o7 _ c7 _ c8 ⟨t,ds,rfl,cu,rfl,O,h⟩
 have cv:ds.length<=17000:=by
  have e:=congrArg List.length O;rw [Y3,Y0] at e;have:=AQ (g:=g) (nn:=nn) (ss:=ss) (least:=1) (q:=q) (n:=t);omega
 have cc:Gr w4 c8:=aR 2 h.l;refine ⟨_,_,_,Bx.c0 (a5.trans (s4.trans cc)),ae (λV=>?_) λV=>?_⟩
 rotate_left
 ·have V:t = g.T:=by have:=YS V; omega
  subst V;rw [<- q8] at O;exact ⟨⟨ω,ω⟩,⟨q + 1,ds,σ,G,rfl,O,h⟩,bn G⟩
 have V:t < g.T:=by have:=YR V; omega
 intro a4 hd;have h:=h.drawn hd;have b6:Gr w4 a4:=aR 2 h.l;have X:Gr Z a4:=s4.trans b6;have sH:sub H (hp a4):=sub.trans hH b6;refine ⟨λu=>Gr a4 u,Gr.refl _,_,_,_,_,_,_,_,_,_,_,_,_,_,λu s=>Bx.row ((a5.trans X).trans s),_,_,_,_,_,λu s=>rA.at (X.trans s) rfl,aw rfl G ⟨_,_,_,λu s=>r5.cell (sub.trans sH s) am,(OH hc hA hb (bl.mono X) (bd.mono X) G V (rr.mono sH) rfl).mono ?_⟩⟩;rintro _ cB ⟨a0,a1,rfl,ab⟩;have b5:=ab.nf h.l;refine ⟨_,_,_,rfl,ab.aW,?_⟩;clear ab h
 have ca:1<=(cM g nn ss q t).length->jy g nn ss 1 q (t + 1) = jy g nn ss 1 q t ++ [⟨(q:Int),(t:Int),cM g nn ss q t⟩]:=λY=>by
  rw [jX];unfold cellAt;rw [Y5 Y]
 refine ae (λY=>?_) λY=>?_
 ·have Y:1<=(cM g nn ss q t).length:=by have:=YR Y; omega
  refine ag b5 λd2 cD h=>(aL (us:=rP ds) aQ (rfl:aj Ty _ = .slice _) (rfl:aj Ty _ = .slice _) rfl rfl rfl (h.pick 4 [0,2,1,3]) rfl (by simp [aG]) (by show (ds.length + 1) * 40<=_; omega) ω).mono ?_;rintro _ bA ⟨ck,bP,rfl,h⟩
  refine ⟨_,_,_,rfl,⟨ω,ω⟩,⟨t + 1,ds ++ [(((q:Int),(t:Int)),((a0,a1),cM g nn ss q t))],σ,V,σ,?_,?_⟩,bn V⟩
  ·rw [Zg,O,ca Y,Y6];rfl
  ·rw [CI,show kR (ds ++ [(((q:Int),(t:Int)),((a0,a1),cM g nn ss q t))]) = kR ds ++ [own 2 a0 (cM g nn ss q t).length a1 (cJ (cM g nn ss q t))] by unfold kR; rw [Zg]; rfl];have h4:St bA (own 2 a0 (cM g nn ss q t).length a1 (cJ (cM g nn ss q t)) :: aC (kR ds) :: own 3 ck (ds.length + 1) bP (rP ds ++ Rw (((q:Int),(t:Int)),((a0,a1),cM g nn ss q t))) :: all w4):=h.pick 4 [2,3,0];exact (St.snoc h4).swap
 ·have Y:¬ 1<=(cM g nn ss q t).length:=by have:=YS Y; omega
  refine ⟨⟨ω,ω⟩,⟨t + 1,ds,σ,V,rfl,?_,b5.tail⟩,bn V⟩;rw [jX,show cellAt g nn ss 1 q t = [] by unfold cellAt; rw [YZ Y],Zm];exact O
variable {w:aa4} {L:List az} {g:af} {x:GA}
theorem Yo {A B:az} (h:St w (A :: B :: L)):∃ H,aD [A,B] H/\St w (has H :: L):=by
 obtain ⟨u,R,d,G,z,O,U⟩:=(St.flat (M:=[A,B])).2 h;exact ⟨u,O,u,R,d,G,z,sub.refl _,U⟩
def Wu (least:Nat) (g:af) (w:aa4) (v:Value) (w' : aa4):Prop:=∃ (ss:List SQ) (ask int f:Int) (nn:List Bool) (o:aa3) (c:Nat) (H:Hp),v = .tuple #[.slice o (gn g nn ss least).length c,.int .i64 f]/\sV g ss ask int f/\(f = 0->j6 g nn)/\bh H (gn g nn ss least) o (gn g nn ss least).length/\St w' [has H,has (hp w)]
theorem Xx {h0:Hp} (s:sub h0 (hp w)):St w [has λ_=>none,has h0]:=⟨λ_=>none,hp w,λ_=>.inl rfl,λ_ _ h=>(nomatch h),sub.refl _,sub.refl _,bH s⟩
theorem LV (hg:gR (hp w) g x) (hb:jd g):ρ tf [.agg ⟨x.cells⟩] w (Wu 1 g w):=by
 refine qf (cG hg λk1 w1 gw W B=>?_);refine ⟨_,_,_,_,_,_,_,_,_,_,_,_,_,B.row (sub.refl _),(I0 W hb).mono ?_⟩;rintro _ w2 ⟨⟨r,rfl,hr⟩,U⟩
 refine ⟨_,rfl,ae (λz=>?_) λz=>?_⟩
 ·have hn:¬ ak g:=λh=>by rw [hr.2 h] at z; cases z
  exact ⟨[],0,0,1,[],none,0,_,rfl,.inl ⟨hn,rfl,rfl,rfl,rfl⟩,λh=>absurd h (by decide),bh.nil,Xx (gw.trans U)⟩
 refine ⟨_,_,_,_,_,_,_,_,_,_,_,_,_,B.row U,(Jy (W.mono U) hb).mono ?_⟩;rintro _ w3 ⟨oA,cA,ss,ask,int,f,rfl,hR,h3⟩;have a9:Gr w2 w3:=aR 3 h3.l;have ha:vN (hp w3) ss oA:=nL h3.l;clear h3;refine ⟨_,_,_,_,_,_,rfl,ag (St.all w3) λaa w4 h=>aU h rfl (by simp [aG]) λV h=>?_⟩;have X:Gr w3 V:=h.aW;have a4:au (hp V) (aM aa) [.slice oA ss.length cA,.int .i64 ask,.int .i64 int]:=ah 0 h.l;clear h;have O:Gr w1 V:=U.trans (a9.trans X)
 refine ae (λz=>?_) λz=>?_
 ·have z:f≠0:=by simpa using z
  have hz:=hR.nil z;subst hz;exact ⟨[],ask,int,f,[],none,0,_,rfl,hR,λh=>absurd h z,bh.nil,Xx (gw.trans O)⟩
 have z:f = 0:=by simpa using z
 subst z;obtain ⟨hc,hA⟩:=hR.HZ rfl;have a3:=W.mono O;have a0:=ha.mono X;intro w6 hd;have G:Gr V w6:=Gr.drawn hd;refine ⟨λu=>Gr V u,G,_,_,_,_,_,_,_,_,_,_,_,_,_,λu s=>B.row (O.trans s),_,_,_,_,_,λu s=>a4.at s rfl,_,_,_,_,_,_,_,_,_,_,_,_,_,λu s=>B.row (O.trans s),_,_,_,_,_,λu s=>a4.at s rfl,(Wp hc hA hb (a3.mono G) (a0.mono G)).mono ?_⟩;rintro _ w7 ⟨d,ns,F,H,rfl,Z,hI,hH,hV,hC,h⟩;have aI:sub H (hp w7):=aR 1 h.l;have a6:Gr V w7:=G.trans (sub.trans hH aI);refine ⟨_,rfl,a6,(OE hc hA Z hI hV hC h).mono ?_⟩;rintro _ w8 ⟨oL,cL,bs,rfl,ab,h⟩;have ad:sub H (hp w8):=aR 3 h.l;have R:Gr V w8:=G.trans (sub.trans hH ad);have hL:fo oL (c_ bs) (hp w8):=dJ 0 h.l
 have a8:∀ b∈bs,bh (hp w8) b.2.2 b.2.1.1 b.2.2.length:=λb a5=>by
  obtain ⟨i,hi⟩:=Zr a5;exact Yy (h.pick 4 [1,0,2,3]) hi
 clear h;refine ⟨_,_,_,rfl,R,(Wt hc hA hb (a3.mono R) (a0.mono R) hL a8 ab).mono ?_⟩;rintro _ w9 ⟨o,c,ds,rfl,a1,h⟩;have a7:Gr V w9:=R.trans (aR 2 h.l);obtain ⟨H',Y,h⟩:=Yo h
 have r:bh H' (ds.map jY) o ds.length:=M_ (dJ 0 Y) λd hd=>by
  obtain ⟨i,hi⟩:=Zr hd;have hA:(kR ds)[i]? = some (bB 2 cJ d.2):=by unfold kR; rw [YW,hi]; rfl
  obtain ⟨h3,ac,am⟩:=lF (aY Y) hA;exact (vq rfl (dJ 0 (lX am))).mono ac
 have e:ds.length = (gn g ns ss 1).length:=by rw [<- a1]; simp
 rw [a1,e] at r;exact ⟨_,_,_,rfl,a7,ss,ask,int,0,ns,o,c,H',by rw [e],hR,λ_=>Z,r,St.nf h (bH (gw.trans (O.trans R)))⟩
end
theorem Ul {ds:List q9} {i:Nat} {b:q9} (hb:ds[i]? = some b):(kR ds)[i]? = some (bB 2 cJ b.2):=by unfold kR; rw [YW,hb]; rfl
theorem Um {ds:List q9} {i:Nat} {b:q9}:(kR ds).set i (bB 2 cJ b.2) = kR (ds.set i b):=by unfold kR; rw [ZM]
theorem RY {ds:List q9} {i:Nat} {b:q9} (hb:ds[i]? = some b) {xs:List aJ} (hl:xs.length = b.2.2.length):rP (ds.set i (b.1,(b.2.1,xs))) = rP ds:=by
 have hi:=(YT.1 hb).1;unfold rP;rw [<- EA (f:=Rw) (n:=3) (λ_=>rfl) ds i _ hi];have e:Rw (b.1,(b.2.1,xs)) = Rw b:=by unfold Rw bF; rw [hl]
 rw [e,EA (f:=Rw) (n:=3) (λ_=>rfl) ds i _ hi,pG hb]
theorem Xy {w:aa4} {L:List az} {n c i k:Nat} {o:aa3} {ds:List q9} {b:q9} {y:aJ} {X:aa4->Prop} (hq:ds[i]? = some b) (hk:k < b.2.2.length) (h:St w (own 3 o n c (rP ds) :: aC (kR ds) :: L))
  (hX:∀ w',St w' (own 3 o n c (rP (ds.set i (b.1,(b.2.1,b.2.2.set k y)))) :: aC (kR (ds.set i (b.1,(b.2.1,b.2.2.set k y)))) :: L)->X w'):idx b.2.1.1 b.2.2.length (k:Int) 2 λa=>da w a [.int .i64 y.kind,.int .i64 y.to] X:=by
 have u:=(YT.1 hq).1;have h:=St.Ac (h.pick 2 [1,0]) (Ul hq);have h:St w (own 2 b.2.1.1 b.2.2.length b.2.1.2 (cJ b.2.2) :: aC ((kR ds).take i ++ (kR ds).drop (i + 1)) :: own 3 o n c (rP ds) :: L):=h;obtain ⟨O,z⟩:=gV h (by rw [gi]; omega);refine aq z hk ?_;rw [aN];refine yR (i:=k * 2) h z (by rw [gi]; simp; omega) (by simp [aG]) σ λw' h=>hX w' ?_;have e:=EA (f:=cf) (n:=2) (λ_=>rfl) b.2.2 k y hk;have h:St w' (own 2 b.2.1.1 b.2.2.length b.2.1.2 ((b.2.2.flatMap cf).take (k * 2) ++ cf y ++ (b.2.2.flatMap cf).drop (k * 2 + 2)) :: aC ((kR ds).take i ++ (kR ds).drop (i + 1)) :: own 3 o n c (rP ds) :: L):=h;rw [e] at h;rw [RY hq σ,<- Um];have G:bB 2 cJ (b.2.1,b.2.2.set k y) = own 2 b.2.1.1 b.2.2.length b.2.1.2 ((b.2.2.set k y).flatMap cf):=by unfold bB; rw [Zn]; rfl
 rw [<- G] at h;exact (St.Dy (M:=kR ds) (n:=i) (by unfold kR; rw [Y3]; exact u) h).swap
section
variable {w:aa4} {L:List az} {g:af} {x:GA}
theorem LW (hg:gR (hp w) g x) (hb:jd g):ρ tg [.agg ⟨x.cells⟩] w (Yk g w):=by
 refine qi (cG hg λk1 w1 gw a0 B=>ag (St.all w1) λk2 w2 h=>?_);have bd:Gr w1 w2:=h.aW;refine ⟨_,_,_,_,_,_,_,_,_,_,_,_,_,B.row bd,(LV (a0.mono bd) hb).mono ?_⟩;rintro _ w3 ⟨ss,ask,int,f,nn,o5,c5,H,rfl,hR,hn,rH,h3⟩;have h:=St.nf h3 h.l;have bP:=rH.mono h.has;have h:=h.tail;clear h3 rH
 refine ⟨_,_,_,_,rfl,ae (λO=>?_) λO=>?_⟩
 ·have O:f≠0:=by simpa using O
  have hz:=hR.nil O;subst hz;refine aU h rfl (by simp [aG]) λw4 h=>⟨_,_,_,_,_,_,_,_,_,(ah 0 h.l).at (sub.refl _) rfl,[],ask,int,f,nn,none,0,none,0,none,0,[],[],[],rfl,hR,hn,rfl,rfl,rfl,?_,sub.trans gw (aR 1 h.l)⟩;exact ⟨λq b hb=>by simp at hb,λq b hb=>by simp at hb,bh.nil⟩
 have O:f = 0:=by simpa using O
 subst O;obtain ⟨hc,hA⟩:=hR.HZ rfl;have eP:=hn rfl;obtain ⟨sT,sN,sP,et,_,_⟩:=hc.b9;have e7:=hA.dn.2.1;have tl:=a0.t.1;have nl:=a0.n.1;have eT:g.T = g.terms.length:=rfl;have eN:g.N = g.nons.length:=rfl;obtain ⟨C,hC⟩ : ∃ C,C = gn g nn ss 1:=⟨_,rfl⟩;rw [<- hC] at bP ⊢
 have ej:C.length<=16640:=by
  have:=HQ (l:=1) (nn:=nn) hR;rw [hC]; omega
 have b7:Gr w1 w3:=aR 1 h.l;refine ⟨_,_,_,_,_,_,_,_,_,_,_,_,_,B.row b7,(Jy (a0.mono b7) hb).mono ?_⟩;rintro _ w5 ⟨oA,cA,G,b2,b3,f2,rfl,cm,h5⟩;have cy:Gr w3 w5:=aR 3 h5.l;have ha:vN (hp w5) G oA:=nL h5.l;clear h5;have a9:=hR.one cm;have d5:bq ss = bq G:=a9.2.1;obtain rfl:(0:Int) = f2:=a9.2.2.2.2.1;obtain ⟨_,bG⟩:=cm.HZ rfl;have ck:G.length = ss.length:=a9.2.2.2.2.2.symm;refine ⟨_,_,_,_,_,_,rfl,ag (St.all w5) λdF w6 h6=>aU h6 rfl (by simp [aG]) λw7 h7=>?_⟩;have bl:au (hp w7) (aM dF) [.slice oA G.length cA,.int .i64 b2,.int .i64 b3]:=ah 0 h7.l;have c8:Gr w5 w7:=h7.aW;clear h6 h7;have ha:=ha.mono c8;have am:=cy.trans c8;have Z:=b7.trans am;have ci:=bG.xv hc;have h:=h.gr am;have hX:St w7 [aH k2 [.slice none 0 0,.slice none 0 0,.slice none 0 0],has (hp w1)]:=h;refine ag (St.all w7) λa3 w8 h=>?_
 refine ⟨λz u=>∃ (q:Nat) (R:List (Lq aJ)) (V:List (Lq Int)) (oa:aa3) (ca:Nat) (og:aa3) (cg:Nat),z = q/\q<=ss.length/\R.length = q/\V.length = q/\R.map (·.2) = List.replicate q (List.replicate g.T ⟨0,0⟩)/\V.map (·.2) = (List.range q).map (lL g G)/\St u (aH a3 [.slice oa q ca,.slice og q cg,.slice none 0 0] :: own 1 oa q ca (R.map bF) :: aC (R.map (bB 2 cJ)) :: own 1 og q cg (V.map bF) :: aC (V.map (bB 1 iv)) :: all w7),λz _=>ss.length - z.toNat,⟨0,[],[],none,0,none,0,rfl,Y4 _,rfl,rfl,rfl,rfl,?_⟩,?_⟩
 ·exact (ay 1 ((St.flat (M:=[])).2 (ay 1 ((St.flat (M:=[])).2 h)))).pick 5 [4,0,1,2,3]
 clear h;rintro _ _ w9 ⟨q,R,V,oa,ca,og,cg,rfl,hq,U,Y,bc,bT,h⟩;have cp:Gr w7 w9:=aR 5 h.l;refine ⟨_,_,_,bl.cell0 cp,?_⟩;rw [ck]
 refine ae (λO=>?_) λO=>?_
 ·have O:q < ss.length:=by have:=YR O; omega
  refine ⟨_,_,_,B.c0 (Z.trans cp),λo n c z u=>∃ j:Nat,z = ((g.T + j:Nat):Int)/\j<=g.N/\j = n/\St u (own 1 o j c (iv ((lL g G q).take j)) :: aH a3 [.slice oa q ca,.slice og q cg,.slice none 0 0] :: own 1 oa q ca (R.map bF) :: aC (R.map (bB 2 cJ)) :: own 1 og q cg (V.map bF) :: aC (V.map (bB 1 iv)) :: all w7),λ_ _ _ z _=>(g.T + g.N) - z.toNat,⟨0,ω,Y4 _,rfl,ay 1 h⟩,?_⟩;clear h;rintro _ ab _ a7 _ d6 ⟨j,rfl,hj,rfl,h⟩;have a4:Gr w7 d6:=aR 6 h.l;have bi:(lL g G q).length = g.N:=by simp [lL]
  refine ⟨_,_,_,_,_,_,_,_,_,_,_,_,_,B.row (Z.trans a4),(iX (a0.mono (Z.trans a4)) hb).mono ?_⟩;rintro _ eK ⟨rfl,aa⟩;have h:=h.gr aa;have b0:=a4.trans aa
  refine ⟨_,rfl,ae (λW=>?_) λW=>?_⟩
  ·have W:j < g.N:=by have:=YR W; omega
   refine ⟨_,_,_,_,_,bl.at b0 rfl,(Li (o:=oA) (c:=cA) (ask:=b2) (int:=b3) (s:=((g.T + j:Nat):Int)) (i:=q) bG (ha.mono b0) ω (λr hr=>(ci r hr).2) ω).mono ?_⟩;rintro _ eu ⟨rfl,b4⟩;have h:=h.gr b4;refine ⟨_,rfl,ag h λeS eY h=>?_⟩;refine (aL (us:=iv ((lL g G q).take j)) aQ (rfl:aj Ty _ = .slice _) (rfl:aj Ty _ = .slice _) rfl rfl rfl h rfl (by simp [aG]) (by show (j + 1) * 8<=_; omega) ω).mono ?_;rintro _ eI ⟨ey,eX,rfl,h⟩
   have e:iv ((lL g G q).take (j + 1)) = iv ((lL g G q).take j) ++ [.int .i64 (kE G q ((g.T + j:Nat):Int))]:=by
    have:(lL g G q)[j]? = some (kE G q ((g.T + j:Nat):Int)):=by simp [lL,W]
    rw [Y2,this]; unfold iv; rw [Zg]; rfl
   refine ⟨_,_,_,rfl,⟨ω,ω⟩,⟨j + 1,ω,W,rfl,?_⟩,by show g.T + g.N - (((g.T + j:Nat):Int) + 1).toNat < g.T + g.N - ((g.T + j:Nat):Int).toNat; omega⟩;rw [e];exact h.pick 2 [0]
  have W:j = g.N:=by have:=YS W; omega
  subst W;rw [Zb ω] at h;intro e8 hd;have h:=h.drawn hd;have e4:x.tl = g.T:=ω
  refine ⟨λu=>Gr w7 u/\u.cell? (aM a3) = some (.slice oa q ca),⟨aR 6 h.l,(ah 1 h.l).cell0 (sub.refl _)⟩,_,_,_,λu s=>s.2,_,_,_,λu s=>B.c0 (sub.trans Z s.1),⟨ω,rfl,ω⟩,?_⟩;rw [Za,HS,e4];refine ag h λa6 e9 h=>⟨⟨aR 7 h.l,(ah 2 h.l).cell0 (sub.refl _)⟩,ag h λeV ep h=>⟨⟨aR 8 h.l,(ah 3 h.l).cell0 (sub.refl _)⟩,?_⟩⟩;have ba:(R.map bF).length = q:=by rw [Y3,U]
  refine (aL (us:=R.map bF) aQ (rfl:aj Ty _ = .slice _) (rfl:aj Ty _ = .slice _) rfl rfl rfl (h.pick 8 [0,4,1,2,3,5,6,7]) rfl (by simp [aG]) (by show (q + 1) * 24<=_; omega) ω).mono ?_;rintro _ el ⟨d9,d8,rfl,h⟩;refine ⟨_,_,_,rfl,⟨aR 8 h.l,(ah 4 h.l).cell0 (sub.refl _)⟩,bj (i:=0) (h.pick 8 [4,0,2,3,5,6,7]) σ λeU h=>?_⟩;refine ⟨_,_,_,(ah 0 h.l).cell (sub.refl _) (j:=1) rfl,ag h λeg ef h=>?_⟩;refine (aL (us:=V.map bF) aQ (rfl:aj Ty _ = .slice _) (rfl:aj Ty _ = .slice _) rfl rfl rfl (h.pick 8 [0,6,1,2,3,4,5,7]) rfl (by simp [aG]) (by show (q + 1) * 24<=_; omega) ω).mono ?_;rintro _ em ⟨d7,dl,rfl,h⟩;refine ⟨_,_,_,rfl,?_⟩;rw [aK];refine bj (i:=1) (h.pick 8 [2,0,3,4,5,6,7]) σ λer h=>?_;refine ⟨⟨ω,ω⟩,⟨q + 1,R ++ [((some (aM a6),g.T),List.replicate g.T ⟨0,0⟩)],V ++ [((ab,a7),lL g G q)],d9,d8,d7,dl,σ,O,by simp [U],by simp [Y],by rw [Zg,bc,List.replicate_succ']; rfl,by rw [Zg,bT,Z1,Zg]; rfl,?_⟩,bn O⟩;have eA:(R ++ [((some (aM a6),g.T),List.replicate g.T (⟨0,0⟩ : aJ))]).map bF = R.map bF ++ [vS (some (aM a6)) g.T g.T]:=by rw [Zg]; simp [bF]
  have dt:(R ++ [((some (aM a6),g.T),List.replicate g.T (⟨0,0⟩ : aJ))]).map (bB 2 cJ) = R.map (bB 2 cJ) ++ [own 2 (some (aM a6)) g.T g.T (cJ (List.replicate g.T ⟨0,0⟩))]:=by rw [Zg]; simp [bB]
  have eG:(V ++ [((ab,a7),lL g G q)]).map bF = V.map bF ++ [vS ab g.N a7]:=by rw [Zg]; simp [bF,bi]
  have cC:(V ++ [((ab,a7),lL g G q)]).map (bB 1 iv) = V.map (bB 1 iv) ++ [own 1 ab g.N a7 (iv (lL g G q))]:=by rw [Zg]; simp [bB,bi]
  rw [eA,dt,eG,cC];have O:=h.pick 7 [3,5,6,4,0,2,1];have W:=St.snoc (dz (sz:=2) (l:=g.T) (c:=g.T) (cs:=[]) (by rw [Zm]; exact O) (by rw [gi,Z7]) (by rw [Zm,gi,Z7]) (Zc _));have h4:=St.snoc (W.pick 6 [2,1,0,3,4,5]);exact h4.pick 5 [2,3,1,4,0]
 have O:q = ss.length:=by have:=YS O; omega
 subst O
 have cv:∀ {z:bX},z∈C->∃ q t:Nat,q < ss.length/\t < g.T/\1<=(cM g nn ss q t).length/\z = ⟨(q:Int),(t:Int),cM g nn ss q t⟩:=λ{z} hz=>by
  rw [hC] at hz; exact lY.1 hz
 have cx:∀ {i j:Nat} {a b:bX},C[i]? = some a->C[j]? = some b->a.st = b.st->a.tm = b.tm->i = j:=λha hb=>by
  rw [hC] at ha hb; exact J6 ha hb
 have cB:∀ l:List bX,(l.flatMap (zH g)).length<=l.length:=λl=>by
  induction l with
  | nil=>simp
  | cons c l ih =>
   rw [Zw,Y0,ZC];have:(zH g c).length<=1:=by unfold zH; split <;> simp
   omega
 have h0:St w9 (aH a3 [.slice oa ss.length ca,.slice og ss.length cg,.slice none 0 0] :: own 1 oa ss.length ca (R.map bF) :: aC (R.map (bB 2 cJ)) :: own 1 og ss.length cg (V.map bF) :: aC (V.map (bB 1 iv)) :: own 3 none 0 0 (rP []) :: aC (kR []) :: all w7) :=
  (ay 3 ((St.flat (M:=[])).2 h)).pick 7 [2,3,4,5,6,0,1]
 refine ⟨λz u=>∃ (i:Nat) (R:List (Lq aJ)) (X:List q9) (oc:aa3) (cc:Nat),z = i/\i<=C.length/\Eo g ss.length (C.take i) (R.map (·.2))/\X.map jY = (C.take i).flatMap (zH g)/\St u (aH a3 [.slice oa ss.length ca,.slice og ss.length cg,.slice oc X.length cc] :: own 1 oa ss.length ca (R.map bF) :: aC (R.map (bB 2 cJ)) :: own 1 og ss.length cg (V.map bF) :: aC (V.map (bB 1 iv)) :: own 3 oc X.length cc (rP X) :: aC (kR X) :: all w7),λz _=>C.length - z.toNat,⟨0,R,[],none,0,rfl,Y4 _,by rw [bc]; exact Eo.zero,rfl,h0⟩,?_⟩;clear h h0 bc U;rintro _ _ c7 ⟨i,R,X,oc,cc,rfl,hi,hD,a8,h⟩;have cu:Gr w7 c7:=aR 7 h.l;have U:R.length = ss.length:=by have:=hD.1; simpa using this
 refine ae (λO=>?_) λO=>?_
 rotate_left
 ·have O:i = C.length:=by have:=YS O; omega
  subst O;rw [Zb ω,hC] at hD a8;have h8:=St.on (N:=[_,_,_,_,_,_,_]) h hX.l;refine ⟨_,_,_,_,_,_,_,_,_,(ah 0 h.l).at (sub.refl _) rfl,?_⟩;have h9:St c7 (aH k2 [.slice none 0 0,.slice none 0 0,.slice none 0 0] :: own 1 oa ss.length ca (R.map bF) :: aC (R.map (bB 2 cJ)) :: own 1 og ss.length cg (V.map bF) :: aC (V.map (bB 1 iv)) :: own 3 oc X.length cc (rP X) :: aC (kR X) :: [has (hp w1)]):=h8.pick 8 [7,1,2,3,4,5,6];refine aU h9 rfl (by simp [aG]) λek h=>?_;refine ⟨_,_,_,_,_,_,_,_,_,(ah 0 h.l).at (sub.refl _) rfl,?_⟩;refine ⟨ss,ask,int,0,nn,oa,ca,og,cg,oc,cc,R,V,X,by rw [U,Y],hR,hn,hD.all,by rw [bT,HR d5]; exact congrArg (λn=>(List.range n).map (lL g G)) ck.symm,a8,?_,sub.trans gw (aR 7 h.l)⟩;have h:=h.tail;rw [<- U] at h;have e:ss.length = V.length:=Y.symm;refine Ni (L:=[has (hp w1)]) (ca:=ca) (cg:=cg) (cc:=cc) ?_;unfold Nc;rw [U,Y] at *;exact h.l
 have O:i < C.length:=by have:=YR O; omega
 obtain ⟨d,ad,b1,d1,b6,e5,rb,d3⟩:=Et bP O;obtain ⟨q,t,hq,ht1,_,ez⟩:=cv (YV b6);have e1:d.st = (q:Int):=congrArg bX.st ez;have e2:d.tm = (t:Int):=congrArg bX.tm ez;have e3:d.acts = cM g nn ss q t:=congrArg bX.acts ez;have bC:C.take (i + 1) = C.take i ++ [d]:=by rw [Y2,b6]; rfl
 have e6:X.length<=16640:=by
  have e:=congrArg List.length a8;have:=cB (C.take i);rw [Y3] at e;rw [Zj] at this;omega
 have cb:∀ c∈C.take i,¬(c.st = (q:Int)/\c.tm = (t:Int)):=λc e0 hh=>by
  obtain ⟨j,hj⟩:=Zr e0;rw [ZT] at hj
  split at hj
  ·have:=cx hj b6 (by rw [hh.1]; exact e1.symm) (by rw [hh.2]; exact e2.symm);omega
  ·cases hj
 obtain ⟨b,b5⟩ : ∃ b,R[q]? = some b:=⟨_,YU ω⟩;have ba:(R.map (·.2))[q]? = some b.2:=by rw [YW,b5]; rfl
 have f4:b.2.length = g.T:=(hD.2 q b.2 ba).1;have aT:=hD.put (c:=d) ba e1 e2 cb;rw [<- bC] at aT;have be:(C.take (i + 1)).flatMap (zH g) = (C.take i).flatMap (zH g) ++ zH g d:=by rw [bC,ZB]; simp
 rw [e1,e2] at rb;have bA:uX g.prods.length d.acts:=by rw [e3]; exact J8 hc hA q t
 refine aq e5 O ⟨_,_,_,_,_,rb.at (am.trans cu) rfl,ag h λea ei h=>aU h rfl (by simp [aG]) λeb h=>⟨_,_,_,_,_,_,_,_,_,_,_,_,_,B.row (sub.trans Z (aR 8 h.l)),_,(ah 0 h.l).cell (sub.refl _) (j:=1) rfl,_,_,_,(ah 0 h.l).cell (sub.refl _) (j:=2) rfl,(Wk hc (a0.mono (sub.trans Z (aR 8 h.l))) (d3.mono (sub.trans am (aR 8 h.l))) bA ht1).mono ?_⟩⟩;obtain ⟨l,hl⟩ : ∃ l,l = cW g t d.acts:=⟨_,rfl⟩;rw [<- hl];have c6:(R.set q (b.1,b.2.set t (rM l))).map (·.2) = (R.map (·.2)).set q (b.2.set t (rM (cW g t d.acts))):=by rw [ZM,hl]
 rw [<- c6] at aT;rintro _ f3 ⟨ac,aI,rfl,ch⟩;have h:=St.nf ch h.l;clear ch;refine ⟨_,_,_,_,rfl,?_⟩;intro d4 bb;have h:=h.drawn bb;obtain ⟨eo,cD,cz⟩:=LR (dJ 3 h.l) (q:=q) (v:=bF b) (by rw [YW,b5]; rfl);have d0:=ah 2 h.l;have c9:=ah 1 h.l;refine ⟨λu=>Gr d4 u,Gr.refl _,_,_,_,λu s=>d0.cell0 s,_,λu s=>c9.cell0 s,aw cD hq ⟨_,_,_,λu s=>cz u s,_,λu s=>c9.cell s (j:=1) rfl,(Wj (xs:=l.1) (vq rfl (dJ 0 h.l))).mono ?_⟩⟩;rintro _ eB ⟨rfl,a5⟩;have h:=h.gr a5;refine ⟨_,_,rfl,a5,RG (y:=rM l) b5 ω (h.pick 9 [3,4,0,1,2,5,6,7,8]) λdc h=>?_⟩
 refine ae (λW=>?_) λW=>?_
 ·have W:2<=l.1.length:=by
   have:(1:Int) < (l.1.length:Int):=YR W;omega
  have a1:zH g d = [⟨(q:Int),(t:Int),l.1⟩]:=by
   unfold zH;rw [ez]
   show (if 2<=(cW g (t:Int).toNat (cM g nn ss q t)).1.length then _ else _) = _
   rw [Za,<- e3,<- hl,Y5 W]
  refine ⟨_,_,_,(ah 4 h.l).cell (sub.refl _) (j:=2) rfl,_,(ah 3 h.l).cell0 (sub.refl _),_,(ah 3 h.l).cell (sub.refl _) (j:=1) rfl,ag h λeQ dc h=>?_⟩;refine (aL (us:=rP X) aQ (rfl:aj Ty _ = .slice _) (rfl:aj Ty _ = .slice _) rfl rfl rfl (h.pick 10 [0,8,1,2,3,5,6,7,9]) rfl (by simp [aG]) (by show (X.length + 1) * 40<=_; omega) ω).mono ?_;rintro _ eD ⟨dk,d2,rfl,h⟩;refine ⟨_,_,_,rfl,?_⟩;rw [aK];refine bj (i:=2) (h.pick 9 [5,0,2,3,4,6,7,8]) σ λec h=>?_;refine ⟨⟨ω,ω⟩,⟨i + 1,_,X ++ [(((q:Int),(t:Int)),((ac,aI),l.1))],dk,d2,σ,O,aT,by rw [Zg,a8,be,a1]; rfl,?_⟩,bn O⟩;have eC:kR (X ++ [(((q:Int),(t:Int)),((ac,aI),l.1))]) = kR X ++ [own 2 ac l.1.length aI (cJ l.1)]:=by unfold kR; rw [Zg]; rfl
  rw [eC,CI,show (X ++ [(((q:Int),(t:Int)),((ac,aI),l.1))]).length = X.length + 1 from σ];have W:=St.snoc (h.pick 8 [4,7,0,1,2,3,5,6]);exact W.pick 7 [1,3,4,5,6,2,0]
 ·have W:¬ 2<=l.1.length:=by
   have:¬ (1:Int) < (l.1.length:Int):=YS W;omega
  have a1:zH g d = []:=by
   unfold zH;rw [ez]
   show (if 2<=(cW g (t:Int).toNat (cM g nn ss q t)).1.length then _ else _) = _
   rw [Za,<- e3,<- hl,YZ W]
  refine ⟨⟨ω,ω⟩,⟨i + 1,_,X,oc,cc,σ,O,aT,by rw [a8,be,a1,Zm],?_⟩,bn O⟩;exact h.pick 9 [4,0,1,5,6,7,8]
end
section
variable {g:af} {nn nn' : List Bool} {ss ss' : List SQ}
theorem Un {d:bX} (h:d∈zv g nn ss):∃ c∈gn g nn ss 1,2<=d.acts.length/\d.acts.length<=c.acts.length:=by
 obtain ⟨c,z,u⟩:=aaa.1 h;refine ⟨c,z,?_⟩;unfold zH at u
 split at u
 ·rename_i h2;rw [Zl] at u;subst u;exact ⟨h2,On⟩
 ·cases u
theorem Wv {a i f:Int} (hR:sV g ss a i f):(zv g nn ss).length<=16640:=by
 have u:∀ l:List bX,(l.flatMap (zH g)).length<=l.length:=λl=>by
  induction l with
  | nil=>simp
  | cons c l ih =>
   rw [Zw,Y0,ZC];have:(zH g c).length<=1:=by unfold zH; split <;> simp
   omega
 exact Zq (u _) (HQ (l:=1) (nn:=nn) hR)
theorem Uo {a i f a' i' f' : Int} (hR:sV g ss a i f) (hn:f = 0->j6 g nn) (hR' : sV g ss' a' i' f') (hn' : f' = 0->j6 g nn'):f' = f/\B_ g nn' ss' = B_ g nn ss/\Fg g ss' = Fg g ss/\zv g nn' ss' = zv g nn ss:=by
 obtain ⟨u,O,z,G⟩:=RD hR hn hR' hn'
 refine ⟨u,?_,?_,?_⟩
 ·by_cases hf:f = 0
  ·unfold B_ TX;rw [G];refine ZP λq _=>ZP λt _=>?_;rw [z hf]
  ·rw [hR.nil hf,hR'.nil (by rw [u]; exact hf)]; rfl
 ·exact (HR (hR.one hR').2.1).symm
 ·unfold zv; rw [O]
theorem Up {r:List aJ} (h:r∈B_ g nn ss):r.length = g.T:=by
 obtain ⟨q,_,rfl⟩:=Zh.1 h;simp
theorem Uq {r:List Int} (h:r∈Fg g ss):r.length = g.N:=by
 obtain ⟨q,_,rfl⟩:=Zh.1 h;simp
theorem Ww {a i f:Int} (hR:sV g ss a i f):ss.length<=256:=by
 by_cases hf:f = 0
 ·exact (hR.HZ hf).2.dn.2.1
 ·rw [hR.nil hf]; exact Y4 _
end
theorem Wx {w:aa4} {L:List az} {n c q t:Nat} {o:aa3} {GL:List (Lq Int)} {b:Lq Int} {z:Int} {X:aa4->Prop} (hq:GL[q]? = some b) (ht:t < b.2.length) (h:St w (own 1 o n c (GL.map bF) :: aC (GL.map (bB 1 iv)) :: L))
  (hX:∀ w',St w' (own 1 o n c ((GL.set q (b.1,b.2.set t z)).map bF) :: aC ((GL.set q (b.1,b.2.set t z)).map (bB 1 iv)) :: L)->X w'):idx b.1.1 b.2.length (t:Int) 1 λa=>st1 w a (.int .i64 z) X:=by
 have u:=(YT.1 hq).1;have hA:(GL.map (bB 1 iv))[q]? = some (bB 1 iv b):=by rw [YW,hq]; rfl
 have h:=St.Ac (h.pick 2 [1,0]) hA;have h:St w (own 1 b.1.1 b.2.length b.1.2 (iv b.2) :: aC ((GL.map (bB 1 iv)).take q ++ (GL.map (bB 1 iv)).drop (q + 1)) :: own 1 o n c (GL.map bF) :: L):=h;obtain ⟨U,G⟩:=gV h (by rw [jl]; omega);refine aw G ht ?_;refine nF h G (by rw [jl]; exact ht) λw' h=>hX w' ?_;rw [Cp] at h;have O:bB 1 iv (b.1,b.2.set t z) = own 1 b.1.1 b.2.length b.1.2 (iv (b.2.set t z)):=by unfold bB; rw [Zn]
 rw [<- O] at h
 have R:(GL.set q (b.1,b.2.set t z)).map bF = GL.map bF:=by
  rw [ZM];refine pG ?_;rw [YW,hq]
  show some (bF b) = some (bF (b.1,b.2.set t z))
  unfold bF; simp
 rw [R,ZM];exact (St.Dy (M:=GL.map (bB 1 iv)) (n:=q) (by rw [Y3]; exact u) h).swap
section
variable {w:aa4} {L:List az} {g:af} {x:GA}
theorem Kl {oa og oc oa' og' oc' : aa3} {ca cg ca' cg' : Nat} {AL AL' : List (Lq aJ)} {GL GL' : List (Lq Int)} {CL CL' : List q9} (hx:Fi (hp w) oa og oc AL GL CL) (hy:Fi (hp w) oa' og' oc' AL' GL' CL') (eA:AL.map (·.2) = AL'.map (·.2)) (eG:GL.map (·.2) = GL'.map (·.2)) (nA:AL.length<=100000) (nG:GL.length<=100000) (bA:∀ b∈AL,b.2.length<=4611686018427387904) (bG:∀ b∈GL,b.2.length<=4611686018427387904) :
  ρ oK [.agg #[.slice oa AL.length ca,.slice og GL.length cg],.agg #[.slice oa' AL'.length ca',.slice og' GL'.length cg']] w λv w'=>v = .bool true/\Gr w w':=by
 have lA:AL'.length = AL.length:=by simpa using (congrArg List.length eA).symm
 have lG:GL'.length = GL.length:=by simpa using (congrArg List.length eG).symm
 refine mK (ag (St.all w) λk1 w1 h=>ag h λk2 w2 h=>?_);have r1:=ah 1 h.l;have r2:=ah 0 h.l;have Y:Gr w w2:=aR 2 h.l;have hx:=hx.mono Y;have hy:=hy.mono Y;clear h;refine ⟨λb u=>b = false/\w2 = u,⟨_,_,_,r1.cell0 (sub.refl _),_,_,_,r2.cell0 (sub.refl _),yB (by simp [lA]) ⟨_,_,_,r1.cell (sub.refl _) (j:=1) rfl,_,_,_,r2.cell (sub.refl _) (j:=1) rfl,by simp [lG],rfl⟩⟩,?_⟩;rintro _ _ _ ⟨rfl,rfl⟩;refine yB rfl ⟨λz u=>∃ i:Nat,z = i/\i<=AL.length/\Gr w2 u,λz _=>AL.length - z.toNat,⟨0,rfl,Y4 _,Gr.refl _⟩,?_⟩;rintro _ _ w4 ⟨i,rfl,hi,O⟩
 refine ⟨_,_,_,r1.cell0 O,ae (λU=>?_) λU=>?_⟩
 ·have U:i < AL.length:=by have:=YR U; omega
  obtain ⟨b,hb⟩ : ∃ b,AL[i]? = some b:=⟨_,YU U⟩;obtain ⟨Z,V⟩ : ∃ b,AL'[i]? = some b:=⟨_,YU ω⟩
  have e:b.2 = Z.2:=by
   have h3:=congrArg (·[i]?) eA;simp only [YW,hb,V,ZY] at h3;exact Option.some.inj h3
  obtain ⟨⟨ad,ho,a0⟩,rr⟩:=hx.a i b hb;obtain ⟨⟨a4,a1,X⟩,W⟩:=hy.a i Z V;intro w5 hd;have G:=O.trans (Gr.drawn hd);refine ⟨λu=>Gr w5 u,Gr.refl _,_,_,_,λu s=>r1.cell0 (G.trans s),aw ho U ⟨_,_,_,λu s=>a0 u (sub.trans G s),_,_,_,λu s=>r2.cell0 (G.trans s),aw a1 ω ⟨_,_,_,λu s=>X u (sub.trans G s),(wN (rr.mono G) (W.mono G) (bA b (YV hb))).mono ?_⟩⟩⟩;rintro _ a3 ⟨rfl,R⟩;exact ⟨_,rfl,R,yB (by simp [e]) ⟨⟨ω,ω⟩,⟨i + 1,σ,U,G.trans R⟩,bn U⟩⟩
 refine ⟨λz u=>∃ i:Nat,z = i/\i<=GL.length/\Gr w2 u,λz _=>GL.length - z.toNat,⟨0,rfl,Y4 _,O⟩,?_⟩;clear O hi U;rintro _ _ a5 ⟨i,rfl,hi,O⟩;refine ⟨_,_,_,r1.cell O (j:=1) rfl,ae (λU=>?_) λU=>⟨rfl,Y.trans O⟩⟩;have U:i < GL.length:=by have:=YR U; omega
 obtain ⟨b,hb⟩ : ∃ b,GL[i]? = some b:=⟨_,YU U⟩;obtain ⟨Z,V⟩ : ∃ b,GL'[i]? = some b:=⟨_,YU ω⟩
 have e:b.2 = Z.2:=by
  have h3:=congrArg (·[i]?) eG;simp only [YW,hb,V,ZY] at h3;exact Option.some.inj h3
 obtain ⟨⟨ad,ho,a0⟩,rr⟩:=hx.g i b hb;obtain ⟨⟨a4,a1,X⟩,W⟩:=hy.g i Z V;have W : bh (hp w2) b.2 Z.1.1 Z.2.length:=by rw [e]; exact W
 intro w5 hd;have G:=O.trans (Gr.drawn hd);refine ⟨λu=>Gr w5 u,Gr.refl _,_,_,_,λu s=>r1.cell (G.trans s) (j:=1) rfl,aw ho U ⟨_,_,_,λu s=>a0 u (sub.trans G s),_,_,_,λu s=>r2.cell (G.trans s) (j:=1) rfl,aw a1 ω ⟨_,_,_,λu s=>X u (sub.trans G s),(xk (rr.mono G) (W.mono G) (bG b (YV hb))).mono ?_⟩⟩⟩;rintro _ a3 ⟨rfl,R⟩;exact ⟨_,rfl,Gr.of_eq R,yB rfl ⟨⟨ω,ω⟩,⟨i + 1,σ,U,G.trans (Gr.of_eq R)⟩,bn U⟩⟩
theorem Ur {oa og oc oa' og' oc' : aa3} {ca cg cc ca' cg' cc' : Nat} {AL AL' : List (Lq aJ)} {GL GL' : List (Lq Int)} {CL CL' : List q9} (hx:Fi (hp w) oa og oc AL GL CL) (hy:Fi (hp w) oa' og' oc' AL' GL' CL') (eA:AL.map (·.2) = AL'.map (·.2)) (eG:GL.map (·.2) = GL'.map (·.2)) (eC:CL.map jY = CL'.map jY) (nA:AL.length<=100000) (nG:GL.length<=100000) (nC:CL.length<=100000) (bA:∀ b∈AL,b.2.length<=4611686018427387904) (bG:∀ b∈GL,b.2.length<=4611686018427387904) (bC:∀ d∈CL,d.2.2.length<=4611686018427387904) :
  ρ wF [.agg #[.slice oa AL.length ca,.slice og GL.length cg,.slice oc CL.length cc],.agg #[.slice oa' AL'.length ca',.slice og' GL'.length cg',.slice oc' CL'.length cc']] w λv w'=>v = .bool true/\Gr w w':=by
 refine tj (ag (St.all w) λY w1 h=>ag h λX O h=>?_);have U:au (hp O) (aM Y) ([.slice oa AL.length ca,.slice og GL.length cg] ++ [.slice oc CL.length cc]):=ah 1 h.l;have R:au (hp O) (aM X) ([.slice oa' AL'.length ca',.slice og' GL'.length cg'] ++ [.slice oc' CL'.length cc']):=ah 0 h.l;have z:Gr w O:=aR 2 h.l;have hx:=hx.mono z;have hy:=hy.mono z;clear h;refine ⟨_,_,_,_,_,_,(au.take U).at (sub.refl _) rfl,_,_,_,_,_,_,(au.take R).at (sub.refl _) rfl,(Kl hx hy eA eG nA nG bA bG).mono ?_⟩;rintro _ w3 ⟨rfl,u⟩
 refine ⟨_,rfl,_,_,_,U.cell u (j:=2) rfl,_,_,_,R.cell u (j:=2) rfl,(Kg (hx.c.mono u) (hy.c.mono u) ω λc W=>?_).mono ?_⟩
 ·obtain ⟨d,V,rfl⟩:=Zh.1 W;exact bC d V
 rintro _ Z ⟨rfl,G⟩;exact ⟨_,rfl,vC rfl ⟨by rw [Zp eC],z.trans (u.trans G)⟩⟩
variable {w:aa4} {L:List az} {g:af} {x:GA}
theorem Bd (hg:gR (hp w) g x) (hb:jd g) (hbT:g.terms.length * 24<=140737488355328) (hbN:g.nons.length * 16<=140737488355328) (ht:gA (hp w)):ρ kG [.agg ⟨x.cells⟩] w λv w'=>v = .bool true/\Gr w w':=by
 refine jK (cG hg λk1 w1 gw b1 B=>(OA (fo.mono gw ht)).mono ?_);rintro _ w2 ⟨rfl,am⟩;refine ⟨_,rfl,_,_,_,_,_,_,_,_,_,_,_,_,_,B.row am,(Wg (b1.mono am) hb hbT hbN).mono ?_⟩;rintro _ w3 ⟨y,rfl,hy,cm⟩;refine ⟨_,_,_,_,_,_,_,_,_,_,_,_,_,rfl,ag (St.all w3) λbT w4 h=>aU h rfl (by intro v hv; simp at hv; rcases hv with rfl | rfl | rfl | rfl | rfl <;> rfl) λw5 h=>?_⟩;have ab:Gr w3 w5:=h.aW;have B2:GB (hp w5) bT y:=PN (ah 0 h.l);clear h;refine ⟨_,_,_,_,_,_,_,_,_,_,_,_,_,B2.row (sub.refl _),(LW (hy.mono ab) hb).mono ?_⟩;rintro _ w6 ⟨ss,ask,int,f,nn,oa,ca,og,cg,oc,cc,AL,GL,CL,rfl,hR,hn,ck,cb,ci,hT,c6⟩;refine ⟨_,_,_,_,_,_,_,_,_,_,rfl,ag (St.all w6) λc5 w7 h=>aU h rfl (by simp [aG]) λw8 h=>?_⟩;have c9:au (hp w8) (aM c5) [.slice oa AL.length ca,.slice og GL.length cg,.slice oc CL.length cc]:=ah 0 h.l;have be:Gr w6 w8:=h.aW;clear h;have hT:=hT.mono be;have aI:=c6.trans be;have cp:=am.trans (cm.trans (ab.trans aI));refine ⟨λz u=>∃ i:Nat,z = i/\i<=2/\Gr w8 u,λz _=>2 - z.toNat,⟨0,rfl,ω,Gr.refl _⟩,?_⟩;rintro _ _ w9 ⟨tn,rfl,d2,a4⟩;have a5:=cp.trans a4;refine ae (λh1=>?_) λh1=>?_
 rotate_left
 ·refine ⟨_,_,_,_,_,_,_,_,_,_,_,_,_,B.row a5,_,_,_,_,_,_,_,_,_,_,_,_,_,B2.row (aI.trans a4),(VB (b1.mono a5) (hy.mono (ab.trans (aI.trans a4))) hb).mono ?_⟩;rintro _ cD ⟨rfl,bl⟩;exact ⟨_,rfl,vC rfl ⟨rfl,gw.trans (a5.trans bl)⟩⟩
 have h1:tn < 2:=by have:=YR h1; omega
 refine ⟨_,_,_,_,_,_,_,_,_,_,_,_,_,B.row a5,(EC (b1.mono a5) hb (fo.mono (gw.trans a5) ht)).mono ?_⟩;rintro _ ch ⟨bb,cy,cz,f2,b6,X,Z,W,Y,U,V,O,R,G,rfl,ba,c8,a0,a1,a3,h⟩;obtain ⟨ef,eD,eG,eC⟩:=Uo hR hn ba c8
 have nA:O.length<=256:=by
  have e:=congrArg List.length a0;have:=Ww ba;rw [Y3] at e; unfold B_ at e; rw [Y3,ZX] at e; omega
 have nG:R.length = O.length:=by
  have e:=congrArg List.length a0;have e2:=congrArg List.length a1;rw [Y3] at e e2; unfold B_ at e; unfold Fg at e2; rw [Y3,ZX] at e e2; omega
 have nC:G.length<=16640:=by
  have e:=congrArg List.length a3;have:=Wv (nn:=b6) ba;rw [Y3] at e; omega
 have bA:∀ b∈O,b.2.length<=4611686018427387904:=λb a6=>by
  have:b.2∈B_ g b6 bb:=by rw [<- a0]; exact aaO a6
  have e:=Up this;have:=hb.1;have e2:g.T = g.terms.length:=rfl;omega
 have bG:∀ b∈R,b.2.length<=4611686018427387904:=λb a6=>by
  have:b.2∈Fg g bb:=by rw [<- a1]; exact aaO a6
  have e:=Uq this;have:=hb.2.1;have e2:g.N = g.nons.length:=rfl;omega
 have bC:∀ d∈G,2<=d.2.2.length/\d.2.2.length<=4611686018427387904:=λd hd=>by
  have:jY d∈zv g b6 bb:=by rw [<- a3]; exact aaO hd
  obtain ⟨c,hc,h2,h3⟩:=Un this;exact ⟨h2,Zq h3 (T3 hb c hc)⟩
 have h:St ch (own 1 X O.length Z (O.map bF) :: aC (O.map (bB 2 cJ)) :: own 1 W R.length Y (R.map bF) :: aC (R.map (bB 1 iv)) :: own 3 U G.length V (rP G) :: aC (kR G) :: all w9):=h;refine ⟨_,_,_,_,_,_,_,_,_,_,rfl,ag h λa9 d8 h=>aU h rfl (by simp [aG]) λbi h=>?_⟩;have aa:Gr w9 bi:=aR 7 h.l;have bP:Fi (hp bi) X W U O R G:=Ni (ca:=Z) (cg:=Y) (cc:=V) h.tail.l;refine ⟨_,_,_,_,_,_,_,_,_,(ah 0 h.l).at (sub.refl _) rfl,_,_,_,_,_,_,_,_,_,c9.at (a4.trans aa) rfl,(Ur bP (hT.mono (a4.trans aa)) (by rw [ck,a0,eD]) (by rw [cb,a1,eG]) (by rw [ci,a3,eC]) ω ω ω bA bG λd hd=>(bC d hd).2).mono ?_⟩;rintro _ cv ⟨rfl,b4⟩;have h:=h.gr b4;refine ⟨_,rfl,λb u=>cv = u/\b = false,yB rfl ⟨rfl,by simp [ef]⟩,?_⟩;rintro _ _ _ ⟨rfl,rfl⟩;obtain ⟨n,a7⟩ : ∃ n,n = O.length:=⟨_,rfl⟩;obtain ⟨nc,a8⟩ : ∃ nc,nc = G.length:=⟨_,rfl⟩;rw [nG,<- a7,<- a8] at h;rw [<- a7] at nA nG;rw [<- a8] at nC;refine yB rfl ⟨λz u=>∃ (i:Nat) (AL:List (Lq aJ)) (GL:List (Lq Int)),z = i/\i<=n/\AL.length = n/\GL.length = n/\(∀ b∈AL,b.2.length<=4611686018427387904)/\(∀ b∈GL,b.2.length<=4611686018427387904)/\St u (aH a9 [.slice X n Z,.slice W n Y,.slice U nc V] :: own 1 X n Z (AL.map bF) :: aC (AL.map (bB 2 cJ)) :: own 1 W n Y (GL.map bF) :: aC (GL.map (bB 1 iv)) :: own 3 U nc V (rP G) :: aC (kR G) :: all w9),λz _=>n - z.toNat,⟨0,O,R,rfl,Y4 _,a7.symm,nG,bA,bG,h⟩,?_⟩;clear h bA bG a7 bP a0 a1 nG;rintro _ _ cC ⟨i,O,R,rfl,hi,lA,lG,bA,bG,h⟩
 refine ⟨_,_,_,(ah 0 h.l).cell0 (sub.refl _),ae (λh2=>?_) λh2=>?_⟩
 ·have h2:i < n:=by have:=YR h2; omega
  obtain ⟨b0,b2⟩ : ∃ b,O[i]? = some b:=⟨_,YU ω⟩;obtain ⟨m,hm⟩ : ∃ m,m = b0.2.length:=⟨_,rfl⟩;have d1:=bA b0 (YV b2);refine ⟨λz u=>∃ (k:Nat) (AL:List (Lq aJ)) (b:Lq aJ),z = k/\k<=m/\AL.length = n/\(∀ b∈AL,b.2.length<=4611686018427387904)/\AL[i]? = some b/\b.2.length = m/\St u (aH a9 [.slice X n Z,.slice W n Y,.slice U nc V] :: own 1 X n Z (AL.map bF) :: aC (AL.map (bB 2 cJ)) :: own 1 W n Y (R.map bF) :: aC (R.map (bB 1 iv)) :: own 3 U nc V (rP G) :: aC (kR G) :: all w9),λz _=>m - z.toNat,⟨0,O,b0,rfl,Y4 _,lA,bA,b2,hm.symm,h⟩,?_⟩;clear h bA lA b2;rintro _ _ d0 ⟨k,O,b,rfl,hk,lA,bA,b7,a6,h⟩;obtain ⟨d4,aT,ac⟩:=cr (h.pick 7 [1]) (j:=i) (v:=bF b) (by rw [YW,b7]; rfl)
  refine ⟨_,_,_,(ah 0 h.l).cell0 (sub.refl _),aw aT h2 ⟨_,_,_,ac,ae (λh3=>?_) λh3=>?_⟩⟩
  ·have h3:k < b.2.length:=by have:=YR h3; omega
   refine ⟨_,_,_,(ah 0 h.l).cell0 (sub.refl _),aw aT h2 ⟨_,_,_,ac,?_⟩⟩;refine RG (y:=⟨9,0⟩) b7 h3 (h.pick 7 [1,2,0,3,4,5,6]) λc7 h=>?_;refine ⟨⟨ω,ω⟩,⟨k + 1,_,(b.1,b.2.set k ⟨9,0⟩),σ,ω,by rw [Zn,lA],λd hd=>?_,aap (YT.1 b7).1,by simp [a6],h.pick 7 [2,0,1,3,4,5,6]⟩,bn ω⟩
   rcases aaq hd with hd | rfl
   ·exact bA d hd
   ·simp only [Zn]; omega
  obtain ⟨c0,b5⟩ : ∃ b,R[i]? = some b:=⟨_,YU ω⟩;obtain ⟨p,cx⟩ : ∃ m,m = c0.2.length:=⟨_,rfl⟩;have d6:=bG c0 (YV b5);refine ⟨λz u=>∃ (k:Nat) (GL:List (Lq Int)) (b:Lq Int),z = k/\k<=p/\GL.length = n/\(∀ b∈GL,b.2.length<=4611686018427387904)/\GL[i]? = some b/\b.2.length = p/\St u (aH a9 [.slice X n Z,.slice W n Y,.slice U nc V] :: own 1 X n Z (O.map bF) :: aC (O.map (bB 2 cJ)) :: own 1 W n Y (GL.map bF) :: aC (GL.map (bB 1 iv)) :: own 3 U nc V (rP G) :: aC (kR G) :: all w9),λz _=>p - z.toNat,⟨0,R,c0,rfl,Y4 _,lG,bG,b5,cx.symm,h⟩,?_⟩;clear h bG lG b5 ac aT;rintro _ _ d5 ⟨k2,R,c,rfl,d7,lG,bG,b3,cu,h⟩;obtain ⟨cB,bd,bc⟩:=cr (h.pick 7 [3]) (j:=i) (v:=bF c) (by rw [YW,b3]; rfl)
  refine ⟨_,_,_,(ah 0 h.l).cell (sub.refl _) (j:=1) rfl,aw bd h2 ⟨_,_,_,bc,ae (λh3=>?_) λh3=>?_⟩⟩
  ·have h3:k2 < c.2.length:=by have:=YR h3; omega
   refine ⟨_,_,_,(ah 0 h.l).cell (sub.refl _) (j:=1) rfl,aw bd h2 ⟨_,_,_,bc,?_⟩⟩;refine Wx (z:=-9) b3 h3 (h.pick 7 [3,4,0,1,2,5,6]) λc7 h=>?_;refine ⟨⟨ω,ω⟩,⟨k2 + 1,_,(c.1,c.2.set k2 (-9)),σ,ω,by rw [Zn,lG],λd hd=>?_,aap (YT.1 b3).1,by simp [cu],h.pick 7 [2,3,4,0,1,5,6]⟩,bn ω⟩
   rcases aaq hd with hd | rfl
   ·exact bG d hd
   ·simp only [Zn]; omega
  exact ⟨⟨ω,ω⟩,⟨i + 1,O,R,σ,h2,lA,lG,bA,bG,h⟩,bn h2⟩
 refine ⟨λz u=>∃ (i:Nat) (CL:List q9),z = i/\i<=nc/\CL.length = nc/\(∀ d∈CL,2<=d.2.2.length)/\St u (aH a9 [.slice X n Z,.slice W n Y,.slice U nc V] :: own 3 U nc V (rP CL) :: aC (kR CL) :: all w9),λz _=>nc - z.toNat,⟨0,G,rfl,Y4 _,a8.symm,λd hd=>(bC d hd).1,h.pick 7 [0,5,6]⟩,?_⟩;clear h bC a8 a3;rintro _ _ d9 ⟨j,G,rfl,hj,lC,bC,h⟩
 refine ⟨_,_,_,(ah 0 h.l).cell (sub.refl _) (j:=2) rfl,ae (λh3=>?_) λh3=>?_⟩
 ·have h3:j < nc:=by have:=YR h3; omega
  obtain ⟨d,hd⟩ : ∃ b,G[j]? = some b:=⟨_,YU ω⟩;have dc:=bC d (YV hd);obtain ⟨ad,rfl,r⟩:=RC (h.pick 3 [1,2]) hd;refine ⟨_,_,_,(ah 0 h.l).cell (sub.refl _) (j:=2) rfl,aq rfl h3 ⟨_,_,_,r.cell (sub.refl _) (j:=2) rfl,?_⟩⟩;refine Xy (k:=0) (y:=⟨9,0⟩) hd ω (h.pick 3 [1,2,0]) λd3 h=>?_;refine ⟨⟨ω,ω⟩,⟨j + 1,_,σ,h3,by rw [Zn,lC],λe he=>?_,h.pick 3 [2,0,1]⟩,bn h3⟩
  rcases aaq he with he | rfl
  ·exact bC e he
  ·simp only [Zn]; omega
 ·exact ⟨⟨ω,ω⟩,⟨tn + 1,σ,h1,a4.trans (aR 3 h.l)⟩,bn h1⟩
end
end Go.Proofs.YtndaepmjkbmjmaaGreatDoor
