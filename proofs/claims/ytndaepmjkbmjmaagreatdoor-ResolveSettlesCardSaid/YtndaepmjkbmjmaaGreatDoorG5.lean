/- Texts of this claim, one behind the other. -/
import Derived.Test.YtndaepmjkbmjmaaGreatDoorG4
import Derived.Test.YtndaepmjkbmjmaaGreatDoorG1
import Derived.Test.YtndaepmjkbmjmaaGreatDoorG3
import Derived.LaidEql
set_option linter.unusedVariables false
set_option linter.unusedSectionVars false
set_option maxRecDepth 100000
set_option maxHeartbeats 16000000
namespace Go.V
end Go.V
namespace Go.Proofs.YtndaepmjkbmjmaaGreatDoor
end Go.Proofs.YtndaepmjkbmjmaaGreatDoor
open Go.V Go.Proofs.YtndaepmjkbmjmaaGreatDoor
namespace Go.Proofs.YtndaepmjkbmjmaaGreatDoor
def HD (g:af) (ss:List SQ) (m:List (av × Value)) (i:Nat):Prop:=∀ t:av,assoc t m = if t∈(bD g ss).take i then some (.int .i64 (((bD g ss).idxOf t:Int) + 1)) else none
def N_ (ss:List SQ) (m:List (av × Value)) (i:Nat) (es:List aS):Prop:=∀ k:av,assoc k m =
 if k.st < 0 then none else if k.st.toNat < i then (fy ss k.st.toNat k.sym).map (λj=>Value.int .i64 (j + 1)) else if k.st.toNat = i then (es.find? λe=>decide (e.sym = k.sym)).map (λe=>Value.int .i64 (e.to + 1)) else none
section
variable {g:af} {ss:List SQ} {m:List (av × Value)} {i:Nat}
theorem HD.start:HD g ss [] 0:=λt=>by simp [assoc]
theorem HD.step (hA:bw g ss) (h:HD g ss m i) {t:av} (ht:(bD g ss)[i]? = some t):HD g ss (bU t (.int .i64 ((i:Int) + 1)) m) (i + 1):=λu=>by
 rw [dU,h u,Y2,ht]
 by_cases e:u = t
 ·subst e
  rw [Y5 rfl,Y5 σ,Qv (Qu hA) ht]
 ·rw [YZ e]; simp [e]
theorem HD.all (h:HD g ss m (bD g ss).length) (t:av):(assoc t m).getD (.int .i64 0) = .int .i64 (xB g ss t):=by
 rw [h t,Zi];unfold xB
 split <;> rfl
theorem N_.start:N_ ss [] 0 []:=λk=>by simp [assoc]
theorem N_.step {es:List aS} (h:N_ ss m i es) {e:aS} (hn:e.sym∉es.map (·.sym)):N_ ss (bU ⟨(i:Int),e.sym⟩ (.int .i64 (e.to + 1)) m) i (es ++ [e]):=λk=>by
 rw [dU,h k,F5 hn]
 by_cases u:k = ⟨(i:Int),e.sym⟩
 ·subst u
  simp
 ·rw [YZ u]
  split
  ·rfl
  ·split
   ·rfl
   ·split
    ·have:k.sym≠e.sym:=λh=>u (by cases k; simp at *; omega)
     rw [YZ this]
    ·rfl
theorem N_.next {q:SQ} (hq:ss[i]? = some q) (h:N_ ss m i q.2.2):N_ ss m (i + 1) []:=λk=>by
 rw [h k]
 split
 ·rfl
 ·by_cases z:k.st.toNat < i
  ·rw [Y5 z,Y5 ω]
  ·rw [YZ z]
   by_cases u:k.st.toNat = i
   ·rw [Y5 u,Y5 ω,u,mu hq,Option.map_map]; rfl
   ·rw [YZ u,YZ ω]; simp
theorem N_.all (h:N_ ss m ss.length []) (k:av):(assoc k m).getD (.int .i64 0) = .int .i64 (VK ss k):=by
 rw [h k];unfold VK
 by_cases h0:k.st < 0
 ·rw [Y5 h0,Y5 h0]; rfl
 ·rw [YZ h0,YZ h0]
  split
  ·cases fy ss k.st.toNat k.sym <;> rfl
  ·have:fy ss k.st.toNat k.sym = none:=by unfold fy; rw [Zf ω]
   rw [this]; simp
end
abbrev Xg (x:GA) (o:aa3) (n c:Nat) (a int:Int) (ol:aa3) (nl cl ka kt:Nat) (on:aa3) (nn cn kp:Nat):List Value:=x.cells ++ [.slice o n c,.int .i64 a,.int .i64 int,.slice ol nl cl,.map (some ka),.map (some kt),.slice on nn cn,.map (some kp)]
structure Qz (h:Hp) (g:af) (ss:List SQ) (nn:List Bool) (k:Nat):Prop where
 ex:∃ (x:GA) (o:aa3) (c:Nat) (a int:Int) (ol:aa3) (cl ka kt:Nat) (on:aa3) (cn kp:Nat) (ma mt:List (av × Value)) (mp:List (Int × Value)),
  au h (aM k) (Xg x o ss.length c a int ol (bD g ss).length cl ka kt on g.N cn kp)/\gR h g x/\vN h ss o/\bh h (bD g ss) ol (bD g ss).length/\mapA ka ma h/\HD g ss ma (bD g ss).length/\mapA kt mt h/\N_ ss mt ss.length []/\bh h nn on g.N/\mapA kp mp h /\
  ∀ s:Int,∃ (a:aa3) (c:Nat),(assoc s mp).getD (.slice none 0 0) = .slice a (EI g g.prods.length s).length c/\bh h ((EI g g.prods.length s).map Int.ofNat) a (EI g g.prods.length s).length
theorem Qz.mono {h h' : Hp} {g:af} {ss:List SQ} {nn:List Bool} {k:Nat} (s:sub h h') (r:Qz h g ss nn k):Qz h' g ss nn k:=by
 obtain ⟨x,o,c,a,int,ol,cl,Y,kt,on,cn,W,ma,mt,mp,Z,R,h3,h4,U,O,h7,X,V,G,u⟩:=r.ex;exact ⟨x,o,c,a,int,ol,cl,Y,kt,on,cn,W,ma,mt,mp,Z.mono s,R.mono s,h3.mono s,h4.mono s,dY s U,O,dY s h7,X,V.mono s,dY s G,λz=>by obtain ⟨a,c,e,r⟩:=u z; exact ⟨a,c,e,r.mono s⟩⟩
section
variable {w:aa4} {L:List az} {g:af} {x:GA}
theorem Lx (hg:gR (hp w) g x) (hb:jd g) (ht:gA (hp w)):ρ JG [.agg ⟨x.cells⟩] w λv w'=>∃ (ss:List SQ) (ask int f:Int) (p:aa3),v = .tuple #[.pointer p,.int .i64 f]/\sV g ss ask int f/\Gr w w'/\(f = 0->∃ (k:Nat) (nn:List Bool),p = some (aM k)/\j6 g nn/\Qz (hp w') g ss nn k)/\(f≠0->p = none):=by
 refine Fb (cG hg λk1 w1 gw hg B=>?_);refine ⟨_,_,_,_,_,_,_,_,_,_,_,_,_,B.row (sub.refl _),(uB hg hb).mono ?_⟩;rintro _ w2 ⟨o,c,ss,ask,int,f,rfl,hR,h⟩;have ac:Gr w1 w2:=aR 3 h.l;have hs:=nL h.l;clear h
 refine ⟨_,_,_,_,_,_,rfl,ag (St.all w2) λc5 w3 h=>aU h rfl (by simp [aG]) λU h=>ae (λG=>?_) λG=>?_⟩
 ·have G:f≠0:=by simpa using G
  exact ⟨ss,ask,int,f,none,rfl,hR,gw.trans (ac.trans h.aW),λh=>absurd h G,λ_=>rfl⟩
 have G:f = 0:=by simpa using G
 subst G;obtain ⟨hc,hA⟩:=hR.HZ rfl;have aT:=hA.xv hc;have d1:=hA.dn.2.1;have bd:=y9 (g:=g) (λq O=>(aT q O).2) ss.length;have b1:Gr w2 U:=h.aW;have am:au (hp U) (aM c5) [.slice o ss.length c,.int .i64 ask,.int .i64 int]:=ah 0 h.l;clear h;have Y:=ac.trans b1;have a8:=hg.mono Y;have bC:gA (hp U):=fo.mono (gw.trans Y) ht;have hs:=hs.mono b1;have B4:∀ {u:aa4},sub (hp U) (hp u)->rowAt u ⟨k1,0,none⟩ 0 5 = some x.cells:=λs=>B.row (sub.trans Y s);have pl:=hg.p.1;have bP:=hg;obtain ⟨_,_,_,b4,_,_,_⟩:=id hb;refine ⟨_,_,_,_,_,_,_,_,_,_,_,_,_,B4 (sub.refl _),_,_,_,_,_,am.at (sub.refl _) rfl,?_⟩;refine nD (St.all U) λZ w5 h=>?_;have h:=dV (κ:=av) h;refine nD h λkt w6 h=>?_;have h:=dV (κ:=av) h;refine nD h λW w7 h=>?_;have h:=dV (κ:=Int) h;refine ag (vs:=Xg x o ss.length c ask int none 0 0 Z kt none 0 0 W) h λX w8 h=>?_;have b7:Gr U w8:=aR 4 h.l;refine ⟨_,_,_,_,_,_,_,_,_,_,_,_,_,B4 b7,(Qj (a8.mono b7) hb).mono ?_⟩;rintro _ w9 ⟨e7,d0,d2,f2,ol,cl,rfl,cx,V⟩;obtain ⟨_,c7,_,_,rfl,_⟩:=hR.one cx;rw [<- uD c7] at V ⊢;have h:=St.nf V h.l;clear V;have rL:bh (hp w9) (bD g ss) ol (bD g ss).length:=Cw rfl (dJ 0 h.l);have h:St w9 (aH X (Xg x o ss.length c ask int none 0 0 Z kt none 0 0 W) :: own 2 ol (bD g ss).length cl (FZ (bD g ss)) :: mapA W ([] : List (Int × Value)) :: mapA kt ([] : List (av × Value)) :: mapA Z ([] : List (av × Value)) :: all U):=h.pick 2 [1,0];refine ⟨_,_,_,_,rfl,bj h (show 8 < 13 by decide) λb2 ha=>?_⟩;have h:St b2 (aH X (Xg x o ss.length c ask int ol (bD g ss).length cl Z kt none 0 0 W) :: own 2 ol (bD g ss).length cl (FZ (bD g ss)) :: mapA W ([] : List (Int × Value)) :: mapA kt ([] : List (av × Value)) :: mapA Z ([] : List (av × Value)) :: all U):=ha;clear ha;have a1:Gr U b2:=aR 5 h.l;refine ⟨_,_,_,_,_,_,_,_,_,_,_,_,_,B4 a1,(JK (a8.mono a1) hb (fo.mono a1 bC)).mono ?_⟩;rintro _ cu ⟨on,n1,cn,e1,nn,rfl,bb,bi,V⟩;have h:=St.nf V h.l;clear V
 have ba:j6 g nn:=by
  rcases bi with ⟨G,_⟩ | ⟨_,_,G⟩
  ·exact absurd (.inr hc) G
  ·exact G
 have c6:n1 = g.N:=by rw [<- bb]; exact ba.1
 subst c6;refine ⟨_,_,_,_,rfl,bj (h.pick 2 [1,0]) (show 11 < 13 by decide) λb5 ha=>?_⟩;obtain ⟨C,hC⟩ : ∃ C,C = Xg x o ss.length c ask int ol (bD g ss).length cl Z kt on g.N cn W:=⟨_,rfl⟩;have h:St b5 (aH X C :: own 1 on g.N cn (bv nn) :: own 2 ol (bD g ss).length cl (FZ (bD g ss)) :: mapA W ([] : List (Int × Value)) :: mapA kt ([] : List (av × Value)) :: mapA Z ([] : List (av × Value)) :: all U):=by rw [hC]; exact ha
 clear ha;have c8:C[8]? = some (.slice ol (bD g ss).length cl):=by rw [hC]; rfl
 have c9:C[9]? = some (.map (some Z)):=by rw [hC]; rfl
 have bA:C[10]? = some (.map (some kt)):=by rw [hC]; rfl
 have ca:C[12]? = some (.map (some W)):=by rw [hC]; rfl
 have d9:(bD g ss).length<=ss.length * 130:=bd
 refine ⟨_,_,_,(ah 0 h.l).cell (sub.refl _) (j:=8) c8,λz w'=>∃ (i:Nat) (ma:List (av × Value)),z = i/\i<=(bD g ss).length/\HD g ss ma i/\St w' (mapA Z ma :: aH X C :: own 1 on g.N cn (bv nn) :: own 2 ol (bD g ss).length cl (FZ (bD g ss)) :: mapA W ([] : List (Int × Value)) :: mapA kt ([] : List (av × Value)) :: all U),λz _=>(bD g ss).length - z.toNat,
  ⟨0,[],rfl,Y4 _,.start,h.pick 6 [5,0,1,2,3,4]⟩,?_⟩
 clear h;rintro _ _ a9 ⟨i,ma,rfl,hi,hN,h⟩
 refine ae (λG=>?_) λG=>?_
 ·have G:i < (bD g ss).length:=by have:=YR G; omega
  have rT:bh (hp a9) (bD g ss) ol (bD g ss).length:=Cw rfl (dJ 3 h.l);obtain ⟨t,dk,ht,ck,rt⟩:=uC rT G;refine aq ck G ⟨_,_,rt.at (sub.refl _) rfl,ag h λci b6 h=>aU h rfl (by simp [aG]) λaa h=>?_⟩;intro a4 hd;have h:=h.eq (aE hd);have cy:au (hp a4) (aM ci) [.int .i64 t.st,.int .i64 t.sym]:=ah 0 h.l;have rk:au (hp a4) (aM X) C:=ah 2 h.l;refine ⟨λu=>Gr a4 u,Gr.refl _,_,λu s=>rk.cell s (j:=9) c9,_,_,λu s=>cy.at s rfl,⟨ω,ω⟩,(nI (κ:=av) aQ (rfl:aj Ty _ = .map _ _) fl (h.pick 2 [1]) t _).mono ?_⟩;rintro _ e4 h;exact ⟨⟨ω,ω⟩,⟨i + 1,_,σ,G,hN.step hA ht,h⟩,bn G⟩
 have G:i = (bD g ss).length:=by have:=YS G; omega
 subst G;have b0:sub (hp U) (hp a9):=aR 6 h.l
 refine ⟨_,_,_,am.cell0 b0,λz w'=>∃ (i:Nat) (mt:List (av × Value)),z = i/\i<=ss.length/\N_ ss mt i []/\St w' (mapA kt mt :: mapA Z ma :: aH X C :: own 1 on g.N cn (bv nn) :: own 2 ol (bD g ss).length cl (FZ (bD g ss)) :: mapA W ([] : List (Int × Value)) :: all U),λz _=>ss.length - z.toNat,
  ⟨0,[],rfl,Y4 _,.start,h.pick 6 [5,0,1,2,3,4]⟩,?_⟩
 clear h b0;rintro _ _ cv ⟨i,mt,rfl,hi,hW,h⟩;have bc:sub (hp U) (hp cv):=aR 6 h.l
 refine ae (λG=>?_) λG=>?_
 ·have G:i < ss.length:=by have:=YR G; omega
  obtain ⟨q,O⟩ : ∃ q,ss[i]? = some q:=⟨_,YU G⟩;obtain ⟨ad,eo,rs,_,re⟩:=hs i q O;have b3:=(aT q (YV O)).2;have ab:=Ai hA O;refine aq eo G ⟨_,_,_,_,_,_,rs.at bc rfl,ag h λbT dl h=>aU h rfl (by simp [aG]) λbe h=>?_⟩;have cC:au (hp be) (aM bT) (N3 q):=ah 0 h.l
  refine ⟨_,_,_,cC.cell (sub.refl _) (j:=1) rfl,λz w'=>∃ (k:Nat) (mt:List (av × Value)),z = k/\k<=q.2.2.length/\N_ ss mt i (q.2.2.take k)/\St w' (mapA kt mt :: mapA Z ma :: aH X C :: own 1 on g.N cn (bv nn) :: own 2 ol (bD g ss).length cl (FZ (bD g ss)) :: mapA W ([] : List (Int × Value)) :: all U),λz _=>q.2.2.length - z.toNat,
   ⟨0,mt,rfl,Y4 _,hW,h.pick 7 [1,2,3,4,5,6]⟩,?_⟩
  clear h hW;rintro _ _ cc ⟨k,mt,rfl,hk,hW,h⟩;have bG:sub (hp U) (hp cc):=aR 6 h.l;refine ae (λV=>?_) λV=>?_
  rotate_left
  ·have V:k = q.2.2.length:=by have:=YS V; omega
   subst V;rw [Zi] at hW;exact ⟨⟨ω,ω⟩,⟨i + 1,mt,σ,G,hW.next O,h⟩,bn G⟩
  have V:k < q.2.2.length:=by have:=YR V; omega
  obtain ⟨e,dc,he,cb,cz⟩:=kC re V;obtain ⟨_,_,j,r',hj,dt,cD,_⟩:=fh hc hA O he;have e5:=(YT.1 cD).1;refine aq cb V ⟨_,_,cz.at bG rfl,ag h λcB cu h=>aU h rfl (by simp [aG]) λb5 h=>?_⟩;intro a5 hd;have h:=h.eq (aE hd);have aI:au (hp a5) (aM cB) [.int .i64 e.sym,.int .i64 e.to]:=ah 0 h.l;have rk:au (hp a5) (aM X) C:=ah 3 h.l;refine ⟨λu=>Gr a5 u,Gr.refl _,_,λu s=>rk.cell s (j:=10) bA,_,λu s=>aI.cell0 s,_,λu s=>aI.cell s (j:=1) rfl,⟨ω,ω⟩,(nI (κ:=av) aQ (rfl:aj Ty _ = .map _ _) fl (h.pick 2 [1]) ⟨(i:Int),e.sym⟩ _).mono ?_⟩;rintro _ d6 h;have ht:q.2.2.take (k + 1) = q.2.2.take k ++ [e]:=by rw [Y2,he]; rfl
  have hn:e.sym∉(q.2.2.take k).map (·.sym):=λhm=>by
   have e1:q.2.2.map (·.sym) = (q.2.2.take k).map (·.sym) ++ e.sym :: (q.2.2.drop (k + 1)).map (·.sym):=by
    rw [<- ZF,<- Zg];congr 1;have:=Zk (k + 1) q.2.2;rw [ht] at this;simpa using this.symm
   rw [e1,ZE] at ab;exact ab.2.2 _ hm _ σ rfl
  have hW:=hW.step hn;rw [<- ht] at hW;exact ⟨⟨ω,ω⟩,⟨k + 1,_,σ,V,hW,h⟩,bn V⟩
 have G:i = ss.length:=by have:=YS G; omega
 subst G;have h:=h.pick 6 [5,0,1,2,3,4]
 refine ⟨_,_,_,B.c4 (sub.trans Y bc),λz w'=>∃ (j:Nat) (ps:List (Int × Lq Int)),z = j/\j<=x.pl/\(∀ s,gZ s ps = (EI g j s).map Int.ofNat)/\St w' (aH X C :: mapA W (mV ps) :: aC (mO 1 iv ps) :: mapA kt mt :: mapA Z ma :: own 1 on g.N cn (bv nn) :: own 2 ol (bD g ss).length cl (FZ (bD g ss)) :: all U),λz _=>x.pl - z.toNat,
  ⟨0,[],rfl,Y4 _,λs=>rfl,?_⟩,?_⟩
 ·have h:=(St.flat (M:=[])).2 h;exact h.pick 7 [4,1,0,2,3,5,6]
 clear h;rintro _ _ bl ⟨j,ps,rfl,hj,R,h⟩;have a3:sub (hp U) (hp bl):=aR 7 h.l;refine ae (λG=>?_) λG=>?_
 rotate_left
 ·have G:j = x.pl:=by have:=YS G; omega
  subst G;rw [<- pl] at R
  refine ⟨ss,ask,int,0,some (aM X),rfl,hR,gw.trans (Y.trans a3),λ_=>⟨X,nn,rfl,ba,x,o,c,ask,int,ol,cl,Z,kt,on,cn,W,ma,mt,mV ps,by rw [<- hC]; exact ah 0 h.l,a8.mono a3,hs.mono a3,Cw rfl (dJ 6 h.l),?_,hN,?_,hW,mf bb (dJ 5 h.l),?_,λs=>?_⟩,λh=>absurd rfl h⟩
  ·obtain ⟨hm,sm,a0⟩:=Se 4 h.l; exact dY sm a0
  ·obtain ⟨hm,sm,a0⟩:=Se 3 h.l; exact dY sm a0
  ·obtain ⟨hm,sm,a0⟩:=Se 1 h.l; exact dY sm a0
  have e:=R s;cases O:dw s ps with
  | none =>
   have e0:gZ s ps = []:=by unfold gZ; rw [O]
   rw [e0] at e;have e1:EI g g.prods.length s = []:=List.map_eq_nil_iff.1 e.symm;rw [g_,O,e1];exact ⟨none,0,rfl,bh.nil⟩
  | some q =>
   have e0:gZ s ps = q.2:=by unfold gZ; rw [O]
   rw [e0] at e;obtain ⟨e3,sq,ho⟩:=MG (aY (aY h.l)) O;have hl:q.2.length = (EI g g.prods.length s).length:=by rw [e,Y3]
   refine ⟨q.1.1,q.1.2,by rw [g_,O]; show bF q = _; unfold bF; rw [hl],?_⟩;rw [<- e,<- hl];exact (eO rfl (cP ho)).mono sq
 have G:j < x.pl:=by have:=YR G; omega
 obtain ⟨p,ad,vs,a6,cg,ch,ra,rl,rc,rfl,d4,d3⟩:=bP.p.get G;refine aq cg G ⟨_,_,_,_,_,ch.at (sub.trans Y a3) rfl,ag h λa7 e6 h=>aU h rfl (by simp [aG]) λdF h=>ae (λh3=>?_) λh3=>?_⟩
 rotate_left
 ·have h3:¬0 < j:=by have:=YS h3; omega
  exact ⟨⟨ω,ω⟩,⟨j + 1,ps,σ,G,λs=>by rw [D3 a6,YZ (λh=>h3 h.2),Zm]; exact R s,h.pick 8 [1,2,3,4,5,6,7]⟩,bn G⟩
 have h3:0 < j:=by have:=YR h3; omega
 intro d8 hd;have h:=h.eq (aE hd);have cm:∀ {u:aa4} {L' : List az},St u (aH X C :: L')->u.cell? ((aM X).add 12) = some (.map (some W)):=λh=>(ah 0 h.l).cell (sub.refl _) (j:=12) ca;have cp:∀ {u:aa4} {L' : List az},St u (aH a7 [.int .i64 p.left,.slice ra rl rc,.int .i64 p.level] :: L')->u.cell? (aM a7) = some (.int .i64 p.left):=λh=>(ah 0 h.l).cell0 (sub.refl _)
 refine ⟨λu=>u.cell? ((aM X).add 12) = some (.map (some W))/\u.cell? (aM a7) = some (.int .i64 p.left),⟨cm (h.pick 2 [1]),cp h⟩,_,λu hu=>hu.1,_,λu hu=>hu.2,_,λu hu=>hu.1,_,λu hu=>hu.2,?_,?_⟩
 ·refine (cF (κ:=Int) aQ (rfl:aj Ty _ = .map _ _) bJ rfl rfl (h.pick 3 [2]) p.left).mono ?_;rintro _ _ ⟨rfl,rfl⟩;obtain ⟨q,M,e1,e2,O,back⟩:=qB rfl (h.pick 4 [3,0,1,2]) p.left;have b3:q.2.length<=j:=by rw [e2,R,Y3]; exact Cy _ _ _
  refine ⟨_,_,_,e1,⟨cm (O.pick 4 [3]),cp (O.pick 3 [2])⟩,ag O λd7 a9 h=>⟨⟨cm (h.pick 5 [4]),cp (h.pick 4 [3])⟩,?_⟩⟩;refine (aL (us:=iv q.2) aQ (rfl:aj Ty _ = .slice _) (rfl:aj Ty _ = .slice _) rfl rfl rfl h rfl (by simp [aG]) (by show (q.2.length + 1) * 8<=_; omega) ω).mono ?_;rintro _ b6 ⟨o,c',rfl,h⟩;refine ⟨_,_,_,rfl,⟨cm (h.pick 5 [4]),cp (h.pick 4 [3])⟩,(dr (κ:=Int) aQ (rfl:aj Ty _ = .map _ _) bJ (h.pick 6 [5,0,2,4]) p.left _).mono ?_⟩;rintro _ aa h;have h:=xp back (q.2 ++ [(j:Int)]) σ (by simp [iv]) h;exact ⟨⟨ω,ω⟩,⟨j + 1,_,σ,G,λs=>by rw [kA,D3 a6,e2,R]; by_cases e:s = p.left <;> simp [e,R,h3],h.pick 3 [2,0,1]⟩,bn G⟩
 ·refine ag h λd5 a4 h=>⟨⟨cm (h.pick 3 [2]),cp (h.pick 2 [1])⟩,(cF (κ:=Int) aQ (rfl:aj Ty _ = .map _ _) bJ rfl rfl (h.pick 4 [3]) p.left).mono ?_⟩;rintro _ _ ⟨rfl,rfl⟩;obtain ⟨q,M,e1,e2,O,back⟩:=qB rfl (h.pick 5 [4,0,1,2,3]) p.left;have b3:q.2.length<=j:=by rw [e2,R,Y3]; exact Cy _ _ _
  refine ⟨_,_,_,e1,⟨cm (O.pick 5 [4]),cp (O.pick 4 [3])⟩,?_⟩;refine (aL (us:=iv q.2) aQ (rfl:aj Ty _ = .slice _) (rfl:aj Ty _ = .slice _) rfl rfl rfl (O.pick 3 [2,0,1]) rfl (by simp [aG]) (by show (q.2.length + 1) * 8<=_; omega) ω).mono ?_;rintro _ b6 ⟨o,c',rfl,h⟩;refine ⟨_,_,_,rfl,⟨cm (h.pick 5 [4]),cp (h.pick 4 [3])⟩,(dr (κ:=Int) aQ (rfl:aj Ty _ = .map _ _) bJ (h.pick 6 [5,0,2,4]) p.left _).mono ?_⟩;rintro _ aa h;have h:=xp back (q.2 ++ [(j:Int)]) σ (by simp [iv]) h;exact ⟨⟨ω,ω⟩,⟨j + 1,_,σ,G,λs=>by rw [kA,D3 a6,e2,R]; by_cases e:s = p.left <;> simp [e,R,h3],h.pick 3 [2,0,1]⟩,bn G⟩
end
def cj (n:Nat) (P:Nat->Int->Prop) (B k:Nat) (L:List az) (w:aa4):Prop:=∃ (o:aa3) (c:Nat) (es:List (Lq Int)),es.length = n/\(∀ i q,es[i]? = some q->(∀ z,z∈q.2↔P i z)/\q.2.length<=B)/\St w (aH k [.slice o n c] :: own 1 o n c (es.map bF) :: aC (es.map (bB 1 iv)) :: L)
theorem cj.iff {n B k:Nat} {P Q:Nat->Int->Prop} {L:List az} {w:aa4} (h:cj n P B k L w) (hpq:∀ i z,i < n->(P i z↔Q i z)):cj n Q B k L w:=by
 obtain ⟨o,c,es,O,G,R⟩:=h;refine ⟨o,c,es,O,λi q u=>⟨λz=>?_,(G i q u).2⟩,R⟩;rw [(G i q u).1 z,hpq i z (by rw [<- O]; exact (YT.1 u).1)]
theorem cj.gr {n B k:Nat} {P:Nat->Int->Prop} {L:List az} {w w' : aa4} (h:cj n P B k L w) (g:Gr w w'):cj n P B k L w':=by
 obtain ⟨o,c,es,G,u,z⟩:=h;exact ⟨o,c,es,G,u,z.gr g⟩
theorem cj.gw {n B k:Nat} {P:Nat->Int->Prop} {w0 w:aa4} (h:cj n P B k (all w0) w):Gr w0 w:=by
 obtain ⟨o,c,es,G,z,u⟩:=h;exact aR 3 u.l
def QA (n:Nat) (P:Nat->Int->Prop) (ds:List (Lq Int)):Prop:=ds.length = n/\∀ i q,ds[i]? = some q->jH q.2/\∀ z,z∈q.2↔P i z
section
variable {w:aa4} {L:List az} {g:af} {x:GA}
theorem QB {n a B k:Nat} {b:Int} {P:Nat->Int->Prop} (h:cj n P B k L w) (ha:a < n) (hB:(B + 1) * 8<=140737488355328):ρ bx [.int .i64 (a:Int),.int .i64 b,.pointer (some (aM k))] w λv w'=>v = .tuple (Array.mk [])/\cj n (λi z=>P i z\/i = a/\z = b) (B + 1) k L w':=by
 refine oy ?_;intro w1 hd;have h:=h.gr (Gr.drawn hd);obtain ⟨o,c,es,Z,G,h⟩:=h;obtain ⟨q,W⟩ : ∃ q,es[a]? = some q:=⟨_,YU ω⟩;have a0:=(G a q W).2;have hA:(es.map (bB 1 iv))[a]? = some (bB 1 iv q):=by rw [YW,W]; rfl
 have hV:(es.map bF)[a]? = some (bF q):=by rw [YW,W]; rfl
 have h:=St.out (h.pick 3 [2,0,1]) hA;have h:St w1 (own 1 q.1.1 q.2.length q.1.2 (iv q.2) :: aC ((es.map (bB 1 iv)).eraseIdx a) :: aH k [.slice o n c] :: own 1 o n c (es.map bF) :: L):=h;obtain ⟨U,rfl,Y⟩:=cr (h.pick 4 [3]) hV;refine ⟨λu=>u.cell? (aM k) = some (.slice (some U) n c)/\u.cell? (U.add a) = some (bF q),⟨(ah 2 h.l).cell0 (sub.refl _),Y⟩,_,_,_,λu V=>V.1,_,_,_,λu V=>V.1,aw rfl ha ⟨_,_,_,λu V=>V.2,ag h λk7 w5 h=>?_⟩⟩
 have cc:∀ {u:aa4} {L' : List az},St u (own 1 (some U) n c (es.map bF) :: L')->u.cell? (U.add a) = some (bF q):=λh=>by
  obtain ⟨a1,e,hc⟩:=cr h hV;cases e; exact hc
 refine ⟨⟨(ah 3 h.l).cell0 (sub.refl _),cc (h.pick 5 [4])⟩,?_⟩;refine (aL (us:=iv q.2) aQ (rfl:aj Ty _ = .slice _) (rfl:aj Ty _ = .slice _) rfl rfl rfl h rfl (by simp [aG]) (by show (q.2.length + 1) * 8<=_; omega) ω).mono ?_;rintro _ w6 ⟨R,O,rfl,h⟩;refine ⟨_,_,_,rfl,⟨(ah 3 h.l).cell0 (sub.refl _),cc (h.pick 5 [4])⟩,aw rfl ha (nF (h.pick 5 [4,0,2,3]) rfl (by rw [Y3]; omega) λw7 h=>?_)⟩
 refine ⟨rfl,some U,c,es.set a ((R,O),q.2 ++ [b]),by rw [Zn]; exact Z,λi r X=>?_,?_⟩
 ·by_cases e:a = i
  ·subst e;rw [aap ω] at X;cases X;refine ⟨λz=>?_,by simp; omega⟩
   show z∈q.2 ++ [b]↔_
   rw [YY,(G a q W).1 z,Zl];simp
  ·rw [aaJ e] at X;obtain ⟨r1,r2⟩:=G i r X;refine ⟨λz=>?_,ω⟩;rw [r1 z];exact ⟨.inl,λh=>h.resolve_right λh=>e h.1.symm⟩
 ·have e1:(.slice R (q.2.length + 1) O : Value) = bF (((R,O),q.2 ++ [b]):Lq Int):=by simp [bF]
  have e2:own 1 R (q.2.length + 1) O (iv q.2 ++ [.int .i64 b]) = bB 1 iv (((R,O),q.2 ++ [b]):Lq Int):=by simp [bB,iv]
  have h:St w7 (own 1 (some U) n c ((es.map bF).set a (.slice R (q.2.length + 1) O)) :: own 1 R (q.2.length + 1) O (iv q.2 ++ [.int .i64 b]) :: aC ((es.map (bB 1 iv)).eraseIdx a) :: aH k [.slice (some U) n c] :: L):=h;rw [e1,<- ZM] at h;have h:=St.back (B:=own 1 R (q.2.length + 1) O (iv q.2 ++ [.int .i64 b])) (h.pick 4 [1,2,0,3]) hA;rw [e2,<- ZM] at h;exact h.pick 3 [2,1,0]
theorem MR {n k:Nat} {ss:List SQ} {nn:List Bool} {fg:FuncId} {fc:List Value} {P:Nat->Int->Prop} (hw:Qz (hp w) g ss nn k) (hn:(bD g ss).length = n) (hn2:n<=33280) (hF:Fn fg = true)
  (hE:∀ (k4:Nat) (w0:aa4),cj n (λ_ _=>False) 0 k4 (all w) w0->ρ fg (.func (.func bx) (Array.mk []) (Array.mk [.pointer (some (aM k4))]) :: fc) w0 λv w'=>v = .tuple (Array.mk [])/\∃ B,B<=4611686018427387/\cj n P B k4 (all w) w') :
  ρ wb [.pointer (some (aM k)),.func (.func fg) (Array.mk []) (Array.mk fc)] w λv w'=>∃ (o:aa3) (c:Nat) (ds:List (Lq Int)),v = .slice o n c/\QA n P ds/\St w' (own 1 o n c (ds.map bF) :: aC (ds.map (bB 1 iv)) :: all w):=by
 obtain ⟨x,o,c,a,int,ol,cl,ka,kt,on,cn,kp,ma,mt,mp,rk,hg,hs,rT,_,_,_,_,_,_,_⟩:=hw.ex;rw [hn] at rk;refine s_ ⟨_,_,_,rk.cell (sub.refl _) (j:=8) rfl,⟨ω,rfl,ω⟩,?_⟩;rw [Za];have e0:ir n [(Value.slice none 0 0:Value)] = (List.replicate n (((none,0),[]):Lq Int)).map bF:=by rw [dq]; simp [bF]
 rw [e0];refine ag (St.all w) λX w1 h=>ag h λk4 w2 h=>bj h σ λZ h=>bS.2 ⟨hF,?_⟩;have h:St Z (aH k4 [.slice (some (aM X)) n n] :: aH X ((List.replicate n (((none,0),[]):Lq Int)).map bF) :: all w):=h;have h:St Z (own 1 (some (aM X)) n n ((List.replicate n (((none,0),[]):Lq Int)).map bF) :: aH k4 [.slice (some (aM X)) n n] :: all w):=dz (cs:=[]) (show St Z (aH X ((List.replicate n (((none,0),[]):Lq Int)).map bF ++ []) :: aH k4 [.slice (some (aM X)) n n] :: all w) by rw [Zm]; exact h.pick 2 [1,0]) σ σ (Zc _);have h:=yM (A:=bB 1 iv ((none,0),[])) (λw L h=>ay 1 h) n h;rw [<- List.map_replicate] at h
 have a1:cj n (λ_ _=>False) 0 k4 (all w) Z:=by
  refine ⟨_,_,List.replicate n (((none,0),[]):Lq Int),σ,λi q O=>?_,h.pick 3 [2,1,0]⟩;rw [Z2] at O
  split at O
  ·cases O; simp
  ·cases O
 clear h;refine (hE k4 Z a1).mono ?_;rintro _ w4 ⟨rfl,B,hB,Y,c4,es,R,G,h⟩
 refine ⟨rfl,_,_,_,(ah 0 h.l).cell0 (sub.refl _),λz w'=>∃ (i:Nat) (es:List (Lq Int)),z = i/\i<=n/\es.length = n/\(∀ j q,es[j]? = some q->(∀ z,z∈q.2↔P j z)/\q.2.length<=B/\(j < i->jH q.2))/\St w' (aH k4 [.slice Y n c4] :: own 1 Y n c4 (es.map bF) :: aC (es.map (bB 1 iv)) :: all w),λz _=>n - z.toNat,
  ⟨0,es,rfl,Y4 _,R,λj q O=>⟨(G j q O).1,(G j q O).2,λh=>absurd h ω⟩,h⟩,?_⟩
 clear h G R;rintro _ _ w5 ⟨i,es,rfl,hi,R,G,h⟩;refine ae (λU=>?_) λU=>?_
 rotate_left
 ·have U:i = n:=by have:=YS U; omega
  refine ⟨_,_,_,(ah 0 h.l).cell0 (sub.refl _),Y,c4,es,rfl,⟨R,λj q O=>?_⟩,h.pick 3 [1,2]⟩;obtain ⟨q1,q2,q3⟩:=G j q O;exact ⟨q3 (by have:=(YT.1 O).1; omega),q1⟩
 have U:i < n:=by have:=YR U; omega
 obtain ⟨q,O⟩ : ∃ q,es[i]? = some q:=⟨_,YU ω⟩;obtain ⟨a6,a9,_⟩:=G i q O;have hA:(es.map (bB 1 iv))[i]? = some (bB 1 iv q):=by rw [YW,O]; rfl
 have hV:(es.map bF)[i]? = some (bF q):=by rw [YW,O]; rfl
 have h:=St.out (h.pick 3 [2,0,1]) hA;have h:St w5 (own 1 q.1.1 q.2.length q.1.2 (iv q.2) :: aC ((es.map (bB 1 iv)).eraseIdx i) :: aH k4 [.slice Y n c4] :: own 1 Y n c4 (es.map bF) :: all w):=h;obtain ⟨W,rfl,a3⟩:=cr (h.pick 4 [3]) hV
 have cc:∀ {u:aa4} {L' : List az},St u (own 1 (some W) n c4 (es.map bF) :: L')->u.cell? (W.add i) = some (bF q):=λh=>by
  obtain ⟨a8,e,hc⟩:=cr h hV;cases e; exact hc
 refine ⟨_,_,_,(ah 2 h.l).cell0 (sub.refl _),aw rfl U ⟨_,_,_,a3,(MC h ω).mono ?_⟩⟩;rintro _ w6 ⟨rfl,h⟩;refine ⟨rfl,?_⟩;intro w7 hd;have h:=h.eq (aE hd);generalize hso:(q.2.mergeSort λx y=>decide (x<=y)) = so at h;have a4:∀ z,z∈so↔z∈q.2:=λz=>by rw [<- hso]; exact List.mem_mergeSort
 have a0:so.Pairwise (·<=·):=by
  have:=List.pairwise_mergeSort (le:=λx y:Int=>decide (x<=y)) (λa b c U h2=>by simp at *; omega) (λa b=>by simp; omega) q.2;rw [hso] at this;exact this.imp λh=>YR h
 have aa:so.length = q.2.length:=by rw [<- hso]; exact List.length_mergeSort _
 refine ⟨λu=>u.cell? (aM k4) = some (.slice (some W) n c4)/\u.cell? (W.add i) = some (bF q),⟨(ah 2 h.l).cell0 (sub.refl _),cc (h.pick 4 [3])⟩,_,_,_,λu hu=>hu.1,_,_,_,λu hu=>hu.1,aw rfl U ⟨_,_,_,λu hu=>hu.2,(Lt h ω).mono ?_⟩⟩;rintro _ ab ⟨V,c',rfl,h⟩;refine ⟨_,_,_,rfl,⟨(ah 2 h.l).cell0 (sub.refl _),cc (h.pick 4 [3])⟩,dK (fL (dI h) ?_)⟩;have h:=fK h;refine ⟨_,_,_,rfl,⟨(ah 2 h.l).cell0 (sub.refl _),cc (h.pick 4 [3])⟩,aw rfl U (nF (h.pick 4 [3,0,1,2]) rfl (by rw [Y3]; omega) λa5 h=>?_)⟩;have a7:=Lp so
 refine ⟨⟨ω,ω⟩,⟨i + 1,es.set i ((fT V 0 (dd so).length 1,(dd so).length),dd so),σ,U,by rw [Zn]; exact R,λj r hr=>?_,?_⟩,bn U⟩
 ·by_cases e:i = j
  ·subst e;rw [aap ω] at hr;cases hr;refine ⟨λz=>?_,by show (dd so).length<=B; omega,λ_=>Hy a0⟩
   show z∈dd so↔_
   rw [Hx,a4,a6 z]
  ·rw [aaJ e] at hr;obtain ⟨r1,r2,r3⟩:=G j r hr;exact ⟨r1,r2,λh=>r3 ω⟩
 ·have e1:(.slice (fT V 0 (dd so).length 1) (dd so).length (dd so).length:Value) = bF (((fT V 0 (dd so).length 1,(dd so).length),dd so):Lq Int):=rfl;have h:St a5 (own 1 (some W) n c4 ((es.map bF).set i (.slice (fT V 0 (dd so).length 1) (dd so).length (dd so).length)) :: own 1 (fT V 0 (dd so).length 1) (dd so).length (dd so).length (iv (dd so)) :: aC ((es.map (bB 1 iv)).eraseIdx i) :: aH k4 [.slice (some W) n c4] :: all w):=h;rw [e1,<- ZM] at h;have h:=St.back (B:=own 1 (fT V 0 (dd so).length 1) (dd so).length (dd so).length (iv (dd so))) (h.pick 4 [1,2,0,3]) hA;rw [show own 1 (fT V 0 (dd so).length 1) (dd so).length (dd so).length (iv (dd so)) = bB 1 iv (((fT V 0 (dd so).length 1,(dd so).length),dd so):Lq Int) from rfl,<- ZM] at h;exact h.pick 3 [2,1,0]
end
section
variable {g:af} {ss:List SQ} {nn:List Bool}
theorem HE {s:Int} (h:vV g nn s = true):(g.T:Int)<=s:=by
 unfold vV at h;rw [Zd] at h;exact YR h.1
def OQ (g:af) (nn:List Bool) (ss:List SQ) (j0:Nat) (es:List aS) (z:Int):Prop:=∃ e∈es,vV g nn e.sym = true/\xB g ss ⟨(j0:Int),e.sym⟩ = z + 1
theorem OQ.snoc {j0:Nat} {es:List aS} {e:aS} {z:Int}:OQ g nn ss j0 (es ++ [e]) z↔OQ g nn ss j0 es z\/(vV g nn e.sym = true/\xB g ss ⟨(j0:Int),e.sym⟩ = z + 1):=by
 unfold OQ
 constructor
 ·rintro ⟨e',u,h⟩;rw [YY,Zl] at u
  rcases u with u | rfl
  ·exact .inl ⟨e',u,h⟩
  ·exact .inr h
 ·rintro (⟨e',u,h⟩ | h)
  ·exact ⟨e',by simp [u],h⟩
  ·exact ⟨e,σ,h⟩
theorem OQ.all (hc:ak g) (hA:bw g ss) {i j0:Nat} {t:av} {r:SQ} (ht:(bD g ss)[i]? = some t) (hnx:fy ss t.st.toNat t.sym = some (j0:Int)) (hr:ss[j0]? = some r) (z:Int):OQ g nn ss j0 r.2.2 z↔z∈cq (bD g ss).length (jr g nn ss i):=by
 rw [df]
 constructor
 ·rintro ⟨e,he,R,W⟩
  have U:0 < xB g ss ⟨(j0:Int),e.sym⟩:=by
   obtain ⟨k,hk⟩:=Zr he;have:=Hu hr hk (HE R);rw [Cz hA this]; omega
  obtain ⟨u,Y,G⟩:=zd hA U;refine ⟨u,ω,(YT.1 G).1,?_⟩;unfold jr;rw [ht,G];simp [hnx,R]
 ·rintro ⟨u,rfl,Y,h⟩;unfold jr at h;rw [ht,YU Y] at h;simp only [Zd,Y7] at h;obtain ⟨R,W⟩:=h;have G:(bD g ss)[u]? = some (bD g ss)[u]:=YU Y;obtain ⟨Z,q',k',e',a0,V,X,a1,O⟩:=jq (YV G)
  have e1:(Z : Int) = j0:=by
   rw [hnx] at R;have:=Option.some.inj R;rw [O] at this;exact this.symm
  have e1:Z = j0:=ω
  subst e1;rw [hr] at V; cases V;refine ⟨e',YV X,by rw [O] at W; exact W,?_⟩;rw [<- O,Cz hA G]
end
section
variable {w:aa4} {L:List az} {g:af} {x:GA} {ss:List SQ} {nn:List Bool}
theorem VQ {t:av} {j0:Nat} (h0:0<=t.st) (h:fy ss t.st.toNat t.sym = some (j0:Int)):VK ss t = (j0:Int) + 1:=by
 unfold VK; rw [YZ ω,h]
theorem Oa {n kw kc k1 k4:Nat} {w0:aa4} (hw:Qz (hp w) g ss nn kw) (hcl:ak g) (hA:bw g ss) (hnn:j6 g nn) (hkc:au (hp w) (aM kc) [.pointer (some (aM kw))]) (B:GB (hp w) k1 x) (hTl:g.T = x.tl) (hn:(bD g ss).length = n) (hn2:n<=33280)
  (hR:cj n (λ_ _=>False) 0 k4 (all w) w0) :
  ρ zf [.func (.func bx) (Array.mk []) (Array.mk [.pointer (some (aM k4))]),.pointer (some (aM kc)),.pointer (some (aM k1))] w0 λv w'=>v = .tuple (Array.mk [])/\∃ B,B<=4611686018427387/\cj n (λi z=>z∈cq n (jr g nn ss i)) B k4 (all w) w':=by
 obtain ⟨x',o,c,a,int,ol,cl,ka,kt,on,cn,kp,ma,mt,mp,rk,hg,hs,rT,b2,hN,b5,bd,rN,_,_⟩:=hw.ex;rw [hn] at rk rT;have b3:=hA.xv hcl;obtain ⟨sT,sN,sP,_,_,_⟩:=hcl.b9;have c6:=hA.dn.2.1;have g0:Gr w w0:=hR.gw
 refine wg ⟨_,hkc.cell0 g0,_,_,_,rk.cell g0 (j:=8) rfl,λz w'=>∃ (i B:Nat),z = i/\i<=n/\B<=i * 130/\cj n (λj z=>j < i/\z∈cq n (jr g nn ss j)) B k4 (all w) w',λz _=>n - z.toNat,
  ⟨0,0,rfl,Y4 _,Y4 _,hR.iff λj z _=>⟨λh=>h.elim,λh=>absurd h.1 ω⟩⟩,?_⟩
 clear hR;rintro _ _ w1 ⟨i,B0,rfl,hi,ch,hR⟩;have g1:Gr w w1:=hR.gw;refine ae (λR=>?_) λR=>?_
 rotate_left
 ·have R:i = n:=by have:=YS R; omega
  subst R;exact ⟨rfl,B0,ω,hR.iff λj z hj=>⟨λh=>h.2,λh=>⟨hj,h⟩⟩⟩
 have R:i < n:=by have:=YR R; omega
 obtain ⟨t,cp,ht,bA,rt⟩:=uC rT R;obtain ⟨i0,q0,k0,e0,cc,bl,b0,cg,a9⟩:=jq (YV ht);have X:fy ss t.st.toNat t.sym = some e0.to:=by rw [a9]; exact pR hA bl b0
 obtain ⟨c7,aa⟩:=iq hcl hA X;obtain ⟨O,b7⟩ : ∃ O:Nat,e0.to = O:=⟨e0.to.toNat,ω⟩;rw [b7] at X aa;have a7:O < ss.length:=ω
 obtain ⟨r,hr⟩ : ∃ r,ss[O]? = some r:=⟨_,YU a7⟩;have ca:=(b3 r (YV hr)).2;have ad:0<=t.st:=by rw [a9]; exact Zx _
 have hk:VK ss t = (O:Int) + 1:=VQ ad X;obtain ⟨o9,c9,es,ba,Y,h⟩:=hR;refine aq bA R ⟨_,_,rt.at g1 rfl,ag h λk3 w2 h=>aU h rfl (by simp [aG]) λw3 h=>?_⟩;intro w4 hd;have h:=h.eq (aE hd);have g4:Gr w w4:=aR 4 h.l;have r3:au (hp w4) (aM k3) [.int .i64 t.st,.int .i64 t.sym]:=ah 0 h.l;refine ⟨λu=>Gr w4 u,Gr.refl _,_,λu s=>hkc.cell0 (sub.trans g4 s),_,λu s=>rk.cell (sub.trans g4 s) (j:=10) rfl,_,_,λu s=>r3.at s rfl,(dG (κ:=av) b5 g4 aQ (rfl:aj Ty _ = .map _ _) fl rfl rfl t).mono ?_⟩;rintro _ w8 ⟨rfl,e8⟩;rw [e8,bd.all,hk];obtain ⟨cb,eo,rs,_,re⟩:=hs O r hr;have e9:((O:Int) + 1) - 1 = (O:Int):=ω
 refine ⟨_,rfl,Gr.refl _,⟨ω,ω⟩,_,hkc.cell0 g4,_,_,_,rk.cell g4 (j:=5) rfl,?_⟩;rw [e9];have hR:cj n (λj z=>j < i/\z∈cq n (jr g nn ss j)) B0 k4 (all w) w4:=⟨o9,c9,es,ba,Y,h.pick 4 [1,2,3]⟩;clear h Y
 refine aq eo a7 ⟨_,_,_,rs.cell g4 (j:=1) rfl,λz w'=>∃ (k B1:Nat),z = k/\k<=r.2.2.length/\B1<=B0 + k/\cj n (λj z=>j < i/\z∈cq n (jr g nn ss j)\/j = i/\OQ g nn ss O (r.2.2.take k) z) B1 k4 (all w) w',λz _=>r.2.2.length - z.toNat,
  ⟨0,B0,rfl,Y4 _,Zc _,hR.iff λj z _=>⟨.inl,λh=>h.elim id λh=>by obtain ⟨_,e,he,_⟩:=h; simp at he⟩⟩,?_⟩
 clear hR;rintro _ _ w9 ⟨k,B1,rfl,cy,ck,hR⟩;have g9:Gr w w9:=hR.gw;refine ae (λG=>?_) λG=>?_
 rotate_left
 ·have G:k = r.2.2.length:=by have:=YS G; omega
  rw [G,Zi] at hR;refine ⟨⟨ω,ω⟩,⟨i + 1,B1,σ,R,ω,hR.iff λj z _=>?_⟩,bn R⟩;rw [OQ.all hcl hA ht X hr,hn]
  constructor
  ·rintro (⟨R,G⟩ | ⟨rfl,G⟩)
   ·exact ⟨ω,G⟩
   ·exact ⟨ω,G⟩
  ·rintro ⟨R,G⟩
   by_cases e:j = i
   ·exact .inr ⟨e,by rw [e] at G; exact G⟩
   ·exact .inl ⟨ω,G⟩
 have G:k < r.2.2.length:=by have:=YR G; omega
 obtain ⟨e,cm,he,bc,bC⟩:=kC re G;have a8:r.2.2.take (k + 1) = r.2.2.take k ++ [e]:=by rw [Y2,he]; rfl
 obtain ⟨c8,cz,_⟩:=fh hcl hA hr he;obtain ⟨bP,b1,a6,a0,W,h⟩:=hR;refine aq bc G ⟨_,_,bC.at g9 rfl,ag h λk8 cx h=>aU h rfl (by simp [aG]) λcB h=>?_⟩;intro V bT;have h:=h.eq (aE bT);have U:Gr w V:=aR 4 h.l;have r8:au (hp V) (aM k8) [.int .i64 e.sym,.int .i64 e.to]:=ah 0 h.l;have hR:cj n (λj z=>j < i/\z∈cq n (jr g nn ss j)\/j = i/\OQ g nn ss O (r.2.2.take k) z) B1 k4 (all w) V:=⟨bP,b1,a6,a0,W,h.pick 4 [1,2,3]⟩
 have skip:vV g nn e.sym≠true->ax ((k:Int) + 1)/\(∃ (k' aT : Nat),(k:Int) + 1 = k'/\k'<=r.2.2.length/\aT<=B0 + k'/\cj n (λj z=>j < i/\z∈cq n (jr g nn ss j)\/j = i/\OQ g nn ss O (r.2.2.take k') z) aT k4 (all w) V)/\r.2.2.length - ((k:Int) + 1).toNat < r.2.2.length - (k:Int).toNat:=λhv=>by
  refine ⟨⟨ω,ω⟩,⟨k + 1,B1,σ,G,ω,hR.iff λj z _=>?_⟩,bn G⟩;rw [a8,OQ.snoc];simp [hv]
 refine ⟨λu=>Gr V u,Gr.refl _,_,λu s=>r8.cell0 s,_,_,_,λu s=>B.c0 (sub.trans U s),ae (λh3=>?_) λh3=>skip λhv=>?_⟩
 rotate_left
 ·have:=HE hv;have:=YS h3;omega
 have h3:(g.T:Int)<=e.sym:=by rw [hTl]; exact YR h3
 obtain ⟨m,hm⟩ : ∃ m:Nat,e.sym - (x.tl:Int) = m:=⟨(e.sym - (x.tl:Int)).toNat,ω⟩;have a3:m < g.N:=ω
 have Z:vV g nn e.sym = aV nn m:=by
  unfold vV;rw [Zp h3,aaz,show e.sym.toNat - g.T = m by omega]
 obtain ⟨bb,aI⟩ : ∃ bb,nn[m]? = some bb:=⟨_,YU (by rw [hnn.1]; exact a3)⟩;have am:aV nn m = bb:=by unfold aV; rw [YX,aI]; rfl
 obtain ⟨cv,cC,ab,c5,bG⟩:=rN.cY a3;rw [aI] at ab; cases ab;refine ⟨_,λu s=>hkc.cell0 (sub.trans U s),_,_,_,λu s=>rk.cell (sub.trans U s) (j:=11) rfl,_,λu s=>r8.cell0 s,_,_,_,λu s=>B.c0 (sub.trans U s),⟨ω,ω⟩,?_⟩;rw [hm];refine aw c5 a3 ⟨bb,λu s=>bG _ (sub.trans U s),ae (λh4=>?_) λh4=>skip (by rw [Z,am,h4]; simp)⟩;subst h4;have b6:=Hu hr he h3;obtain ⟨u0,ac,be⟩:=zd hA (t:=⟨(O:Int),e.sym⟩) (by rw [Cz hA b6]; omega);have ci:u0 < n:=by rw [<- hn]; exact (YT.1 be).1
 intro a4 a5;have h:=h.eq (aE a5);have a1:Gr w a4:=aR 4 h.l;have r8:au (hp a4) (aM k8) [.int .i64 e.sym,.int .i64 e.to]:=ah 0 h.l;have hR:=hR.gr (Gr.drawn a5);refine ⟨λu=>Gr a4 u,Gr.refl _,_,λu s=>hkc.cell0 (sub.trans a1 s),_,λu s=>rk.cell (sub.trans a1 s) (j:=9) rfl,_,λu s=>r8.cell0 s,(dG (κ:=av) b2 a1 aQ (rfl:aj Ty _ = .map _ _) fl rfl rfl ⟨(O:Int),e.sym⟩).mono ?_⟩;rintro _ cu ⟨rfl,bi⟩;rw [bi,hN.all,ac];have b4:((u0:Int) + 1) - 1 = (u0:Int):=ω
 refine ⟨_,rfl,Gr.refl _,⟨ω,ω⟩,bS.2 ⟨rfl,?_⟩⟩;rw [b4];refine (QB (a:=i) hR R ω).mono ?_;rintro _ cD ⟨rfl,hR⟩;refine ⟨rfl,⟨ω,ω⟩,⟨k + 1,B1 + 1,σ,G,ω,hR.iff λj z _=>?_⟩,bn G⟩;rw [a8,OQ.snoc,ac]
 constructor
 ·rintro ((h | h) | ⟨rfl,rfl⟩)
  ·exact .inl h
  ·exact .inr ⟨h.1,.inl h.2⟩
  ·exact .inr ⟨rfl,.inr ⟨by rw [Z,am],rfl⟩⟩
 ·rintro (h | ⟨rfl,h | h⟩)
  ·exact .inl (.inl h)
  ·exact .inl (.inr ⟨rfl,h⟩)
  ·exact .inr ⟨rfl,ω⟩
end
theorem QA.list {n:Nat} {f:Nat->Nat->Bool} {ds:List (Lq Int)} (h:QA n (λi z=>z∈cq n (f i)) ds):ds.map (·.2) = (List.range n).map λi=>cq n (f i):=by
 obtain ⟨U,O⟩:=h;apply ZK;intro i;rw [YW,YW]
 by_cases hi:i < n
 ·have u:ds[i]? = some ds[i]:=YU ω;rw [u,Z8 hi];obtain ⟨G,R⟩:=O i _ u;exact congrArg some (zb G (pX n (f i)) R)
 ·rw [Zf ω,Zf (by simp; omega)]; rfl
theorem cj.has {n B k:Nat} {P:Nat->Int->Prop} {h0 h1:Hp} {w:aa4} (h:cj n P B k [Proofs.YtndaepmjkbmjmaaGreatDoor.has h1] w) (s:sub h0 h1):cj n P B k [Proofs.YtndaepmjkbmjmaaGreatDoor.has h0] w:=by
 obtain ⟨o,c,es,z,G,u⟩:=h;exact ⟨o,c,es,z,G,Bo (L:=[_,_,_]) (M:=[Proofs.YtndaepmjkbmjmaaGreatDoor.has h1]) (N:=[Proofs.YtndaepmjkbmjmaaGreatDoor.has h0]) (λh O=>bH (sub.trans s (lQ O))) u⟩
theorem cj.X8 {n B k:Nat} {P:Nat->Int->Prop} {L:List az} {w:aa4} (h:cj n P B k L w):∃ h0,aD L h0/\sub h0 (hp w)/\cj n P B k [Proofs.YtndaepmjkbmjmaaGreatDoor.has h0] w:=by
 obtain ⟨o,c,es,q1,q2,Y,U,d1,s1,z,X,h3,h4,Z,R,O,hb,W,u,d3,s5,G,hc,V⟩:=h;exact ⟨u,V,G.trans (O.trans z),o,c,es,q1,q2,Y,U,d1,s1,z,X,h3,h4,Z,R,O,hb,W,u,d3,s5,G,hc,bH (sub.refl _)⟩
theorem cj.sb {n B k:Nat} {P:Nat->Int->Prop} {h0:Hp} {w:aa4} (h:cj n P B k [Proofs.YtndaepmjkbmjmaaGreatDoor.has h0] w):sub h0 (hp w):=by
 obtain ⟨o,c,es,G,z,u⟩:=h;exact aR 3 u.l
section
variable {g:af} {ss:List SQ}
theorem Ga (hc:ak g) (hA:bw g ss) {i m:Nat} {q:SQ} {p:aP} (hq:ss[i]? = some q) (hp:g.prods[m]? = some p) (hy:pI g q.1.2 ⟨(m:Int),0⟩):p.right.length<=256:=by
 obtain ⟨j,r,_,z,G⟩:=qO hc hA hp p.right.length 0 ω i q hq (by simpa using hy);obtain ⟨_,_,_,O,_,_⟩:=hc.b9;have R:=(dE (g:=g) ω j).dots j _ (fN hA z).1;have U:=(YT.1 z).1;have u:=hA.dn.2.1;have:=G.dot (d:=j) R (Zx _);simp at this;omega
theorem D6 (hc:ak g) (hA:bw g ss) {i:Nat} {t:av} (ht:(bD g ss)[i]? = some t) {m:Nat} {p:aP} (hp:g.prods[m]? = some p) (hl:p.left = t.sym):∃ (i0:Nat) (q:SQ),t.st = i0/\ss[i0]? = some q/\pI g q.1.2 ⟨(m:Int),0⟩:=by
 obtain ⟨i0,U,k0,e0,Y,z,G,Z,u⟩:=jq (YV ht);obtain ⟨_,_,j,r,_,_,hr,W,O⟩:=fh hc hA z G;obtain ⟨x,X⟩:=aai _ O;obtain ⟨y,V,R,_⟩:=de.1 X;refine ⟨i0,U,by rw [u],z,.step V (by rw [R]; omega) hp ?_⟩;rw [hl,R,u]
theorem QC (hc:ak g) (hA:bw g ss) {q:Int} {row:List Int} {k:Nat} {s:Int} (h0:0<=q) (h1:q < ss.length) (hs:row[k]? = some s):VK ss ⟨cK ss q (row.take k),s⟩ - 1 = cK ss q (row.take (k + 1)):=by
 have u:∀ i s j,fy ss i s = some j->0<=j/\j < ss.length:=λi s j h=>iq hc hA h;rw [bI hs,uE u _ _ _ h0 h1];unfold VK
 rcases y_ u (row.take k) q h0 h1 with e | ⟨G,z⟩
 ·rw [e,Y5 (by show (-1:Int) < 0; omega),Y5 rfl]; rfl
 ·rw [YZ (by show ¬cK ss q (row.take k) < 0; omega),YZ ω,jT]
  show (match fy ss (cK ss q (row.take k)).toNat s with | some j=>j + 1 | none=>0) - 1 = _
  cases fy ss (cK ss q (row.take k)).toNat s with
  | none=>rfl
  | some j=>show j + 1 - 1 = j; omega
end
section
variable {w:aa4} {L:List az} {g:af} {x:GA} {ss:List SQ} {nn:List Bool}
theorem uK (hc:ak g) (hA:bw g ss):(bD g ss).length<=33280:=by
 have u:∀ q∈ss,q.2.2.length<=130:=λq z=>(hA.xv hc q z).2;have O:=y9 (g:=g) u ss.length;have G:=hA.dn.2.1
 show (vk g ss ss.length).length<=_
 omega
theorem TC (hg:gR (hp w) g x) (hb:jd g) (ht:gA (hp w)):ρ mB [.agg ⟨x.cells⟩] w λv w'=>∃ (ss:List SQ) (ask int f:Int) (nn:List Bool) (o:aa3) (c:Nat) (ds:List (Lq Int)),v = .tuple #[.slice o ds.length c,.int .i64 f]/\sV g ss ask int f/\(f = 0->j6 g nn)/\ds.map (·.2) = sZ g nn ss/\St w' (own 1 o ds.length c (ds.map bF) :: aC (ds.map (bB 1 iv)) :: all w):=by
 refine Au (cG hg λk1 w1 gw hg B=>?_);refine ⟨_,_,_,_,_,_,_,_,_,_,_,_,_,B.row (sub.refl _),(Lx hg hb (fo.mono gw ht)).mono ?_⟩;rintro _ w2 ⟨ss,ask,int,f,p,rfl,Z,g2,h0,hn⟩;refine ⟨_,_,rfl,ag (St.all w2) λa1 w3 h=>bj h σ λw4 h=>?_⟩;have R:Gr w2 w4:=h.aW;have W:au (hp w4) (aM a1) [.pointer p]:=ah 0 h.l;clear h;have u:=g2.trans R
 refine ae (λG=>?_) λG=>?_
 ·have G:f≠0:=by simpa using G
  have hz:ss = []:=by rcases Z with ⟨_,e,_⟩ | ⟨_,_,e,_⟩ | ⟨_,_,_,_,e⟩ <;> first | exact e | exact absurd e G
  subst hz;exact ⟨[],ask,int,f,[],none,0,[],rfl,Z,λh=>absurd h G,rfl,ay 1 ((St.flat (M:=[])).2 (St.here (gw.trans u)))⟩
 have G:f = 0:=by simpa using G
 subst G;obtain ⟨hc,hA⟩:=Z.HZ rfl;obtain ⟨k,nn,rfl,X,Y⟩:=h0 rfl;have Y:=Y.mono R;have B4:GB (hp w4) k1 x:=⟨λs=>B.c0 (sub.trans u s),λs=>B.c1 (sub.trans u s),λs=>B.c2 (sub.trans u s),λs=>B.c3 (sub.trans u s),λs=>B.c4 (sub.trans u s),λs=>B.row (sub.trans u s)⟩;have O:=uK hc hA;refine ⟨_,W.cell0 (sub.refl _),(MR (P:=λi z=>z∈cq (bD g ss).length (jr g nn ss i)) Y rfl O rfl λk4 w0 a0=>Oa Y hc hA X W B4 hg.t.1 rfl O a0).mono ?_⟩;rintro _ w5 ⟨o,c,ds,rfl,U,h⟩;have V:=U.1;refine ⟨_,_,_,rfl,ss,ask,int,0,nn,o,c,ds,by rw [V],Z,λ_=>X,U.list,?_⟩;rw [V];exact St.Mr h (bH (gw.trans u))
theorem TD {kw k1:Nat} {s:Int} (hw:Qz (hp w) g ss nn kw) (hnn:j6 g nn) (hc:ak g) (r1:au (hp w) (aM k1) [.pointer (some (aM kw))]) (hs0:0<=s) (hs1:s < g.T + g.N):ρ fP [.int .i64 s,.pointer (some (aM k1))] w λv w'=>v = .bool (!vV g nn s)/\Gr w w':=by
 obtain ⟨V,o,c,a,int,ol,cl,ka,kt,on,cn,kp,ma,mt,mp,W,hg,hs,rT,a5,hN,a1,a4,rN,_,_⟩:=hw.ex;obtain ⟨sT,sN,sP,_,_,_⟩:=hc.b9;have a3:g.T = V.tl:=hg.t.1;refine kQ ?_;intro Z hd;have z:Gr w Z:=Gr.drawn hd
 refine ⟨λu=>Gr Z u,Gr.refl _,_,λu s=>r1.cell0 (sub.trans z s),_,_,_,λu s=>W.cell0 (sub.trans z s),ae (λG=>⟨?_,z⟩) λG=>?_⟩
 ·have G:¬(g.T:Int)<=s:=by have:=YR G; omega
  unfold vV;rw [Zu G]; rfl
 have G:(g.T:Int)<=s:=by have:=YS G; omega
 obtain ⟨m,hm⟩ : ∃ m:Nat,s - (V.tl:Int) = m:=⟨(s - (V.tl:Int)).toNat,ω⟩;have O:m < g.N:=ω
 obtain ⟨bb,a0,U,Y,X⟩:=rN.cY O;refine ⟨_,λu s=>r1.cell0 (sub.trans z s),_,_,_,λu s=>W.cell (sub.trans z s) (j:=11) rfl,_,λu s=>r1.cell0 (sub.trans z s),_,_,_,λu s=>W.cell0 (sub.trans z s),⟨ω,ω⟩,?_⟩;rw [hm];refine aw Y O ⟨bb,λu s=>X _ (sub.trans z s),?_,z⟩;unfold vV;rw [Zp G,aaz,show s.toNat - g.T = m by omega];have R:aV nn m = bb:=j3 U;rw [R]
theorem Ly {kw l c:Nat} {a:aa3} {row:List Int} (hw:Qz (hp w) g ss nn kw) (hnn:j6 g nn) (hc:ak g) (hr:bh (hp w) row a l) (hl:l<=4611686018427387904) (hrow:∀ s∈row,0<=s/\s < g.T + g.N):ρ pZ [.pointer (some (aM kw)),.slice a l c] w λv w'=>v = .bool (B3 g nn row)/\Gr w w':=by
 refine nu (ag (St.all w) λk1 O h=>?_);have Y:Gr w O:=h.aW;have r1:au (hp O) (aM k1) [.pointer (some (aM kw))]:=ah 0 h.l;clear h;have hr:=hr.mono Y;have hw:=hw.mono Y;refine dA ?_
 have key:ρ fv [.slice a l c,.func (.func fP) #[] #[.pointer (some (aM k1))]] O λv w'=>(∃ n:Int,v = .int .i64 n/\(decide (0<=n) = !B3 g nn row))/\Gr O w':=by
  refine eE ?_;refine ⟨λn w'=>∃ j:Nat,n = j/\j<=l/\B3 g nn (row.take j) = true/\Gr O w',λn _=>l - n.toNat,⟨0,rfl,ω,rfl,Gr.refl _⟩,?_⟩;rintro _ n w2 ⟨j,rfl,hj,U,z⟩
  refine ae (λu=>?_) λu=>?_
  ·have u:j < l:=by have:=YR u; omega
   obtain ⟨y,ad,R,X,V⟩:=hr.cY u;have G:=YV R;refine aw X u ⟨y,V _ z,bS.2 ⟨rfl,(TD (hw.mono z) hnn hc (r1.mono z) (hrow y G).1 (hrow y G).2).mono ?_⟩⟩;rintro _ w3 ⟨rfl,Z⟩
   refine ⟨_,rfl,ae (λW=>⟨⟨_,rfl,?_⟩,z.trans Z⟩) λW=>⟨⟨ω,ω⟩,⟨j + 1,σ,ω,?_,z.trans Z⟩,bn u⟩⟩
   ·have hv:vV g nn y = false:=by simpa using W
    have:B3 g nn row = false:=by
     unfold B3;refine Bool.eq_false_iff.2 λh=>?_;have:=aaD.1 h y G;rw [hv] at this; cases this
    rw [this]; simp
   ·unfold B3 at U ⊢;rw [bI R,aaM,U];simpa using W
  ·have u:j = l:=by have:=YS u; omega
   subst u;rw [Zb (by have:=hr.1; omega)] at U;exact ⟨⟨_,rfl,by rw [U]; rfl⟩,z⟩
 refine key.mono ?_;rintro _ w2 ⟨⟨n,rfl,hn⟩,z⟩;refine ⟨n,rfl,_,rfl,?_,Y.trans z⟩;rw [hn,Bool.not_not]
theorem MS {J:Nat->aa4->Prop} {H:Hp} {kw l c:Nat} {a:aa3} {row:List Int} {q:Int} {fg:FuncId} {fc:List Value} (hw:Qz H g ss nn kw) (hc:ak g) (hA:bw g ss) (hr:bh H row a l) (hl:l<=4611686018427387904) (h0:0<=q) (h1:q < ss.length) (hF:Fn fg = true)
  (hJ0:J 0 w) (hJs:∀ k u,J k u->sub H (hp u)) (hst:∀ (k:Nat) (u:aa4) (s:Int),row[k]? = some s->J k u->ρ fg (.int .i64 (cK ss q (row.take k)) :: .int .i64 (k:Int) :: fc) u λv u'=>v = .tuple (Array.mk [])/\J (k + 1) u') :
  ρ uI [.pointer (some (aM kw)),.int .i64 q,.slice a l c,.func (.func fg) (Array.mk []) (Array.mk fc)] w λv w'=>v = .int .i64 (cK ss q row)/\J l w':=by
 obtain ⟨x',o,c',a',int,ol,cl,ka,kt,on,cn,kp,ma,mt,mp,rk,hg,hs,rT,a1,hN,V,W,rN,_,_⟩:=hw.ex;have a0:=hr.1;have Z:=hA.dn.2.1;have hn:∀ i s j,fy ss i s = some j->0<=j/\j < ss.length:=λi s j h=>iq hc hA h;refine qS ⟨λst z w'=>∃ k:Nat,z = k/\k<=l/\st = cK ss q (row.take k)/\J k w',λ_ z _=>l - z.toNat,⟨0,rfl,Y4 _,rfl,hJ0⟩,?_⟩;rintro _ _ _ w1 ⟨k,rfl,hk,rfl,O⟩;refine ae (λG=>?_) λG=>?_
 rotate_left
 ·have G:k = l:=by have:=YS G; omega
  subst G;exact ⟨by rw [Zb ω],O⟩
 have G:k < l:=by have:=YR G; omega
 have s1:=hJs _ _ O;obtain ⟨y,ad,R,X,U⟩:=hr.cY G;refine aw X G ⟨y,U _ s1,bS.2 ⟨hF,(hst k w1 y R O).mono ?_⟩⟩;rintro _ w2 ⟨rfl,O⟩;have Y:=hJs _ _ O;refine ⟨rfl,_,rk.cell Y (j:=10) rfl,(dG (κ:=av) V Y aQ (rfl:aj Ty _ = .map _ _) fl rfl rfl ⟨cK ss q (row.take k),y⟩).mono ?_⟩;rintro _ w3 ⟨rfl,rfl⟩;rw [W.all];have e:=QC hc hA h0 h1 R;have a3:=y_ hn (row.take (k + 1)) q h0 h1;refine ⟨_,rfl,⟨ω,ω⟩,⟨ω,ω⟩,⟨k + 1,σ,G,e,O⟩,bn G⟩
end
section
variable {g:af} {ss:List SQ} {nn:List Bool}
def JL (g:af) (nn:List Bool) (ss:List SQ) (t:av) (p:aP) (k j:Nat):Prop:=∃ (k' : Nat) (s:Int),k' < k/\p.right[k']? = some s/\xB g ss ⟨cK ss t.st (p.right.take k'),s⟩ = (j:Int) + 1/\B3 g nn (p.right.drop (k' + 1)) = true
def zg (g:af) (nn:List Bool) (ss:List SQ) (t:av) (ms:List Nat) (j:Nat):Prop:=∃ m∈ms,∃ p,g.prods[m]? = some p/\JL g nn ss t p p.right.length j
theorem JL.succ {t:av} {p:aP} {k j:Nat} {s:Int} (hs:p.right[k]? = some s):JL g nn ss t p (k + 1) j↔JL g nn ss t p k j\/(xB g ss ⟨cK ss t.st (p.right.take k),s⟩ = (j:Int) + 1/\B3 g nn (p.right.drop (k + 1)) = true):=by
 unfold JL
 constructor
 ·rintro ⟨z,s',O,u,G⟩
  by_cases e:z = k
  ·subst e; rw [hs] at u; cases u; exact .inr G
  ·exact .inl ⟨z,s',ω,u,G⟩
 ·rintro (⟨z,s',O,u⟩ | h)
  ·exact ⟨z,s',ω,u⟩
  ·exact ⟨k,s,ω,hs,h⟩
theorem zg.snoc {t:av} {ms:List Nat} {m j:Nat} {p:aP} (hp:g.prods[m]? = some p):zg g nn ss t (ms ++ [m]) j↔zg g nn ss t ms j\/JL g nn ss t p p.right.length j:=by
 unfold zg
 constructor
 ·rintro ⟨m',u,O,z,G⟩;rw [YY,Zl] at u
  rcases u with u | rfl
  ·exact .inl ⟨m',u,O,z,G⟩
  ·rw [hp] at z; cases z; exact .inr G
 ·rintro (⟨m',u,h⟩ | h)
  ·exact ⟨m',by simp [u],h⟩
  ·exact ⟨m,σ,p,hp,h⟩
theorem JM (hA:bw g ss) {t:av} {j:Nat}:xB g ss t = (j:Int) + 1↔(bD g ss)[j]? = some t:=by
 constructor
 ·intro h;obtain ⟨u,G,z⟩:=zd hA (t:=t) ω;have:u = j:=ω
  subst this; exact z
 ·exact Cz hA
theorem zg.iff (hA:bw g ss) {i j:Nat} {t:av} (ht:(bD g ss)[i]? = some t):zg g nn ss t (EI g g.prods.length t.sym) j↔zc g nn ss j i = true:=by
 unfold zc;rw [ht];simp only [aaf,Zo,Zd,Y7]
 constructor
 ·rintro ⟨m,U,p,hp,k,s,z,G,O,hv⟩;obtain ⟨h0,V,u,R⟩:=jt.1 U;rw [hp] at u; cases u;refine ⟨m,(YT.1 hp).1,ω,?_⟩;rw [hp];simp only [Zd,Y7,aaf,Zo];refine ⟨R,k,z,?_,hv⟩;rw [(JM hA).1 O,YX,G]; rfl
 ·rintro ⟨m,U,h0,h⟩;cases hp:g.prods[m]? with
  | none=>rw [hp] at h; cases h
  | some p =>
   rw [hp] at h;simp only [Zd,Y7,aaf,Zo] at h;obtain ⟨R,k,z,O,hv⟩:=h;have G:p.right[k]? = some p.right[k]:=YU z;refine ⟨m,jt.2 ⟨ω,p,hp,R⟩,p,hp,k,_,z,G,?_,hv⟩;rw [JM hA,O,YX,G]; rfl
def Ay (g:af) (nn:List Bool) (ss:List SQ) (i:Nat) (j:Nat) (z:Int):Prop:=∃ (i' : Nat) (t:av),i' < i/\z = i'/\(bD g ss)[i']? = some t/\zg g nn ss t (EI g g.prods.length t.sym) j
theorem Ay.succ {i j:Nat} {z:Int} {t:av} (ht:(bD g ss)[i]? = some t):Ay g nn ss (i + 1) j z↔Ay g nn ss i j z\/(z = i/\zg g nn ss t (EI g g.prods.length t.sym) j):=by
 unfold Ay
 constructor
 ·rintro ⟨G,O,U,u,R,V⟩
  by_cases e:G = i
  ·subst e; rw [ht] at R; cases R; exact .inr ⟨u,V⟩
  ·exact .inl ⟨G,O,ω,u,R,V⟩
 ·rintro (⟨G,O,U,u⟩ | ⟨U,u⟩)
  ·exact ⟨G,O,ω,u⟩
  ·exact ⟨i,t,ω,U,ht,u⟩
theorem Ay.all (hA:bw g ss) {j:Nat} {z:Int}:Ay g nn ss (bD g ss).length j z↔z∈cq (bD g ss).length (zc g nn ss j):=by
 rw [df]
 constructor
 ·rintro ⟨i,t,G,R,u,O⟩;exact ⟨i,R,G,(zg.iff hA u).1 O⟩
 ·rintro ⟨i,R,G,O⟩;have u:(bD g ss)[i]? = some (bD g ss)[i]:=YU G;exact ⟨i,_,G,R,u,(zg.iff hA u).2 O⟩
end
section
variable {w:aa4} {L:List az} {g:af} {x:GA} {ss:List SQ} {nn:List Bool}
theorem QD {H:Hp} {n kw kc kr ke ki k4 i k rl rc B:Nat} {ra:aa3} {row:List Int} {st s:Int} {P:Nat->Int->Prop} (hw:Qz H g ss nn kw) (hnn:j6 g nn) (hc:ak g) (hA:bw g ss) (r1:au H (aM kc) [.pointer (some (aM kw))]) (r2:au H (aM kr) [.slice ra rl rc]) (r3:au H (aM ke) [.func (.func bx) (Array.mk []) (Array.mk [.pointer (some (aM k4))])]) (r4:au H (aM ki) [.int .i64 (i:Int)])
  (hr:bh H row ra rl) (hlc:rl<=rc) (hl:rl<=4611686018427387904) (hrow:∀ s∈row,0<=s/\s < g.T + g.N) (hs:row[k]? = some s) (hn:(bD g ss).length = n) (hn2:n<=33280) (hB:B<=4611686018427) (hR:cj n P B k4 [has H] w) :
  ρ pY [.int .i64 st,.int .i64 (k:Int),.pointer (some (aM kc)),.pointer (some (aM kr)),.pointer (some (aM ke)),.pointer (some (aM ki))] w λv w'=>v = .tuple (Array.mk [])/\∃ B',B'<=B + 1/\cj n (λj z=>P j z\/z = i/\xB g ss ⟨st,s⟩ = (j:Int) + 1/\B3 g nn (row.drop (k + 1)) = true) B' k4 [has H] w':=by
 obtain ⟨x',o,c',a',int,ol,cl,ka,kt,on,cn,kp,ma,mt,mp,rk,hg,aa,rT,a5,hN,a8,a9,rN,_,_⟩:=hw.ex;have W:k < rl:=by have:=hr.1; have:=(YT.1 hs).1; omega
 have s0:=hR.sb;refine nq ?_;intro w1 hd;have hR:=hR.gr (Gr.drawn hd);have V:=hR.sb;obtain ⟨y,ad,U,a1,Z⟩:=hr.cY W;rw [hs] at U; cases U;refine ⟨λu=>Gr w1 u,Gr.refl _,_,λu g=>r1.cell0 (sub.trans V g),_,λu g=>rk.cell (sub.trans V g) (j:=9) rfl,_,_,_,λu g=>r2.cell0 (sub.trans V g),aw a1 W ⟨s,λu g=>Z _ (sub.trans V g),(dG (κ:=av) a5 V aQ (rfl:aj Ty _ = .map _ _) fl rfl rfl ⟨st,s⟩).mono ?_⟩⟩;rintro _ w6 ⟨rfl,e6⟩;rw [hN.all];refine ⟨_,rfl,by rw [e6]; exact Gr.refl _,?_⟩;intro w7 a6;have hR:=hR.gr (by rw [<- e6]; exact Gr.drawn a6:Gr w1 w7);have Y:=hR.sb;refine ⟨λu=>Gr w7 u,Gr.refl _,ae (λG=>?_) λG=>?_⟩
 rotate_left
 ·refine ⟨rfl,B,ω,hR.iff λj z _=>⟨.inl,λh=>h.elim id λh=>?_⟩⟩;have:=YS G;omega
 have G:=YR G;obtain ⟨u0,a4,a3⟩:=zd hA G;have a0:u0 < n:=by rw [<- hn]; exact (YT.1 a3).1
 have ek:(k:Int) + 1 = ((k + 1:Nat):Int):=ω
 refine ⟨_,λu g=>r1.cell0 (sub.trans Y g),_,_,_,λu g=>r2.cell0 (sub.trans Y g),⟨ω,ω⟩,?_⟩;rw [ek];refine ct ω hlc ((Ly (hw.mono Y) hnn hc ((hr.drop (k:=k + 1) (m:=rc) ω hlc).mono Y) ω λs hs=>hrow s (aac hs)).mono ?_);rintro _ a7 ⟨rfl,R⟩;have hR:=hR.gr R;have O:=hR.sb;refine ⟨_,rfl,R,ae (λX=>?_) λX=>?_⟩
 rotate_left
 ·exact ⟨rfl,B,ω,hR.iff λj z _=>⟨.inl,λh=>h.elim id λh=>by rw [h.2.2] at X; cases X⟩⟩
 have eu:xB g ss ⟨st,s⟩ - 1 = (u0:Int):=ω
 refine ⟨_,_,r3.cell0 O,⟨ω,ω⟩,_,r4.cell0 O,bS.2 ⟨rfl,?_⟩⟩;rw [eu];refine (QB (a:=u0) hR a0 ω).mono ?_;rintro _ ab ⟨rfl,hR⟩;refine ⟨rfl,rfl,B + 1,ω,hR.iff λj z _=>?_⟩
 constructor
 ·rintro (h | ⟨rfl,rfl⟩)
  ·exact .inl h
  ·exact .inr ⟨rfl,a4,X⟩
 ·rintro (h | ⟨rfl,h,_⟩)
  ·exact .inl h
  ·exact .inr ⟨ω,rfl⟩
theorem TE {n kw kc k1 k4:Nat} {w0:aa4} (hw:Qz (hp w) g ss nn kw) (hc:ak g) (hA:bw g ss) (hnn:j6 g nn) (hkc:au (hp w) (aM kc) [.pointer (some (aM kw))]) (B:GB (hp w) k1 x) (hgx:gR (hp w) g x) (hn:(bD g ss).length = n) (hn2:n<=33280)
  (hR:cj n (λ_ _=>False) 0 k4 (all w) w0) :
  ρ uJ [.func (.func bx) (Array.mk []) (Array.mk [.pointer (some (aM k4))]),.pointer (some (aM kc)),.pointer (some (aM k1))] w0 λv w'=>v = .tuple (Array.mk [])/\∃ B,B<=4611686018427387/\cj n (λj z=>z∈cq n (zc g nn ss j)) B k4 (all w) w':=by
 obtain ⟨x',o,c,a,int,ol,cl,ka,kt,on,cn,kp,ma,mt,mp,rk,hg,hs,rT,ch,hN,ck,cv,rN,b6,bd⟩:=hw.ex;rw [hn] at rk rT;have b5:=hA.xv hc;obtain ⟨sT,sN,sP,_,_,_⟩:=hc.b9;have c7:=hA.dn.2.1;have pl:=hgx.p.1;refine qW ?_;obtain ⟨oo,co,es,q1,q2,h⟩:=hR;refine ag h λke w1 h=>?_;have hR:cj n (λ_ _=>False) 0 k4 (aH ke [.func (.func bx) (Array.mk []) (Array.mk [.pointer (some (aM k4))])] :: all w) w1:=⟨oo,co,es,q1,q2,h.pick 4 [1,2,3,0]⟩;clear h q1 q2;obtain ⟨he,am,_,hR⟩:=hR.X8;have rE:au he (aM ke) [.func (.func bx) (Array.mk []) (Array.mk [.pointer (some (aM k4))])]:=ah 0 am;have R:sub (hp w) he:=aR 1 am;have s1:=sub.trans R hR.sb
 refine ⟨_,hkc.cell0 s1,_,_,_,rk.cell s1 (j:=8) rfl,λz w'=>∃ (i B:Nat),z = i/\i<=n/\B<=i * 30000/\cj n (Ay g nn ss i) B k4 [has he] w',λz _=>n - z.toNat,
  ⟨0,0,rfl,Y4 _,Y4 _,hR.iff λj z _=>⟨λh=>h.elim,λh=>by obtain ⟨_,_,h,_⟩:=h; omega⟩⟩,?_⟩
 clear hR s1;rintro _ _ w2 ⟨i,B0,rfl,hi,cm,hR⟩;have s2:=sub.trans R hR.sb;refine ae (λY=>?_) λY=>?_
 rotate_left
 ·have Y:i = n:=by have:=YS Y; omega
  subst Y;refine ⟨rfl,B0,ω,(hR.has R).iff λj z _=>?_⟩;rw [<- hn]; exact Ay.all hA
 have Y:i < n:=by have:=YR Y; omega
 obtain ⟨t,cu,ht,bP,rt⟩:=uC rT Y;obtain ⟨i0,q0,k0,e0,O,cy,cc,ci,aa⟩:=jq (YV ht);have ad:0<=t.st:=by rw [aa]; exact Zx _
 have ac:t.st < ss.length:=by rw [aa]; show (i0:Int) < _; omega
 obtain ⟨oo,co,es,q1,q2,h⟩:=hR;refine aq bP Y ⟨_,_,rt.at s2 rfl,ag h λki w3 h=>ag h λk5 w4 h=>bj (h.pick 2 [1,0]) σ λw5 h=>aU (h.pick 2 [1,0]) rfl (by simp [aG]) λw6 h=>?_⟩;have h:St w6 (aH k5 [.int .i64 t.st,.int .i64 t.sym] :: aH ki [.int .i64 (i:Int)] :: aH k4 [.slice oo n co] :: own 1 oo n co (es.map bF) :: aC (es.map (bB 1 iv)) :: [has he]):=h;have hR:cj n (Ay g nn ss i) B0 k4 (aH k5 [.int .i64 t.st,.int .i64 t.sym] :: aH ki [.int .i64 (i:Int)] :: [has he]) w6:=⟨oo,co,es,q1,q2,h.pick 5 [2,3,4,0,1]⟩;clear h q1 q2;intro w7 hd;have hR:=hR.gr (Gr.drawn hd);obtain ⟨O,a1,_,hR⟩:=hR.X8;have r5:au O (aM k5) [.int .i64 t.st,.int .i64 t.sym]:=ah 0 a1;have rI:au O (aM ki) [.int .i64 (i:Int)]:=ah 1 a1;have V:sub he O:=aR 2 a1;have s7:=hR.sb;have Z:=sub.trans R (sub.trans V s7);refine ⟨λu=>Gr w7 u,Gr.refl _,_,λu g=>hkc.cell0 (sub.trans Z g),_,λu g=>rk.cell (sub.trans Z g) (j:=12) rfl,_,λu g=>r5.cell (sub.trans s7 g) (j:=1) rfl,(dG (κ:=Int) b6 Z aQ (rfl:aj Ty _ = .map _ _) (ua.Dm bJ) rfl rfl t.sym).mono ?_⟩;rintro _ cz ⟨rfl,a7⟩;obtain ⟨ba,bc,bC,c5⟩:=bd t.sym;rw [bC];generalize hbs:EI g g.prods.length t.sym = bys at *;have d0:bys.length<=97:=by rw [<- hbs]; exact Zq (Cy _ _ _) sP
 refine ⟨_,_,_,rfl,by rw [a7]; exact Gr.refl _,λz w'=>∃ (m B:Nat),z = m/\m<=bys.length/\B<=B0 + m * 300/\cj n (λj z=>Ay g nn ss i j z\/z = i/\zg g nn ss t (bys.take m) j) B k4 [has O] w',λz _=>bys.length - z.toNat,
  ⟨0,B0,rfl,Y4 _,ω,by rw [a7]; exact hR.iff λj z _=>⟨.inl,λh=>h.elim id λh=>by obtain ⟨_,m,hm,_⟩:=h; simp at hm⟩⟩,?_⟩
 clear hR a7 hd s7 Z;rintro _ _ cx ⟨m,B1,rfl,hm,cp,hR⟩;have b7:=hR.sb;have W:=sub.trans R (sub.trans V b7);refine ae (λG=>?_) λG=>?_
 rotate_left
 ·have G:m = bys.length:=by have:=YS G; omega
  rw [G,Zi] at hR;refine ⟨⟨ω,ω⟩,⟨i + 1,B1,σ,Y,ω,(hR.has V).iff λj z _=>?_⟩,bn Y⟩;rw [Ay.succ ht,hbs]
 have G:m < bys.length:=by have:=YR G; omega
 obtain ⟨pm,a5⟩ : ∃ pm,bys[m]? = some pm:=⟨_,YU G⟩;obtain ⟨_,p,hp,b4⟩:=jt.1 (hbs ▸ YV a5);have a0:pm < x.pl:=by have:=(YT.1 hp).1; omega
 have be:=YV hp;obtain ⟨cC,q',cg,b2,b0⟩:=D6 hc hA ht hp b4;have cb:=Ga hc hA b2 hp b0;obtain ⟨bv,cB,ab,c6,bi⟩:=c5.cY G;rw [YW,a5] at ab;cases ab;obtain ⟨p',d1,c8,a9,bl,bA,ra,rl,rc,rfl,b1,a3⟩:=hgx.p.get a0;rw [hp] at a9; cases a9;have bb:=a3.1;refine aw c6 G ⟨_,bi _ W,_,_,_,B.c4 W,aq bl a0 ⟨_,_,_,bA.cell W (j:=1) rfl,?_⟩⟩;obtain ⟨oo,co,es,q1,q2,h⟩:=hR;refine ag h λkr cD h=>bj h σ λbG h=>?_;have hR:cj n (λj z=>Ay g nn ss i j z\/z = i/\zg g nn ss t (bys.take m) j) B1 k4 (aH kr [.slice ra rl rc] :: [has O]) bG:=⟨oo,co,es,q1,q2,h.pick 4 [1,2,3,0]⟩;clear h q1 q2;obtain ⟨a4,aI,_,hR⟩:=hR.X8;have rR:au a4 (aM kr) [.slice ra rl rc]:=ah 0 aI;have X:sub O a4:=aR 1 aI;have a6:=hR.sb;have U:=sub.trans R (sub.trans V X);have aT:=sub.trans U a6;have a8:∀ s∈p.right,0<=s/\s < g.T + g.N:=λs hs=>by have:=hc.sym be hs; omega
 refine ⟨_,hkc.cell0 aT,_,r5.cell0 (sub.trans X a6),_,_,_,rR.cell0 a6,(MS (J:=λk u=>∃ B',B'<=B1 + k/\cj n (λj z=>(Ay g nn ss i j z\/z = i/\zg g nn ss t (bys.take m) j)\/z = i/\JL g nn ss t p k j) B' k4 [has a4] u) (hw.mono U) hc hA (a3.mono U) ω ad ac rfl
  ⟨B1,ω,hR.iff λj z _=>⟨.inl,λh=>h.elim id λh=>by obtain ⟨_,_,_,h,_⟩:=h; omega⟩⟩ (λk u ⟨_,_,h⟩=>h.sb) λk u s hs ⟨B',bT,h⟩=>?_).mono ?_⟩
 ·have b5:k < p.right.length:=(YT.1 hs).1;refine (QD (hw.mono U) hnn hc hA (hkc.mono U) rR (rE.mono (sub.trans V X)) (rI.mono X) (a3.mono U) b1 ω a8 hs hn hn2 ω h).mono ?_;rintro _ u' ⟨rfl,B2,c9,h⟩;refine ⟨rfl,B2,ω,h.iff λj z _=>?_⟩;rw [JL.succ hs]
  constructor
  ·rintro ((h | h) | h)
   ·exact .inl h
   ·exact .inr ⟨h.1,.inl h.2⟩
   ·exact .inr ⟨h.1,.inr h.2⟩
  ·rintro (h | ⟨h,G | G⟩)
   ·exact .inl (.inl h)
   ·exact .inl (.inr ⟨h,G⟩)
   ·exact .inr ⟨h,G⟩
 rintro _ ca ⟨rfl,B',bT,hR⟩;have b3:bys.take (m + 1) = bys.take m ++ [pm]:=by rw [Y2,a5]; rfl
 refine ⟨_,rfl,⟨ω,ω⟩,⟨m + 1,B',σ,G,ω,(hR.has X).iff λj z _=>?_⟩,bn G⟩;rw [b3,zg.snoc hp,<- bb]
 constructor
 ·rintro ((h | h) | h)
  ·exact .inl h
  ·exact .inr ⟨h.1,.inl h.2⟩
  ·exact .inr ⟨h.1,.inr h.2⟩
 ·rintro (h | ⟨h,G | G⟩)
  ·exact .inl (.inl h)
  ·exact .inl (.inr ⟨h,G⟩)
  ·exact .inr ⟨h,G⟩
end
section
variable {κ α : Type} [DecidableEq κ] {sz:Nat} {f:List α->List Value} {s t:κ}
theorem QE {q:Lq α}:∀ {ps:List (κ × Lq α)},(ps.map Prod.fst).Nodup->dw s ps = some q->(mO sz f ps).Perm (bB sz f q :: mO sz f (ps.filter λe=>decide (e.1≠s)))
 | [],_,h=>by cases h
 | (a,u) :: m,hn,h=>by
  rw [ZF,ZR] at hn
  unfold dw at h
  by_cases e:s = a
  ·subst e
   rw [Y5 rfl] at h
   cases h
   have e2:((s,q) :: m).filter (λe=>decide (e.1≠s)) = m:=by
    rw [Z_,YZ σ]
    refine List.filter_eq_self.2 λx hx=>?_
    simp only [Y7]
    exact λh=>hn.1 (Zh.2 ⟨x,hx,h⟩)
   rw [e2]; exact .refl _
  ·rw [YZ e] at h
   have e2:((a,u) :: m).filter (λe=>decide (e.1≠s)) = (a,u) :: m.filter λe=>decide (e.1≠s):=by
    rw [Z_,Y5 (by simpa using aaw e)]
   rw [e2]
   exact (List.Perm.cons _ (QE hn.2 h)).trans (.swap _ _ _)
theorem JN (h:t≠s) (ps:List (κ × Lq α)):dw t (ps.filter λe=>decide (e.1≠s)) = dw t ps:=by
 induction ps with
 | nil=>rfl
 | cons x m ih =>
  obtain ⟨a,u⟩:=x;rw [Z_]
  by_cases e:a = s
  ·subst e;have z:dw t ((a,u) :: m) = dw t m:=by show (if t = a then some u else dw t m) = _; rw [YZ h]
   rw [YZ σ,ih,z]
  ·rw [Y5 (by simpa using e)]
   show (if t = a then some u else dw t (m.filter λe=>decide (e.1≠s))) = (if t = a then some u else dw t m)
   rw [ih]
end
section
variable {g:af} {ss:List SQ}
theorem Ob (i:Nat) (f:Nat->Bool):cq (i + 1) f = cq i f ++ if f i = true then [(i:Int)] else []:=by
 unfold cq;rw [Z1,Zs,Zg];congr 1;by_cases h:f i = true <;> simp [h]
theorem jV {q m i:Nat} {t:av} (ht:(bD g ss)[i]? = some t):dM g ss q m i = true↔m∈EI g g.prods.length t.sym/\∃ p,g.prods[m]? = some p/\cK ss t.st p.right = q:=by
 rw [jt];unfold dM;rw [ht];cases hp:g.prods[m]? with
 | none=>simp
 | some p =>
  simp only [Zd,Y7,Option.some.injEq]
  constructor
  ·rintro ⟨⟨O,u⟩,z⟩;exact ⟨⟨ω,p,rfl,u⟩,p,rfl,z⟩
  ·rintro ⟨⟨O,R,rfl,u⟩,G,rfl,z⟩;exact ⟨⟨ω,u⟩,z⟩
def Yw (g:af) (ss:List SQ) (ps:List (av × Lq Int)) (i:Nat) (t:av) (ms:List Nat):Prop:=(ps.map Prod.fst).Nodup/\(∀ k,(gZ k ps).length<=i + 1)/\∀ q m:Nat,gZ ⟨(q:Int),(m:Int)⟩ ps = cq i (dM g ss q m) ++ if m∈ms/\(∃ p,g.prods[m]? = some p/\cK ss t.st p.right = q) then [(i:Int)] else []
abbrev iK:=(Int × Int) × Lq Int
def QF (b:iK):List Value:=[.int .i64 b.1.1,.int .i64 b.1.2,bF b.2]
def c_ (bs:List iK):List Value:=bs.flatMap QF
def oQ (bs:List iK):List az:=bs.map λb=>bB 1 iv b.2
def Lz (b:iK):js:=⟨b.1.1,b.1.2,b.2.2⟩
theorem CC (bs:List iK):(c_ bs).length = bs.length * 3:=om (f:=QF) (n:=3) (λ_=>rfl) bs
theorem CD (xs ys:List iK):c_ (xs ++ ys) = c_ xs ++ c_ ys:=ZB
theorem Az (g:af) (ss:List SQ) (q:Nat):∀ j,(dH g ss q j).length<=j
 | 0=>by simp [dH]
 | j + 1=>by
  have:=Az g ss q j
  rw [xC,Y0]
  have h2:(uH g ss q j).length<=1:=by unfold uH; split <;> simp
  omega
def B5 (g:af) (ss:List SQ) (q:Nat):List js:=(List.range q).flatMap λq=>dH g ss q g.prods.length
theorem vn (g:af) (ss:List SQ) (q:Nat):B5 g ss (q + 1) = B5 g ss q ++ dH g ss q g.prods.length:=by unfold B5; rw [Z1,ZB]; simp
theorem uL (g:af) (ss:List SQ):∀ q,(B5 g ss q).length<=q * g.prods.length
 | 0=>by simp [B5]
 | q + 1=>by
  have:=uL g ss q
  have:=Az g ss q g.prods.length
  rw [vn,Y0,aao]
  omega
end
section
variable {w:aa4} {L:List az} {g:af} {x:GA} {ss:List SQ} {nn:List Bool}
theorem LA (hg:gR (hp w) g x) (hb:jd g) (ht:gA (hp w)):ρ ju [.agg ⟨x.cells⟩] w λv w'=>∃ (ss:List SQ) (ask int f:Int) (nn:List Bool) (o:aa3) (c:Nat) (ds:List (Lq Int)),v = .tuple #[.slice o ds.length c,.int .i64 f]/\sV g ss ask int f/\(f = 0->j6 g nn)/\ds.map (·.2) = vW g nn ss/\St w' (own 1 o ds.length c (ds.map bF) :: aC (ds.map (bB 1 iv)) :: all w):=by
 refine v_ (cG hg λk1 w1 gw hg B=>?_);refine ⟨_,_,_,_,_,_,_,_,_,_,_,_,_,B.row (sub.refl _),(Lx hg hb (fo.mono gw ht)).mono ?_⟩;rintro _ w2 ⟨ss,ask,int,f,p,rfl,Z,g2,h0,hn⟩;refine ⟨_,_,rfl,ag (St.all w2) λa1 w3 h=>bj h σ λw4 h=>?_⟩;have R:Gr w2 w4:=h.aW;have W:au (hp w4) (aM a1) [.pointer p]:=ah 0 h.l;clear h;have u:=g2.trans R
 refine ae (λG=>?_) λG=>?_
 ·have G:f≠0:=by simpa using G
  have hz:ss = []:=by rcases Z with ⟨_,e,_⟩ | ⟨_,_,e,_⟩ | ⟨_,_,_,_,e⟩ <;> first | exact e | exact absurd e G
  subst hz;exact ⟨[],ask,int,f,[],none,0,[],rfl,Z,λh=>absurd h G,rfl,ay 1 ((St.flat (M:=[])).2 (St.here (gw.trans u)))⟩
 have G:f = 0:=by simpa using G
 subst G;obtain ⟨hc,hA⟩:=Z.HZ rfl;obtain ⟨k,nn,rfl,X,Y⟩:=h0 rfl;have Y:=Y.mono R;have B4:GB (hp w4) k1 x:=⟨λs=>B.c0 (sub.trans u s),λs=>B.c1 (sub.trans u s),λs=>B.c2 (sub.trans u s),λs=>B.c3 (sub.trans u s),λs=>B.c4 (sub.trans u s),λs=>B.row (sub.trans u s)⟩;have O:=uK hc hA;refine ⟨_,W.cell0 (sub.refl _),(MR (P:=λi z=>z∈cq (bD g ss).length (zc g nn ss i)) Y rfl O rfl λk4 w0 a0=>TE Y hc hA X W B4 (hg.mono u) rfl O a0).mono ?_⟩;rintro _ w5 ⟨o,c,ds,rfl,U,h⟩;have V:=U.1;refine ⟨_,_,_,rfl,ss,ask,int,0,nn,o,c,ds,by rw [V],Z,λ_=>X,U.list,?_⟩;rw [V];exact St.Mr h (bH (gw.trans u))
theorem LB (hg:gR (hp w) g x) (hb:jd g) (htb:gA (hp w)):ρ ze [.agg ⟨x.cells⟩] w λv w'=>∃ (ss:List SQ) (ask int f:Int) (o:aa3) (c:Nat) (ds:List iK),v = .tuple #[.slice o ds.length c,.int .i64 f]/\sV g ss ask int f/\ds.map Lz = qQ g ss/\St w' (own 3 o ds.length c (c_ ds) :: aC (oQ ds) :: all w):=by
 refine vY (cG hg λk1 w1 gw hg B=>?_);refine ⟨_,_,_,_,_,_,_,_,_,_,_,_,_,B.row (sub.refl _),(Lx hg hb (fo.mono gw htb)).mono ?_⟩;rintro _ Y ⟨ss,ask,int,f,p,rfl,hR,a1,h0,hn⟩
 refine ⟨_,_,rfl,ae (λO=>?_) λO=>?_⟩
 ·have O:f≠0:=by simpa using O
  have hz:ss = []:=by rcases hR with ⟨_,e,_⟩ | ⟨_,_,e,_⟩ | ⟨_,_,_,_,e⟩ <;> first | exact e | exact absurd e O
  subst hz;exact ⟨[],ask,int,f,none,0,[],rfl,hR,rfl,ay 3 ((St.flat (M:=[])).2 (St.here (gw.trans a1)))⟩
 have O:f = 0:=by simpa using O
 subst O;obtain ⟨hc,hA⟩:=hR.HZ rfl;obtain ⟨kw,nn,rfl,eA,hw⟩:=h0 rfl;have eD:=uK hc hA;obtain ⟨x',o,c,a,d8,ol,cl,ka,kt,on,cn,kp,ma,mt,mp,rk,eB,hs,rT,e8,hN,eg,et,rN,cc,ci⟩:=hw.ex;have e9:=hA.xv hc;obtain ⟨sT,sN,sP,_,_,_⟩:=hc.b9;have d9:=hA.dn.2.1;have pl:=hg.p.1;have cp:=hg.mono a1;refine nD (St.all Y) λkb w3 h=>?_;have h:=dV (κ:=av) h;have d2:Gr Y w3:=aR 1 h.l
 refine ⟨_,_,_,rk.cell d2 (j:=8) rfl,λz w'=>∃ (i:Nat) (ps:List (av × Lq Int)),z = i/\i<=(bD g ss).length/\Yw g ss ps i ⟨0,0⟩ []/\St w' (mapA kb (mV ps) :: aC (mO 1 iv ps) :: all Y),λz _=>(bD g ss).length - z.toNat,
  ⟨0,[],rfl,Y4 _,⟨σ,λk=>Y4 _,λq m=>by simp [gZ,dw,cq]⟩,?_⟩,?_⟩
 ·exact ((St.flat (M:=[])).2 h).swap
 clear h;rintro _ _ w4 ⟨i,ps,rfl,hi,G,h⟩;have s4:sub (hp Y) (hp w4):=aR 2 h.l
 refine ae (λO=>?_) λO=>?_
 ·have O:i < (bD g ss).length:=by have:=YR O; omega
  obtain ⟨t,ei,ht,cD,rt⟩:=uC rT O;obtain ⟨i0,q0,k0,e0,ec,ey,dF,ef,bd⟩:=jq (YV ht);have bG:0<=t.st:=by rw [bd]; exact Zx _
  have bC:t.st < ss.length:=by rw [bd]; show (i0:Int) < _; omega
  refine aq cD O ⟨_,_,rt.at s4 rfl,ag h λac w5 h=>aU h rfl (by simp [aG]) λw6 h=>?_⟩;intro w7 hd;have h:=h.eq (aE hd);have s7:sub (hp Y) (hp w7):=aR 3 h.l;have a5:au (hp w7) (aM ac) [.int .i64 t.st,.int .i64 t.sym]:=ah 0 h.l;refine ⟨λu=>Gr w7 u,Gr.refl _,_,λu g=>rk.cell (sub.trans s7 g) (j:=12) rfl,_,λu g=>a5.cell g (j:=1) rfl,(dG (κ:=Int) cc s7 aQ (rfl:aj Ty _ = .map _ _) (ua.Dm bJ) rfl rfl t.sym).mono ?_⟩;rintro _ eo ⟨rfl,aI⟩;obtain ⟨ba,bc,cB,d6⟩:=ci t.sym;rw [cB]
  have c8:(EI g g.prods.length t.sym).Nodup:=by
   unfold EI OO;exact (List.nodup_range.filter _).filter _
  have b6:∀ m,m∈EI g g.prods.length t.sym↔0 < m/\∃ p,g.prods[m]? = some p/\p.left = t.sym:=λm=>jt;have bP:∀ q m:Nat,dM g ss q m i = true↔m∈EI g g.prods.length t.sym/\∃ p,g.prods[m]? = some p/\cK ss t.st p.right = q:=λq m=>jV ht;generalize U:EI g g.prods.length t.sym = bys at *;have b1:bys.length<=97:=by rw [<- U]; exact Zq (Cy _ _ _) sP
  refine ⟨_,_,_,rfl,by rw [aI]; exact Gr.refl _,λz w'=>∃ (M:Nat) (ps:List (av × Lq Int)),z = M/\M<=bys.length/\Yw g ss ps i t (bys.take M)/\St w' (mapA kb (mV ps) :: aC (mO 1 iv ps) :: aH ac [.int .i64 t.st,.int .i64 t.sym] :: all Y),λz _=>bys.length - z.toNat,
   ⟨0,ps,rfl,Y4 _,⟨G.1,G.2.1,λq m=>by rw [G.2.2 q m]; simp⟩,by rw [aI]; exact h.pick 3 [1,2,0]⟩,?_⟩
  clear h G aI hd a5 s7;rintro _ _ d0 ⟨M,ps,rfl,hM,G,h⟩;have cu:sub (hp Y) (hp d0):=aR 3 h.l;refine ae (λR=>?_) λR=>?_
  rotate_left
  ·have R:M = bys.length:=by have:=YS R; omega
   rw [R,Zi] at G;refine ⟨⟨ω,ω⟩,⟨i + 1,ps,σ,O,⟨G.1,λk=>by have:=G.2.1 k; omega,λq m=>?_⟩,h.pick 3 [0,1]⟩,bn O⟩;rw [G.2.2 q m,Ob]
   by_cases e:dM g ss q m i = true
   ·rw [Y5 e,Y5 ((bP q m).1 e)]; simp
   ·rw [YZ e,YZ (λh=>e ((bP q m).2 h))]; simp
  have R:M < bys.length:=by have:=YR R; omega
  obtain ⟨pm,a6⟩ : ∃ pm,bys[M]? = some pm:=⟨_,YU R⟩;obtain ⟨_,p,X,cb⟩:=(b6 pm).1 (YV a6);have aa:pm < x.pl:=by have:=(YT.1 X).1; omega
  obtain ⟨d3,q',c9,b5,ab⟩:=D6 hc hA ht X cb;have dl:=Ga hc hA b5 X ab;obtain ⟨bv,eC,be,d7,cm⟩:=d6.cY R;rw [YW,a6] at be;cases be;obtain ⟨p',eK,dc,bb,cx,cy,ra,rl,rc,rfl,dt,b2⟩:=cp.p.get aa;rw [X] at bb; cases bb;have ek:=b2.1;obtain ⟨jw,_,bl,_,_⟩:=qO hc hA X p.right.length 0 ω d3 q' b5 (by simpa using ab);rw [List.drop_zero,<- c9] at bl;refine aw d7 R ⟨_,cm _ cu,?_⟩;intro a7 hd;have h:=h.eq (aE hd);have ad:sub (hp Y) (hp a7):=aR 3 h.l;have a5:au (hp a7) (aM ac) [.int .i64 t.st,.int .i64 t.sym]:=ah 2 h.l
  refine ⟨λu=>Gr a7 u,Gr.refl _,_,λu g=>a5.cell0 g,_,_,_,λu g=>B.c4 (sub.trans a1 (sub.trans ad g)),aq cx aa ⟨_,_,_,λu g=>cy.cell (sub.trans ad g) (j:=1) rfl,(MS (J:=λk u=>hp u = hp a7) (H:=hp Y) hw hc hA b2 ω bG bC rfl rfl (λk u e=>by rw [e]; exact ad) λk u s hs e=>?_).mono ?_⟩⟩
  ·exact qU ⟨rfl,e⟩
  rintro _ e6 ⟨rfl,c5⟩;have h:=h.eq c5;refine ⟨_,rfl,Gr.of_eq c5,ag h λe7 ea h=>aU h rfl (by simp [aG]) λem h=>?_⟩;refine ⟨_,_,(ah 0 h.l).at (sub.refl _) rfl,ag h λe5 eu h=>?_⟩;refine (map_take (κ:=av) aQ (rfl:aj Ty _ = .map _ _) fl rfl rfl (h.pick 3 [2,0,1]) ⟨cK ss t.st p.right,(pm:Int)⟩).mono ?_;rintro _ ez ⟨n,rfl,h⟩;obtain ⟨q,M',e1,e2,hq,back⟩:=qB rfl (h.pick 4 [3,0,1,2]) ⟨cK ss t.st p.right,(pm:Int)⟩;have ep:q.2.length<=i + 1:=by rw [e2]; exact G.2.1 _
  rw [e1] at hq ⊢;refine ⟨_,_,_,_,rfl,?_⟩;refine (aL (us:=iv q.2) aQ (rfl:aj Ty _ = .slice _) (rfl:aj Ty _ = .slice _) rfl rfl rfl (hq.pick 5 [3,0,1,2,4]) rfl (by simp [aG]) (by show (q.2.length + 1) * 8<=_; omega) ω).mono ?_;rintro _ ej ⟨o',c',rfl,h⟩;refine ⟨_,_,_,rfl,(JH (h.pick 5 [3,0,2]) _).mono ?_⟩;rintro _ dk h;rw [vm] at h;have h:=xp back (q.2 ++ [(i:Int)]) σ (by simp [iv]) h;have ca:bys.take (M + 1) = bys.take M ++ [pm]:=by rw [Y2,a6]; rfl
  have a9:pm∉bys.take M:=λhm=>by
   obtain ⟨M2,aT⟩:=Zr hm;have d5:=(YT.1 aT).1;rw [Zj] at d5;rw [ZT,Y5 ω] at aT;have:=(List.getElem?_inj (i:=M2) (j:=M) ω c8).1 (by rw [aT,a6]);omega
  refine ⟨⟨ω,ω⟩,⟨M + 1,kO ⟨cK ss t.st p.right,(pm:Int)⟩ ((o',c'),q.2 ++ [(i:Int)]) ps,σ,R,⟨Hj _ G.1,λk=>?_,λq2 m=>?_⟩,?_⟩,bn R⟩
  ·rw [kA]
   by_cases e:k = (⟨cK ss t.st p.right,(pm:Int)⟩ : av)
   ·rw [Y5 e]
    show (q.2 ++ [(i:Int)]).length<=i + 1
    have h5:q.2.length<=i:=by
     rw [e2];rw [bl,G.2.2 jw pm,YZ (λh=>a9 h.1),Zm];exact kF _ _
    rw [Y0,aaT]; omega
   ·rw [YZ e]; exact G.2.1 k
  ·rw [kA,ca]
   by_cases e:(⟨(q2:Int),(m:Int)⟩ : av) = ⟨cK ss t.st p.right,(pm:Int)⟩
   ·rw [Y5 e];have e3:(q2:Int) = cK ss t.st p.right:=congrArg av.st e;have e4:m = pm:=by have:(m:Int) = pm:=congrArg av.sym e; omega
    subst e4
    show q.2 ++ [(i:Int)] = _
    rw [e2,<- e,G.2.2 q2 m,YZ (λh=>a9 h.1),Zm,Y5 ⟨σ,p,X,e3.symm⟩]
   ·rw [YZ e,G.2.2 q2 m];congr 1
    by_cases h5:m∈bys.take M/\∃ p,g.prods[m]? = some p/\cK ss t.st p.right = q2
    ·rw [Y5 h5,Y5 ⟨by simp [h5.1],h5.2⟩]
    ·rw [YZ h5,YZ ?_];rintro ⟨h6,p2,h7,h8⟩;rw [YY,Zl] at h6
     rcases h6 with h6 | rfl
     ·exact h5 ⟨h6,p2,h7,h8⟩
     ·rw [X] at h7; cases h7;exact e (by rw [<- h8])
  ·exact h
 have O:i = (bD g ss).length:=by have:=YS O; omega
 subst O;have bT:∀ q m:Nat,gZ ⟨(q:Int),(m:Int)⟩ ps = cq (bD g ss).length (dM g ss q m):=λq m=>by rw [G.2.2 q m]; simp
 have cg:=G.1;clear G;have c6:∀ q,q<=ss.length->q * g.prods.length<=256 * 97:=λq hq=>aaG ω sP
 refine ⟨_,_,_,rk.cell s4 (j:=5) rfl,λo n c z w'=>∃ (q:Nat) (bs:List iK) (W:List (av × Lq Int)),z = q/\q<=ss.length/\n = bs.length/\bs.map Lz = B5 g ss q/\(W.map Prod.fst).Nodup/\(∀ k:av,(q:Int)<=k.st->dw k W = dw k ps)/\St w' (own 3 o n c (c_ bs) :: aC (oQ bs) :: mapA kb (mV ps) :: aC (mO 1 iv W) :: all Y),λ_ _ _ z _=>ss.length - z.toNat,
  ⟨0,[],ps,rfl,Y4 _,rfl,rfl,cg,λ_ _=>rfl,ay 3 ((St.flat (M:=[])).2 h)⟩,?_⟩
 clear h s4;rintro _ eb _ eI _ cz ⟨q,bs,W,rfl,hq,rfl,U,Z,a0,h⟩;have b4:sub (hp Y) (hp cz):=aR 4 h.l
 have b1:bs.length<=24832:=by
  have O:=uL g ss q;rw [<- U,Y3] at O;have:=c6 q hq;omega
 refine ae (λO=>?_) λO=>?_
 rotate_left
 ·have O:q = ss.length:=by have:=YS O; omega
  subst O;refine iJ (fL (dI h) ⟨_,_,_,rfl,ss,ask,int,0,_,_,bs,rfl,hR,U,?_⟩);have h:=fK h;exact St.Mr (h.pick 5 [0,1,4]) (bH (gw.trans a1))
 have O:q < ss.length:=by have:=YR O; omega
 refine ⟨_,_,_,B.c4 (sub.trans a1 b4),λo n c z w'=>∃ (m:Nat) (bs:List iK) (W:List (av × Lq Int)),z = m/\m<=x.pl/\n = bs.length/\bs.map Lz = B5 g ss q ++ dH g ss q m/\(W.map Prod.fst).Nodup/\(∀ k:av,((q:Int) < k.st\/(k.st = q/\(m:Int)<=k.sym))->dw k W = dw k ps)/\St w' (own 3 o n c (c_ bs) :: aC (oQ bs) :: mapA kb (mV ps) :: aC (mO 1 iv W) :: all Y),λ_ _ _ z _=>x.pl - z.toNat,
  ⟨0,bs,W,rfl,Y4 _,rfl,by rw [U]; simp [dH],Z,λk V=>a0 k (by rcases V with V | V <;> omega),h⟩,?_⟩
 clear h b4 U Z a0 b1;rintro _ c7 _ bi _ ck ⟨m,bs,W,rfl,hm,rfl,U,Z,a0,h⟩
 have b1:bs.length<=25000:=by
  have O:=uL g ss q;have R:=Az g ss q m;have h3:=congrArg List.length U;rw [Y3,Y0] at h3;have:=c6 q hq;omega
 refine ae (λR=>?_) λR=>?_
 rotate_left
 ·have R:m = x.pl:=by have:=YS R; omega
  subst R;refine ⟨⟨ω,ω⟩,⟨q + 1,bs,W,σ,O,rfl,?_,Z,λk V=>a0 k (.inl ω),h⟩,bn O⟩;rw [U,vn,pl]
 have R:m < x.pl:=by have:=YR R; omega
 have b3:=bT q m;refine (nH (κ:=av) aQ (rfl:aj Ty _ = .map _ _) fl rfl rfl (h.pick 3 [2]) ⟨(q:Int),(m:Int)⟩).mono ?_;rintro _ b0 ⟨rfl,b7⟩;rw [g_];have a8:dH g ss q (m + 1) = dH g ss q m ++ uH g ss q m:=xC g ss q m
 have a3:cq (bD g ss).length (dM g ss q m) = []->ax ((m:Int) + 1)/\(∃ (m' : Nat) (a4 : List iK) (am : List (av × Lq Int)),(m:Int) + 1 = m'/\m'<=x.pl/\bs.length = a4.length/\a4.map Lz = B5 g ss q ++ dH g ss q m'/\(am.map Prod.fst).Nodup/\(∀ k:av,((q:Int) < k.st\/(k.st = q/\(m' : Int)<=k.sym))->dw k am = dw k ps)/\St b0 (own 3 c7 bs.length bi (c_ a4) :: aC (oQ a4) :: mapA kb (mV ps) :: aC (mO 1 iv am) :: all Y))/\x.pl - ((m:Int) + 1).toNat < x.pl - (m:Int).toNat:=λe=>by
  refine ⟨⟨ω,ω⟩,⟨m + 1,bs,W,σ,R,rfl,?_,Z,λk V=>a0 k (V.elim .inl λV=>.inr ⟨V.1,by have:=V.2; omega⟩),by rw [b7]; exact h⟩,bn R⟩;rw [a8,U];unfold uH;rw [Y5 e]; simp
 cases hgq:dw (⟨(q:Int),(m:Int)⟩ : av) ps with
 | none =>
  have e:cq (bD g ss).length (dM g ss q m) = []:=by rw [<- b3]; unfold gZ; rw [hgq]
  exact ⟨_,_,_,rfl,yB σ (a3 e)⟩
 | some r =>
  have er:r.2 = cq (bD g ss).length (dM g ss q m):=by rw [<- b3]; unfold gZ; rw [hgq]
  refine ⟨_,_,_,rfl,ae (λh3=>?_) λh3=>?_⟩
  rotate_left
  ·refine a3 ?_;rw [<- er];exact Y9 (by have:=YS h3; omega)
  have h3:0 < r.2.length:=by have:=YR h3; omega
  have d1:cq (bD g ss).length (dM g ss q m)≠[]:=by rw [<- er]; intro e; rw [e] at h3; simp at h3
  have d4:dw (⟨(q:Int),(m:Int)⟩ : av) W = some r:=by rw [a0 _ (.inr ⟨rfl,Int.le_refl _⟩)]; exact hgq
  have h:=h.eq (by rw [b7] : hp b0 = hp ck);have h4:=(St.flat.1 (h.pick 4 [3,0,1,2])).perm ((QE (sz:=1) (f:=iv) Z d4).append_right _);have h:St b0 (own 1 r.1.1 r.2.length r.1.2 (iv r.2) :: aC (mO 1 iv (W.filter λe=>decide (e.1≠(⟨(q:Int),(m:Int)⟩ : av)))) :: own 3 c7 bs.length bi (c_ bs) :: aC (oQ bs) :: mapA kb (mV ps) :: all Y):=(St.flat.2 (h4.perm ZQ.symm)).swap;clear h4;refine dK (fL (dI h) ⟨_,_,_,rfl,?_⟩);have h:=fK h;refine ag h λeG el h=>?_;have z1:(bs.length + 1) * 40<=140737488355328/\bs.length < 9223372036854775807:=ω
  refine (aL (us:=c_ bs) aQ (rfl:aj Ty _ = .slice _) (rfl:aj Ty _ = .slice _) rfl rfl rfl (h.pick 6 [0,3,1,2,4,5]) rfl (by simp [aG]) z1.1 z1.2).mono ?_;rintro _ cC ⟨ch,cv,rfl,h⟩;have bA:Lz (((q:Int),(m:Int)),((fT r.1.1 0 r.2.length 1,r.2.length),r.2)) = ⟨(q:Int),(m:Int),cq (bD g ss).length (dM g ss q m)⟩:=by unfold Lz; rw [er]
  refine ⟨_,_,_,rfl,⟨ω,ω⟩,⟨m + 1,bs ++ [(((q:Int),(m:Int)),((fT r.1.1 0 r.2.length 1,r.2.length),r.2))],W.filter λe=>decide (e.1≠(⟨(q:Int),(m:Int)⟩ : av)),σ,R,σ,?_,(Z.sublist (List.Sublist.map _ List.filter_sublist)),λk V=>?_,?_⟩,bn R⟩
  ·rw [Zg,U,a8];unfold uH;rw [YZ d1];simp [bA]
  ·rw [JN (s:=(⟨(q:Int),(m:Int)⟩ : av)) ?_]
   ·exact a0 k (V.elim .inl λV=>.inr ⟨V.1,by have:=V.2; omega⟩)
   ·intro e;subst e
    rcases V with V | V
    ·exact absurd V (by show ¬(q:Int) < q; omega)
    ·have:=V.2; simp at this; omega
  ·have h:=St.snoc (h.pick 6 [2,4,0,5,3]);have h3:St cC (own 3 ch (bs.length + 1) cv (c_ bs ++ [.int .i64 (q:Int),.int .i64 (m:Int),.slice (fT r.1.1 0 r.2.length 1) r.2.length r.2.length]) :: aC (oQ bs ++ [own 1 (fT r.1.1 0 r.2.length 1) r.2.length r.2.length (iv r.2)]) :: mapA kb (mV ps) :: aC (mO 1 iv (W.filter λe=>decide (e.1≠(⟨(q:Int),(m:Int)⟩ : av)))) :: all Y):=h.pick 2 [1,0];rw [CD,show oQ (bs ++ [(((q:Int),(m:Int)),((fT r.1.1 0 r.2.length 1,r.2.length),r.2))]) = oQ bs ++ [own 1 (fT r.1.1 0 r.2.length 1) r.2.length r.2.length (iv r.2)] by unfold oQ; rw [Zg]; rfl];exact h3
end
instance:qk js:={ n:=3,rd:=λh x vs=>∃ (a:aa3) (c:Nat),vs = [.int .i64 x.st,.int .i64 x.prod,.slice a x.tr.length c]/\bh h x.tr a x.tr.length,mono:=λs ⟨a,c,e,r⟩=>⟨a,c,e,r.mono s⟩,len:=λ⟨_,_,e,_⟩=>by rw [e]; rfl }
section
variable {w:aa4} {L:List az} {o:aa3} {c:Nat}
theorem VR {ds:List (Lq Int)} (h:St w (own 1 o ds.length c (ds.map bF) :: aC (ds.map (bB 1 iv)) :: L)):bh (hp w) (ds.map (·.2)) o ds.length:=by
 have R:=dJ 0 h.l;refine ⟨σ,λi x hi=>?_⟩;rw [YW] at hi;cases hd:ds[i]? with
 | none=>rw [hd] at hi; cases hi
 | some p =>
  rw [hd] at hi;simp only [ZY,Option.some.injEq] at hi;subst hi;have hA:(ds.map (bB 1 iv))[i]? = some (bB 1 iv p):=by rw [YW,hd]; rfl
  have G:=St.out (h.pick 2 [1]) hA;have z:p.2.length<=p.1.2:=dI G;have V:bh (hp w) p.2 p.1.1 p.2.length:=eO rfl (dJ 0 G.l)
  rcases R with e | ⟨O,e,U⟩
  ·rw [List.map_eq_nil_iff] at e; subst e; simp at hd
  ·refine ⟨O,[bF p],e,λj v u=>?_,p.1.1,p.2.length,p.1.2,rfl,z,V⟩;cases j with
   | zero =>
    simp at u; subst u;rw [add_add,aN];have:=U i (bF p) (by rw [YW,hd]; rfl);rw [show i * qk.n (List Int) + 0 = i from by show i * 1 + 0 = i; omega];exact this
   | succ j=>simp at u
theorem QG {h:Hp} {xss:List (List Int)} {i l:Nat} (r:bh h xss o l) (hi:i < l):∃ x ad a c,xss[i]? = some x/\o = some ad/\(∀ u:aa4,sub h (hp u)->u.cell? (ad.add i) = some (.slice a x.length c))/\bh h x a x.length:=by
 obtain ⟨x,ad,vs,G,R,O,a,X,W,rfl,U,z⟩:=r.get hi;have V:=z.1;subst V;refine ⟨x,ad,a,W,G,R,λu s=>?_,z⟩;have:=O.cell0 s;rwa [aN,show i * qk.n (List Int) = i from Z4 i] at this
theorem X9 {ds:List iK} (h:St w (own 3 o ds.length c (c_ ds) :: aC (oQ ds) :: L)):bh (hp w) (ds.map Lz) o ds.length:=by
 have z:=dJ 0 h.l;refine ⟨σ,λi x hi=>?_⟩;rw [YW] at hi;cases hd:ds[i]? with
 | none=>rw [hd] at hi; cases hi
 | some p =>
  rw [hd] at hi;simp only [ZY,Option.some.injEq] at hi;subst hi;have hA:(oQ ds)[i]? = some (bB 1 iv p.2):=by unfold oQ; rw [YW,hd]; rfl
  have G:=St.out (h.pick 2 [1]) hA;have U:bh (hp w) p.2.2 p.2.1.1 p.2.2.length:=eO rfl (dJ 0 G.l)
  rcases z with e | ⟨u,e,O⟩
  ·have R:=congrArg List.length e;rw [CC,ZJ] at R;have:=(YT.1 hd).1; omega
  ·exact ⟨u,QF p,e,bY (n:=3) (λ_=>rfl) ds u O i p hd,p.2.1.1,p.2.1.2,rfl,U⟩
theorem QH {h:Hp} {xs:List js} {l i:Nat} (r:bh h xs o l) (hi:i < l):∃ x ad a c,xs[i]? = some x/\o = some ad/\au h (ad.add (cE i 3)) [.int .i64 x.st,.int .i64 x.prod,.slice a x.tr.length c]/\bh h x.tr a x.tr.length:=by
 obtain ⟨x,ad,vs,z,O,G,a,R,rfl,u⟩:=r.get hi;exact ⟨x,ad,a,R,z,O,G,u⟩
end
section
variable {g:af} {nn:List Bool} {ss ss' : List SQ}
theorem QI (h:bq ss = bq ss') (i k:Nat):jr g nn ss i k = jr g nn ss' i k:=by
 unfold jr;rw [uD h];have e:∀ i s,fy ss i s = fy ss' i s:=λi s=>DU h i s;simp only [e]
theorem TF (h:bq ss = bq ss') (i k:Nat):zc g nn ss i k = zc g nn ss' i k:=by
 unfold zc;rw [uD h];have e:∀ q l,cK ss q l = cK ss' q l:=λq l=>Ht h l q;simp only [e]
theorem QJ (h:bq ss = bq ss') (q m i:Nat):dM g ss q m i = dM g ss' q m i:=by
 unfold dM;rw [uD h];have e:∀ q l,cK ss q l = cK ss' q l:=λq l=>Ht h l q;simp only [e]
theorem MT (h:bq ss = bq ss'):sZ g nn ss = sZ g nn ss':=by
 unfold sZ;rw [uD h];refine ZP λi _=>?_;rw [show jr g nn ss i = jr g nn ss' i from funext λk=>QI h i k]
theorem MU (h:bq ss = bq ss'):vW g nn ss = vW g nn ss':=by
 unfold vW;rw [uD h];refine ZP λi _=>?_;rw [show zc g nn ss i = zc g nn ss' i from funext λk=>TF h i k]
theorem TG (h:bq ss = bq ss') (q m:Nat):uH g ss q m = uH g ss' q m:=by
 unfold uH;rw [uD h,show dM g ss q m = dM g ss' q m from funext λk=>QJ h q m k]
theorem MV (h:bq ss = bq ss'):qQ g ss = qQ g ss':=by
 unfold qQ;rw [DV h];have e:∀ q j,dH g ss q j = dH g ss' q j:=λq j=>by unfold dH; rw [show uH g ss q = uH g ss' q from funext λm=>TG h q m]
 simp only [e]
end
namespace bZ
inductive Rc (E:Nat->List Nat):Nat->Nat->Prop
 | refl (a:Nat):Rc E a a
 | step {a b c:Nat}:b∈E a->Rc E b c->Rc E a c
theorem Rc.trans {E:Nat->List Nat} {a b c:Nat} (h:Rc E a b):Rc E b c->Rc E a c:=by
 induction h with
 | refl=>exact id
 | step h _ ih=>exact λk=>.step h (ih k)
theorem Rc.one {E:Nat->List Nat} {a b:Nat} (h:b∈E a):Rc E a b:=.step h (.refl b)
def Good (E:Nat->List Nat) (gs:List (List Nat)):Prop :=
 gs.flatten.Nodup/\∀ g1 g g2,gs = g1 ++ g :: g2->g≠[]/\(∀ a∈g,∀ b∈g,Rc E a b)/\∀ a∈g,∀ b∈E a,b∈g\/b∈g1.flatten
theorem Good.nil (E:Nat->List Nat):Good E []:=⟨σ,λz g u h=>by simp at h⟩
theorem Good.snoc {E:Nat->List Nat} {gs:List (List Nat)} {g:List Nat} (h:Good E gs) (hn:g≠[]) (hd:g.Nodup) (hx:∀ a∈g,a∉gs.flatten)
  (hr:∀ a∈g,∀ b∈g,Rc E a b) (he:∀ a∈g,∀ b∈E a,b∈g\/b∈gs.flatten):Good E (gs ++ [g]):=by
 refine ⟨?_,?_⟩
 ·rw [List.flatten_append,ZE];refine ⟨h.1,by simpa using hd,?_⟩;intro a R b O e;subst e;exact hx a (by simpa using O) R
 ·intro W z G e
  rcases List.eq_nil_or_concat G with rfl | ⟨U,x,rfl⟩
  ·obtain ⟨rfl,u⟩:=List.append_inj' e rfl;simp only [List.cons.injEq,and_true] at u;subst u;exact ⟨hn,hr,he⟩
  ·rw [List.concat_eq_append,<- List.cons_append,<- Y6] at e;obtain ⟨V,u⟩:=List.append_inj' e rfl;exact h.2 W z U V
theorem Good.to {E:Nat->List Nat} {gs:List (List Nat)} (h:Good E gs) {a b:Nat} (hw:Rc E a b) :
  ∀ g1 g g2,gs = g1 ++ g :: g2->a∈g->b∈(g1 ++ [g]).flatten:=by
 induction hw with
 | refl a=>intro g1 g g2 _ G; simp [G]
 | @step a b c u hc ih =>
  intro g1 g g2 e G
  rcases (h.2 g1 g g2 e).2.2 a G b u with u | u
  ·exact ih g1 g g2 e u
  ·obtain ⟨x,O,z⟩:=List.mem_flatten.1 u;obtain ⟨R,U,rfl⟩:=aaS O;have:=ih R x (U ++ g :: g2) (by rw [e]; simp) z;simp only [List.flatten_append,List.flatten_cons,List.flatten_nil,Zm,YY] at this ⊢
   rcases this with h | h
   ·exact Or.inl (Or.inl h)
   ·exact Or.inl (Or.inr (Or.inl h))
theorem JO {gs:List (List Nat)} (h:gs.flatten.Nodup) {g1 g2:List (List Nat)} {g:List Nat} (e:gs = g1 ++ g :: g2) {a:Nat} (ha:a∈g):a∉g1.flatten/\a∉g2.flatten:=by
 subst e;rw [List.flatten_append,List.flatten_cons,ZE,ZE] at h;refine ⟨λu=>h.2.2 a u a (by simp [ha]) rfl,λu=>h.2.1.2.2 a ha a u rfl⟩
abbrev Sc:=Nat × Nat × List Nat
def aF:List Sc->List Nat
 | []=>[]
 | (n,_,r) :: t=>aF t ++ n :: r
structure YG (E:Nat->List Nat) (low:Nat->Nat) (op:List Nat) (D:Nat->Prop) (b n k:Nat) (r:List Nat):Prop where
 le:k<=(E n).length
 top:low n<=b + 1
 lo:∀ v∈r,low n<=low v
 pos:∀ v∈n :: r,0 < low v
 at_:∀ v∈r,∀ i,op[i]? = some v->low v<=i
 rc:∀ v∈r,Rc E n v
 to:∀ v∈n :: r,∃ u,op[low v - 1]? = some u/\Rc E v u
 ed:∀ v∈r,∀ m∈E v,D m\/∃ i,op[i]? = some m/\low n<=i + 1
 en:∀ j m,j < k->(E n)[j]? = some m->D m\/∃ i,op[i]? = some m/\low n<=i + 1
def OK (E:Nat->List Nat) (low:Nat->Nat) (op:List Nat) (D:Nat->Prop):List Sc->Prop
 | []=>True
 | (n,k,r) :: t=>YG E low op D (aF t).length n k r/\(∀ u k' r' t',t = (u,k',r') :: t'->Rc E u n)/\OK E low op D t
theorem cd {t:List Sc} {n k:Nat} {r:List Nat}:(aF ((n,k,r) :: t)).length = (aF t).length + 1 + r.length:=by simp [aF]; omega
theorem OK.mono {E:Nat->List Nat} {low low' : Nat->Nat} {op op' : List Nat} {D D' : Nat->Prop}:∀ (t:List Sc),OK E low op D t ->
  (∀ v∈aF t,low' v = low v)->(∀ i v:Nat,op[i]? = some v->op'[i]? = some v\/D' v)->(∀ i v:Nat,op'[i]? = some v->v∈aF t->op[i]? = some v)->(∀ i:Nat,i < (aF t).length->op'[i]? = op[i]?)->op.Nodup->(∀ v:Nat,D v->D' v) ->
  (∀ i:Nat,i < (aF t).length->op[i]? = (aF t)[i]?)->OK E low' op' D' t
 | [],_,_,_,_,_,_,_,_=>trivial
 | (n,k,r) :: t,⟨s,hu,ht⟩,hl,ho,hb,hi,nd,hD,hp=>by
  have hn:low' n = low n:=hl n (by simp [aF])
  have hr:∀ v∈r,low' v = low v:=λv hv=>hl v (by simp [aF,hv])
  have hnr:∀ v∈n :: r,low' v = low v:=λv hv=>hl v (by simp only [aF,YY]; exact Or.inr hv)
  refine ⟨⟨s.le,by rw [hn]; exact s.top,λv hv=>by rw [hn,hr v hv]; exact s.lo v hv,λv hv=>by rw [hnr v hv]; exact s.pos v hv,?_,s.rc,?_,?_,?_⟩,hu,?_⟩
  ·intro v hv i h
   rw [hr v hv]
   exact s.at_ v hv i (hb i v h (by simp [aF,hv]))
  ·intro v hv
   obtain ⟨u,h1,h2⟩:=s.to v hv
   refine ⟨u,?_,h2⟩
   rw [hnr v hv,hi _ ?_,h1]
   rw [cd]
   have hp':=s.pos v hv
   rcases Ze.1 hv with rfl | hv
   ·have:=s.top; omega
   ·have hv2:v∈aF ((n,k,r) :: t):=by simp [aF,hv]
    obtain ⟨i,hi1,hi2⟩:=List.getElem_of_mem hv2
    have:=s.at_ v hv i (by rw [hp i hi1,YU hi1,hi2])
    rw [cd] at hi1
    omega
  ·intro v hv m hm
   rcases s.ed v hv m hm with h | ⟨i,h1,h2⟩
   ·exact Or.inl (hD m h)
   ·rcases ho i m h1 with h | h
    ·exact Or.inr ⟨i,h,by rw [hn]; exact h2⟩
    ·exact Or.inl h
  ·intro j m hj hm
   rcases s.en j m hj hm with h | ⟨i,h1,h2⟩
   ·exact Or.inl (hD m h)
   ·rcases ho i m h1 with h | h
    ·exact Or.inr ⟨i,h,by rw [hn]; exact h2⟩
    ·exact Or.inl h
  ·refine OK.mono t ht (λv hv=>hl v (by simp [aF,hv])) ho (λi v h hv=>hb i v h (by simp [aF,hv])) (λi h=>hi i (by rw [cd]; omega)) nd hD ?_
   intro i h
   rw [hp i (by rw [cd]; omega)]
   simp only [aF]
   rw [Y8 h]
def B6 (f:Nat->Nat) (i x:Nat):Nat->Nat:=λj=>if j = i then x else f j
theorem bu (f:Nat->Nat) (i x:Nat):B6 f i x i = x:=by simp [B6]
theorem dx {f:Nat->Nat} {i x j:Nat} (h:j≠i):B6 f i x j = f j:=by simp [B6,h]
structure Inv (E:Nat->List Nat) (N:Nat) (low:Nat->Nat) (S:List Sc) (gs:List (List Nat)):Prop where
 ok:OK E low (aF S) (·∈gs.flatten) S
 nd:(aF S ++ gs.flatten).Nodup
 lt:∀ v∈aF S ++ gs.flatten,v < N
 un:∀ v,v < N->(low v = 0↔v∉aF S ++ gs.flatten)
 dn:∀ v∈gs.flatten,low v = N + 1
 good:Good E gs
theorem QK:∀ (l m:List Nat),l.Nodup->(∀ v∈l,v∈m)->l.length<=m.length
 | [],_,_,_=>Y4 _
 | a :: l,m,h,hs=>by
  have ha:=hs a σ
  rw [ZR] at h
  have:=QK l (m.erase a) h.2 (λv hv=>(List.mem_erase_of_ne (λe:v = a=>h.1 (e ▸ hv))).2 (hs v (by simp [hv])))
  rw [List.length_erase_of_mem ha] at this
  have:=List.length_pos_of_mem ha
  simp only [ZC]; omega
theorem QL {l:List Nat} {N:Nat} (h1:l.Nodup) (h2:∀ v∈l,v < N):l.length<=N:=by
 have:=QK l (List.range N) h1 (λv hv=>Zo.2 (h2 v hv));simpa using this
variable {E:Nat->List Nat} {N:Nat} {low:Nat->Nat} {S t:List Sc} {gs:List (List Nat)} {D:Nat->Prop} {op:List Nat}
theorem JP {l:List Nat} (h:l.Nodup) {i j:Nat} {v:Nat} (h1:l[i]? = some v) (h2:l[j]? = some v):i = j:=by
 obtain ⟨a,h1⟩:=YT.1 h1;obtain ⟨b,h2⟩:=YT.1 h2;exact (List.getElem_inj h).1 (h1.trans h2.symm)
theorem OK.to:∀ (S:List Sc),OK E low op D S->∀ v∈aF S,0 < low v/\∃ u,op[low v - 1]? = some u/\Rc E v u
 | [],_,v,hv=>by simp [aF] at hv
 | (n,k,r) :: t,⟨s,_,h⟩,v,hv=>by
  simp only [aF,YY] at hv
  rcases hv with hv | hv
  ·exact OK.to t h v hv
  ·exact ⟨s.pos v hv,s.to v hv⟩
theorem OK.UN:∀ (S:List Sc),OK E low op D S->op.Nodup->(∀ i:Nat,i < (aF S).length->op[i]? = (aF S)[i]?)->∀ v∈aF S,∀ i:Nat,op[i]? = some v->low v<=i + 1
 | [],_,_,_,v,hv=>by simp [aF] at hv
 | (n,k,r) :: t,⟨s,_,h⟩,nd,hp,v,hv=>by
  intro i hi
  simp only [aF,YY] at hv
  rcases hv with hv | hv
  ·refine OK.UN t h nd (λj hj=>?_) v hv i hi
   rw [hp j (by rw [cd]; omega)]
   simp only [aF]
   rw [Y8 hj]
  ·rcases Ze.1 hv with rfl | hv
   ·have h1:op[(aF t).length]? = some v:=by
     rw [hp _ (by rw [cd]; omega)]
     simp [aF]
    have:=JP nd hi h1
    have:=s.top
    omega
   ·have:=s.at_ v hv i hi
    omega
theorem Inv.VS (h:Inv E N low S gs):(aF S).Nodup:=(ZE.1 h.nd).1
theorem Inv.len (h:Inv E N low S gs):(aF S).length<=N:=QL h.VS λv hv=>h.lt v (by simp [hv])
theorem Inv.seen (h:Inv E N low S gs) {v:Nat} (hv:v < N) (hl:low v≠0):v∈aF S\/v∈gs.flatten:=by
 have:=mt (h.un v hv).2 hl;simp only [YY] at this;exact Z3 λe=>this e
theorem Inv.root (h:Inv E N low [] gs) {m:Nat} (hm:m < N) (h0:low m = 0):Inv E N (B6 low m 1) [(m,0,[])] gs:=by
 have u:=(h.un m hm).1 h0;simp only [aF,Zz] at u;have z:∀ v,v∈gs.flatten->v≠m:=λv hv e=>u (e ▸ hv)
 refine ⟨⟨⟨σ,by simp [aF,bu],σ,?_,σ,σ,?_,σ,σ⟩,σ,trivial⟩,?_,?_,?_,?_,h.good⟩
 ·intro v hv;simp only [Zl] at hv;rw [hv,bu]; omega
 ·intro v hv;simp only [Zl] at hv;subst hv;exact ⟨v,by simp [bu,aF],.refl v⟩
 ·have:=h.nd;simp only [aF,Zz,List.singleton_append,ZR] at this ⊢;exact ⟨u,this⟩
 ·intro v hv;simp only [aF,Zz,List.singleton_append,Ze] at hv
  rcases hv with rfl | hv
  ·exact hm
  ·exact h.lt v (by simpa [aF] using hv)
 ·intro v hv;simp only [aF,Zz,List.singleton_append,Ze]
  by_cases e:v = m
  ·subst e; simp [bu]
  ·rw [dx e,h.un v hv]; simp [aF,e]
 ·intro v hv;rw [dx (z v hv)];exact h.dn v hv
theorem Inv.push {n k m:Nat} {r:List Nat} (h:Inv E N low ((n,k,r) :: t) gs) (hk:(E n)[k]? = some m) (hm:m < N) (h0:low m = 0) :
  Inv E N (B6 low m ((aF ((n,k,r) :: t)).length + 1)) ((m,0,[]) :: (n,k + 1,r) :: t) gs:=by
 have X:=(h.un m hm).1 h0;have G:m∉aF ((n,k,r) :: t):=λe=>X (by simp only [YY]; exact Or.inl e);have O:m∉gs.flatten:=λe=>X (by simp only [YY]; exact Or.inr e);have R:aF ((m,0,[]) :: (n,k + 1,r) :: t) = aF ((n,k,r) :: t) ++ [m]:=rfl
 have z:=OK.mono (low':=B6 low m ((aF ((n,k,r) :: t)).length + 1)) (op':=aF ((n,k,r) :: t) ++ [m]) (D':=(·∈gs.flatten)) _ h.ok
  (λv hv=>dx λe=>G (e ▸ hv))
  (λi v hi=>Or.inl (by rw [Y8 (by obtain ⟨a,_⟩:=YT.1 hi; exact a)]; exact hi))
  (λi v hi hv=>by
   by_cases Y:i < (aF ((n,k,r) :: t)).length
   ·rwa [Y8 Y] at hi
   ·rw [Y_ ω] at hi;have hi:=YV hi;simp only [Zl] at hi;exact absurd (hi ▸ hv) G)
  (λi hi=>Y8 hi) h.VS (λ_ h=>h) (λ_ _=>rfl)
 obtain ⟨s,Z,ht⟩:=z;have V:k < (E n).length:=(YT.1 hk).1
 refine ⟨⟨⟨σ,?_,σ,?_,σ,σ,?_,σ,σ⟩,?_,⟨⟨V,s.top,s.lo,s.pos,s.at_,s.rc,s.to,s.ed,?_⟩,Z,ht⟩⟩,?_,?_,?_,?_,h.good⟩
 ·rw [bu]; exact Zc _
 ·intro v hv;simp only [Zl] at hv;rw [hv,bu]; omega
 ·intro v hv;simp only [Zl] at hv;subst hv;refine ⟨v,?_,.refl v⟩;rw [bu,R];simp
 ·intro u k' r' t' e;cases e;exact Rc.one (YV hk)
 ·intro j v hj hv
  by_cases e:j = k
  ·subst e;rw [hk] at hv;cases hv;refine Or.inr ⟨(aF ((n,j,r) :: t)).length,by rw [R,Y_ (Zc _)]; simp,?_⟩;have h1:=s.top;have h2:(aF ((n,j,r) :: t)).length = (aF t).length + 1 + r.length:=cd;omega
  ·exact s.en j v ω hv
 ·rw [R];have:=h.nd;rw [Y6,ZE] at *
  refine ⟨this.1,?_,?_⟩
  ·simp only [List.singleton_append,ZR];exact ⟨O,this.2.1⟩
  ·intro a W b U e;simp only [List.singleton_append,Ze] at U
   rcases U with rfl | U
   ·exact G (e ▸ W)
   ·exact this.2.2 a W b U e
 ·intro v hv;rw [R] at hv;simp only [YY,Zl] at hv
  rcases hv with (hv | rfl) | hv
  ·exact h.lt v (by simp only [YY]; exact Or.inl hv)
  ·exact hm
  ·exact h.lt v (by simp only [YY]; exact Or.inr hv)
 ·intro v hv;rw [R]
  by_cases e:v = m
  ·subst e; simp [bu]
  ·rw [dx e,h.un v hv]; simp [e]
 ·intro v hv;have e:v≠m:=λe=>O (e ▸ hv);rw [dx e];exact h.dn v hv
theorem Inv.VT {n k:Nat} {r:List Nat} (h:Inv E N low ((n,k,r) :: t) gs):n∉aF t/\n∉r/\n∉gs.flatten/\(∀ v∈r,v∉aF t):=by
 have:=h.nd;simp only [aF,ZE,ZR,YY,Ze] at this;obtain ⟨⟨R,z,u⟩,O,G⟩:=this;exact ⟨λe=>u n e n (Or.inl rfl) rfl,z.1,λe=>G n (Or.inr (Or.inl rfl)) n e rfl,λv hv e=>u v e v (Or.inr hv) rfl⟩
theorem Inv.look {n k m:Nat} {r:List Nat} (h:Inv E N low ((n,k,r) :: t) gs) (hk:(E n)[k]? = some m) (hm:m < N) (h0:low m≠0) :
  Inv E N (B6 low n (min (low n) (low m))) ((n,k + 1,r) :: t) gs:=by
 obtain ⟨x1,x2,x3,x4⟩:=h.VT;obtain ⟨s,hu,ht⟩:=h.ok;have a0:k < (E n).length:=(YT.1 hk).1;have hr:∀ v∈r,v≠n:=λv hv e=>x2 (e ▸ hv);have W:=h.len;rw [cd] at W;have a3:=s.top;have a4:=s.pos n σ;have z:B6 low n (min (low n) (low m)) n<=low n:=by rw [bu]; omega
 have V:m∈gs.flatten->min (low n) (low m) = low n:=λe=>by rw [h.dn m e]; omega
 have U:=OK.mono (low':=B6 low n (min (low n) (low m))) (op':=aF ((n,k,r) :: t)) (D':=(·∈gs.flatten)) _ ht
  (λv hv=>dx λe=>x1 (e ▸ hv)) (λi v hi=>Or.inl hi) (λi v hi _=>hi) (λi hi=>rfl) h.VS (λ_ h=>h)
  (λi hi=>by simp only [aF]; rw [Y8 hi])
 refine ⟨⟨⟨a0,ω,?_,?_,?_,s.rc,?_,?_,?_⟩,hu,U⟩,h.nd,h.lt,?_,?_,h.good⟩
 ·intro v hv;rw [dx (hr v hv)];exact Zq z (s.lo v hv)
 ·intro v hv
  by_cases e:v = n
  ·subst e; rw [bu]; omega
  ·rw [dx e]; exact s.pos v hv
 ·intro v hv;rw [dx (hr v hv)];exact s.at_ v hv
 ·intro v hv
  by_cases e:v = n
  ·subst e;rw [bu]
   by_cases hc:low v<=low m
   ·rw [aak hc]; exact s.to v σ
   ·rw [Nat.min_eq_right ω]
    rcases h.seen hm h0 with R | R
    ·obtain ⟨_,u,G,O⟩:=OK.to _ h.ok m R;exact ⟨u,G,.step (YV hk) O⟩
    ·have:=V R; omega
  ·rw [dx e]; exact s.to v hv
 ·intro v hv x Y
  rcases s.ed v hv x Y with G | ⟨i,G,O⟩
  ·exact Or.inl G
  ·exact Or.inr ⟨i,G,Zq z O⟩
 ·intro j x hj Y
  by_cases e:j = k
  ·subst e;rw [hk] at Y; cases Y
   rcases h.seen hm h0 with R | R
   ·obtain ⟨i,Z,a1⟩:=List.getElem_of_mem R;have X:(aF ((n,j,r) :: t))[i]? = some m:=by rw [YU Z,a1]
    refine Or.inr ⟨i,X,?_⟩;have:=OK.UN _ h.ok h.VS (λ_ _=>rfl) m R i X;rw [bu]; omega
   ·exact Or.inl R
  ·rcases s.en j x ω Y with G | ⟨i,G,O⟩
   ·exact Or.inl G
   ·exact Or.inr ⟨i,G,Zq z O⟩
 ·intro v hv
  by_cases e:v = n
  ·subst e;rw [bu];have G:v∈aF ((v,k + 1,r) :: t) ++ gs.flatten:=by simp [aF]
   constructor
   ·intro O; omega
   ·intro O; exact absurd G O
  ·rw [dx e]; exact h.un v hv
 ·intro v hv;have e:v≠n:=λe=>x3 (e ▸ hv);rw [dx e];exact h.dn v hv
theorem Inv.merge {n k u ku:Nat} {r ru:List Nat} (h:Inv E N low ((n,k,r) :: (u,ku,ru) :: t) gs) (hk:k = (E n).length) (hne:low n≠(aF ((u,ku,ru) :: t)).length + 1) :
  Inv E N (B6 low u (min (low u) (low n))) ((u,ku,ru ++ n :: r) :: t) gs:=by
 obtain ⟨x1,x2,x3,x4⟩:=h.VT;obtain ⟨s,hu,V,a1,ht⟩:=h.ok;have ho:aF ((u,ku,ru ++ n :: r) :: t) = aF ((n,k,r) :: (u,ku,ru) :: t):=by simp [aF]
 have W:u∉aF t/\u∉ru/\u≠n/\u∉r/\u∉gs.flatten:=by
  have:=h.nd;simp only [aF,ZE,ZR,YY,Ze] at this;obtain ⟨⟨⟨G,U,h3⟩,h4,h5⟩,h6,h7⟩:=this;exact ⟨λe=>h3 u e u (Or.inl rfl) rfl,U.1,h5 u (Or.inr (Or.inl rfl)) n (Or.inl rfl),λe=>h5 u (Or.inr (Or.inl rfl)) u (Or.inr e) rfl,λe=>h7 u (Or.inl (Or.inr (Or.inl rfl))) u e rfl⟩
 obtain ⟨y1,y2,y3,y4,y5⟩:=W;have R:B6 low u (min (low u) (low n)) u<=low u:=by rw [bu]; omega
 have O:B6 low u (min (low u) (low n)) u<=low n:=by rw [bu]; omega
 have z:∀ v,v≠u->B6 low u (min (low u) (low n)) v = low v:=λv e=>dx e;have hn:B6 low u (min (low u) (low n)) n = low n:=z n (aaw y3);have hr:∀ v∈r,B6 low u (min (low u) (low n)) v = low v:=λv hv=>z v λe=>y4 (e ▸ hv);have W:∀ v∈ru,B6 low u (min (low u) (low n)) v = low v:=λv hv=>z v λe=>y2 (e ▸ hv);have a0:=s.pos n σ;have a5:=V.pos u σ
 have X:=OK.mono (low':=B6 low u (min (low u) (low n))) (op':=aF ((n,k,r) :: (u,ku,ru) :: t)) (D':=(·∈gs.flatten)) _ ht
  (λv hv=>dx λe=>y1 (e ▸ hv)) (λi v hi=>Or.inl hi) (λi v hi _=>hi) (λi hi=>rfl) h.VS (λ_ h=>h)
  (λi hi=>by simp only [aF]; rw [Y6,Y8 hi])
 have Y:(aF ((n,k,r) :: (u,ku,ru) :: t))[(aF ((u,ku,ru) :: t)).length]? = some n:=by simp only [aF]; simp
 refine ⟨?_,by rw [ho]; exact h.nd,by rw [ho]; exact h.lt,?_,?_,h.good⟩
 ·rw [ho]
  refine ⟨⟨V.le,Zq R V.top,?_,?_,?_,?_,?_,?_,?_⟩,a1,X⟩
  ·intro v hv;simp only [YY,Ze] at hv
   rcases hv with hv | rfl | hv
   ·rw [W v hv]; exact Zq R (V.lo v hv)
   ·rw [hn]; exact O
   ·rw [hr v hv]; exact Zq O (s.lo v hv)
  ·intro v hv
   by_cases e:v = u
   ·subst e; rw [bu]; omega
   ·rw [z v e];simp only [YY,Ze] at hv
    rcases hv with hv | hv | rfl | hv
    ·exact absurd hv e
    ·exact V.pos v (by simp [hv])
    ·exact a0
    ·exact s.pos v (by simp [hv])
  ·intro v hv i hi;simp only [YY,Ze] at hv
   rcases hv with hv | rfl | hv
   ·rw [W v hv]; exact V.at_ v hv i hi
   ·rw [hn];have:=JP h.VS hi Y;have:=s.top;omega
   ·rw [hr v hv]; exact s.at_ v hv i hi
  ·intro v hv;have G:=hu u ku ru t rfl;simp only [YY,Ze] at hv
   rcases hv with hv | rfl | hv
   ·exact V.rc v hv
   ·exact G
   ·exact G.trans (s.rc v hv)
  ·intro v hv
   by_cases e:v = u
   ·subst e;rw [bu]
    by_cases hc:low v<=low n
    ·rw [aak hc]; exact V.to v σ
    ·rw [Nat.min_eq_right ω];obtain ⟨x,G,U⟩:=s.to n σ;exact ⟨x,G,(hu v ku ru t rfl).trans U⟩
   ·rw [z v e];simp only [YY,Ze] at hv
    rcases hv with hv | hv | rfl | hv
    ·exact absurd hv e
    ·exact V.to v (by simp [hv])
    ·exact s.to v σ
    ·exact s.to v (by simp [hv])
  ·intro v hv x Z;simp only [YY,Ze] at hv
   rcases hv with hv | rfl | hv
   ·rcases V.ed v hv x Z with G | ⟨i,G,U⟩
    ·exact Or.inl G
    ·exact Or.inr ⟨i,G,Zq R U⟩
   ·obtain ⟨j,a4,a3⟩:=List.getElem_of_mem Z
    rcases s.en j x ω (by rw [YU a4,a3]) with G | ⟨i,G,U⟩
    ·exact Or.inl G
    ·exact Or.inr ⟨i,G,Zq O U⟩
   ·rcases s.ed v hv x Z with G | ⟨i,G,U⟩
    ·exact Or.inl G
    ·exact Or.inr ⟨i,G,Zq O U⟩
  ·intro j x hj Z
   rcases V.en j x hj Z with G | ⟨i,G,U⟩
   ·exact Or.inl G
   ·exact Or.inr ⟨i,G,Zq R U⟩
 ·intro v hv;rw [ho]
  by_cases e:v = u
  ·subst e;rw [bu];have G:v∈aF ((n,k,r) :: (v,ku,ru) :: t) ++ gs.flatten:=by simp [aF]
   constructor
   ·intro U; omega
   ·intro U; exact absurd G U
  ·rw [z v e]; exact h.un v hv
 ·intro v hv;rw [z v λe=>y5 (e ▸ hv)];exact h.dn v hv
variable {E:Nat->List Nat} {N:Nat} {low:Nat->Nat} {S t:List Sc} {gs:List (List Nat)}
theorem Inv.X_ {n k u ku:Nat} {r ru:List Nat} (h:Inv E N low ((n,k,r) :: (u,ku,ru) :: t) gs) (hl:low n = (aF ((u,ku,ru) :: t)).length + 1):min (low u) (low n) = low u:=by
 obtain ⟨s,O,G,z,ht⟩:=h.ok;have:=G.top;rw [cd] at hl;omega
theorem Inv.pop {n k:Nat} {r:List Nat} (h:Inv E N low ((n,k,r) :: t) gs) (hk:k = (E n).length) (hl:low n = (aF t).length + 1) :
  Inv E N (λv=>if v∈n :: r then N + 1 else low v) t (gs ++ [n :: r]):=by
 obtain ⟨s,hu,ht⟩:=h.ok;have a0:=h.nd;simp only [aF,ZE,YY] at a0;obtain ⟨⟨R,Z,h3⟩,h4,h5⟩:=a0;have z:aF ((n,k,r) :: t) = aF t ++ n :: r:=rfl
 have W:∀ (i m:Nat),(aF ((n,k,r) :: t))[i]? = some m->low n<=i + 1->m∈n :: r:=by
  intro i m hi aa;rw [z,Y_ ω] at hi;exact YV hi
 have back:∀ p:Nat,∀ i:Nat,i < p->∀ v:Nat,v∈n :: r->(aF ((n,k,r) :: t))[i]? = some v->Rc E v n:=by
  intro p
  induction p with
  | zero=>intro i hi; omega
  | succ p ih =>
   intro i hi v hv a6
   rcases Ze.1 hv with rfl | Y
   ·exact .refl _
   ·have a1:=s.at_ v Y i a6;have a2:=s.lo v Y;obtain ⟨u,b1,b2⟩:=s.to v hv;have a3:=s.pos v hv;exact b2.trans (ih (low v - 1) ω u (W _ u b1 ω) b1)
 have back:∀ v∈n :: r,Rc E v n:=by
  intro v hv;obtain ⟨i,a4,a7⟩:=List.getElem_of_mem (show v∈aF ((n,k,r) :: t) by rw [z]; exact List.mem_append_right _ hv);exact back (i + 1) i ω v hv (by rw [YU a4,a7])
 have a5:∀ v∈n :: r,Rc E n v:=by
  intro v hv
  rcases Ze.1 hv with rfl | Y
  ·exact .refl _
  ·exact s.rc v Y
 have hg:Good E (gs ++ [n :: r]):=by
  refine h.good.snoc σ Z (λa V G=>h5 a (Or.inr V) a G rfl) (λa V b G=>(back a V).trans (a5 b G)) ?_;intro a V b G
  rcases Ze.1 V with rfl | Y
  ·obtain ⟨j,a9,a8⟩:=List.getElem_of_mem G
   rcases s.en j b ω (by rw [YU a9,a8]) with R | ⟨i,R,Z⟩
   ·exact Or.inr R
   ·exact Or.inl (W i b R Z)
  ·rcases s.ed a Y b G with R | ⟨i,R,Z⟩
   ·exact Or.inr R
   ·exact Or.inl (W i b R Z)
 have U:∀ v∈aF t,v∉n :: r:=λv hv e=>h3 v hv v e rfl;have O:∀ v,v∈(gs ++ [n :: r]).flatten↔v∈gs.flatten\/v∈n :: r:=by intro v; rw [List.flatten_append,YY,List.flatten_singleton]
 have X:=OK.mono (low':=λv=>if v∈n :: r then N + 1 else low v) (op':=aF t) (D':=(·∈(gs ++ [n :: r]).flatten)) _ ht
  (λv hv=>by simp only [YZ (U v hv)])
  (λi v hi=>by
   by_cases G:i < (aF t).length
   ·rw [z,Y8 G] at hi;exact Or.inl hi
   ·rw [z,Y_ ω] at hi;exact Or.inr ((O v).2 (Or.inr (YV hi))))
  (λi v hi _=>by
   rw [z,Y8 (YT.1 hi).1];exact hi)
  (λi hi=>by rw [z,Y8 hi]) h.VS (λv hv=>(O v).2 (Or.inl hv))
  (λi hi=>by rw [z,Y8 hi])
 refine ⟨X,?_,?_,?_,?_,hg⟩
 ·rw [ZE];refine ⟨R,hg.1,?_⟩;intro a V b G e;subst e
  rcases (O a).1 G with G | G
  ·exact h5 a (Or.inl V) a G rfl
  ·exact U a V G
 ·intro v hv;rw [YY,O] at hv;refine h.lt v ?_;rw [z,YY,YY]
  rcases hv with hv | hv | hv
  ·exact Or.inl (Or.inl hv)
  ·exact Or.inr hv
  ·exact Or.inl (Or.inr hv)
 ·intro v hv;rw [YY,O]
  by_cases e:v∈n :: r
  ·simp only [Y5 e]
   constructor
   ·intro h; omega
   ·intro h; exact absurd (Or.inr (Or.inr e)) h
  ·simp only [YZ e];rw [h.un v hv,z,YY,YY]
   constructor
   ·intro a b
    rcases b with b | b | b
    ·exact a (Or.inl (Or.inl b))
    ·exact a (Or.inr b)
    ·exact e b
   ·intro a b
    rcases b with (b | b) | b
    ·exact a (Or.inl b)
    ·exact e b
    ·exact a (Or.inr (Or.inl b))
 ·intro v hv
  rcases (O v).1 hv with hv | hv
  ·by_cases e:v∈n :: r
   ·simp only [Y5 e]
   ·simp only [YZ e]; exact h.dn v hv
  ·simp only [Y5 hv]
theorem Inv.start (E:Nat->List Nat) (N:Nat):Inv E N (λ_=>0) [] []:=⟨trivial,by simp [aF],by simp [aF],by simp [aF],σ,Good.nil E⟩
def todo (E:Nat->List Nat) (N:Nat) (low:Nat->Nat) (S:List Sc):Nat :=
 ((List.range N).map λv=>if low v = 0 then (E v).length + 2 else 0).sum + (S.map λs=>(E s.1).length + 1 - s.2.1).sum
theorem VU {l:List Nat} {f g:Nat->Nat} (h:∀ v∈l,f v<=g v):(l.map f).sum<=(l.map g).sum:=by
 induction l with
 | nil=>simp
 | cons a l ih =>
  have z:=h a σ;have u:=ih λv hv=>h v (by simp [hv]);simp only [ZF,aa1]; omega
theorem VV {l:List Nat} {f g:Nat->Nat} (h:∀ v∈l,f v<=g v) {a d:Nat} (ha:a∈l) (hd:f a + d<=g a):(l.map f).sum + d<=(l.map g).sum:=by
 induction l with
 | nil=>simp at ha
 | cons b l ih =>
  simp only [ZF,aa1]
  rcases Ze.1 ha with rfl | ha
  ·have:=VU (l:=l) λv hv=>h v (by simp [hv]);omega
  ·have z:=h b σ;have u:=ih (λv hv=>h v (by simp [hv])) ha;omega
theorem Oc {n k m:Nat} {r:List Nat} (h:Inv E N low ((n,k,r) :: t) gs) (hk:(E n)[k]? = some m) (hm:m < N) (h0:low m = 0) (x:Nat) (hx:x≠0) :
  todo E N (B6 low m x) ((m,0,[]) :: (n,k + 1,r) :: t) < todo E N low ((n,k,r) :: t):=by
 have u:k < (E n).length:=(YT.1 hk).1
 have:=VV (l:=List.range N) (f:=λv=>if B6 low m x v = 0 then (E v).length + 2 else 0) (g:=λv=>if low v = 0 then (E v).length + 2 else 0) (a:=m) (d:=(E m).length + 2)
  (λv _=>by
   by_cases e:v = m
   ·subst e; simp [bu,hx]
   ·rw [dx e]; exact Zc _) (Zo.2 hm) (by simp [bu,hx,h0])
 unfold todo;simp only [ZF,aa1];omega
theorem AA {low' : Nat->Nat} (h:∀ v,v < N->(low' v = 0↔low v = 0)):((List.range N).map λv=>if low' v = 0 then (E v).length + 2 else 0).sum = ((List.range N).map λv=>if low v = 0 then (E v).length + 2 else 0).sum:=by
 congr 1;refine ZP λv hv=>?_;have:=h v (Zo.1 hv)
 by_cases e:low v = 0
 ·simp [e,this.2 e]
 ·simp [e,mt this.1 e]
end bZ
abbrev JQ:FuncId:=27
def Fc:bm:={ rngs:=[],loops:=[(9,[(7,(.one .slice)),(31,(.one (.int .i64)))]),(13,[(42,(.one (.int .i64)))])],joins:=[],blocks:=[] }
section
variable {a b c d:aa3} {i j k l m n o p:Nat} {A:Int} {w:aa4} {R:Value->WP}
theorem Fe (h:new w (ψ a i j b k l c m n A d o p) λa b=>χ b (aM a) λc=>rE 57 [c] b λb c=>∃ d e f g,b = vU [vS d e f,iI g]/\br (g != 0) (R (vU [vS none 0 0,iI g]) c) (χ c (aM a) λb=>rE 58 [b] c λb c=>∃ f g h i,b = vU [vS f g h,iI i]/\br (i != 0) (R (vU [vS none 0 0,iI i]) c) (τ [(7,fD),(31,aB)] λb h=>b none 0 0 0 c/\∀ (_:ν) c i j k l,b c i j k l->br (decide (k < (g:Int))) (idx f g k 3 λf=>∃ g m n o p,rA l f 3 [iI g,iI m,vS n o p]/\new l (oC [iI 0,iI 0,vS none 0 0] 117) λf q=>da q (aM f) [iI g,iI m,vS n o p] λg=>∃ m n o,cL g (aM a) (vS m n o)/\rE 59 [iI (n:Int),vS none 0 0] g λa g=>∃ m,a = vP m/\∃ a n o,cL g (Addr.add (aM f) 2) (vS a n o)/\τ [(42,aB)] λo p=>o 0 g/\∀ (_:ν) g q,o g q->br (decide (g < (n:Int))) (idx a n g 1 λa=>∃ b,cL q a (iI b)/\idx d e b 1 λa=>∃ b c d,cL q a (vS b c d)/\rE 60 [vP m,vS b c d] q λa b=>∃ c,a = iI c/\ax (g + 1)/\o (g + 1) b/\p (g + 1) b < p g q) (∀ a,drawn q a->∃ (d:WP),d a/\∃ e,(∀ a,d a->cL a (aM f) (iI e))/\∃ g,(∀ a,d a->cL a (Addr.add (aM f) 1) (iI g))/\rE 61 [vP m] a λa f=>∃ m n o,a = vS m n o/\d f/\new f (oC [iI e,iI g,vS m n o] 58) λa e=>d e/\rS (fe 48 (Array.mk [vS c i j,vS (some (aM a)) 1 1])) e λa e=>∃ f g m,a = vS f g m/\d e/\ax (k + 1)/\b f g m (k + 1) e/\h f g m (k + 1) e < h c i j k l)) (rE 62 [vS c i j] l λa b=>∃ c d e,a = vS c d e/\R (vU [vS c d e,iI 0]) b)))):ρ 27 [φ a i j b k l c m n A d o p] w R:=rv Tryz.func27 Fc (by kernel_rfl) h
abbrev AB:FuncId:=57
def xE:bm:={ rngs:=[],loops:=[],joins:=[],blocks:=[] }
theorem xF (h:new w (ψ a i j b k l c m n A d o p) λa b=>∀ c,drawn b c->∃ (b:WP),b c/\∃ d e f g h i j k l m n o p,(∀ c,b c->rA c (aM a) 5 [vS d e f,vS g h i,vS j k l,iI m,vS n o p])/\rE 102 [] c λa c=>∃ q r s,a = vS q r s/\∃ (a:WP),a c/\(∀ c,a c->b c)/\idx q r 1 2 λb=>∃ q r s t,(∀ c,a c->rA c b 2 [Value.func (Fn.func q) (Array.mk []) (Array.mk r),Value.func (Fn.func s) (Array.mk []) (Array.mk t)])/\rE 103 [vG [Value.func (Fn.func q) (Array.mk []) (Array.mk r),Value.func (Fn.func s) (Array.mk []) (Array.mk t)],vG [vS d e f,vS g h i,vS j k l,iI m,vS n o p]] c λb c=>∃ d e f g,b = vU [vS d e f,iI g]/\a c/\R (vU [vS d e f,iI g]) c):ρ 57 [φ a i j b k l c m n A d o p] w R:=rv Tryz.func57 xE (by kernel_rfl) h
def iL:bm:={ rngs:=[],loops:=[],joins:=[],blocks:=[] }
theorem iM (h:lR a i j none (some (i:Int)) (some (i:Int)) 3 λ(a:aa3) (b c:Nat)=>R (vS a b c) w):ρ 62 [(.slice a i j)] w R:=rv Tryz.func62 iL (by kernel_rfl) h
abbrev AD:FuncId:=102
def xG:bm:={ rngs:=[],loops:=[],joins:=[],blocks:=[] }
theorem xH  {w:aa4} {R:Value->WP} (h:new w (oC [Value.func (Fn.func 158) (Array.mk []) (Array.mk []),Value.func (Fn.func 159) (Array.mk []) (Array.mk []),Value.func (Fn.func 160) (Array.mk []) (Array.mk []),Value.func (Fn.func 161) (Array.mk []) (Array.mk [])] 172) λa b=>R (vS (some (aM a)) 2 2) b):ρ 102 [] w R:=rv Tryz.func102 xG (by kernel_rfl) h
abbrev qX:FuncId:=103
def oz:bm:={ rngs:=[],loops:=[],joins:=[],blocks:=[] }
theorem oB {F:FuncId} {G:List Value} {H:FuncId} {I:List Value} (h:new w (oC [Value.func (Fn.func F) (Array.mk []) (Array.mk G),Value.func (Fn.func H) (Array.mk []) (Array.mk I)] 172) λe f=>new f (ψ a i j b k l c m n A d o p) λa b=>∃ c d,cL b (aM e) (Value.func (Fn.func c) (Array.mk []) (Array.mk d))/\χ b (aM a) λf=>yc (Proofs.YtndaepmjkbmjmaaGreatDoor.Fn c) (rE c (f :: d) b λb c=>∃ d f g h,b = vU [vS d f g,iI h]/\br (h != 0) (R (vU [vS none 0 0,iI h]) c) (∃ b h,cL c (Addr.add (aM e) 1) (Value.func (Fn.func b) (Array.mk []) (Array.mk h))/\χ c (aM a) λa=>yc (Proofs.YtndaepmjkbmjmaaGreatDoor.Fn b) (rE b (a :: h) c λa b=>∃ c e h i,a = vU [vS c e h,iI i]/\br (i != 0) (R (vU [vS none 0 0,iI i]) b) (rE 162 [vS c e h,vS d f g] b λa b=>∃ c d e f,a = vU [vS c d e,iI f]/\R (vU [vS c d e,iI f]) b))))):ρ 103 [(.agg #[(.func (.func F) #[] ⟨G⟩),(.func (.func H) #[] ⟨I⟩)]),φ a i j b k l c m n A d o p] w R:=rv Tryz.func103 oz (by kernel_rfl) h
abbrev uM:FuncId:=160
def AE:bm:={ rngs:=[],loops:=[],joins:=[],blocks:=[] }
theorem AF (h:new w (ψ a i j b k l c m n A d o p) λa b=>∀ c,drawn b c->∃ (b:WP),b c/\∃ d e f g h i j k l m n o p,(∀ c,b c->rA c (aM a) 5 [vS d e f,vS g h i,vS j k l,iI m,vS n o p])/\rE 102 [] c λa c=>∃ q r s,a = vS q r s/\∃ (a:WP),a c/\(∀ c,a c->b c)/\idx q r 0 2 λb=>∃ q r s t,(∀ c,a c->rA c b 2 [Value.func (Fn.func q) (Array.mk []) (Array.mk r),Value.func (Fn.func s) (Array.mk []) (Array.mk t)])/\rE 103 [vG [Value.func (Fn.func q) (Array.mk []) (Array.mk r),Value.func (Fn.func s) (Array.mk []) (Array.mk t)],vG [vS d e f,vS g h i,vS j k l,iI m,vS n o p]] c λb c=>∃ d e f g,b = vU [vS d e f,iI g]/\a c/\R (vU [vS d e f,iI g]) c):ρ 160 [φ a i j b k l c m n A d o p] w R:=rv Tryz.func160 AE (by kernel_rfl) h
abbrev B7:FuncId:=162
def zh:bm:={ rngs:=[],loops:=[(4,[(22,(.one (.int .i64)))])],joins:=[(2,[(19,(.one .bool))])],blocks:=[] }
theorem zi (h:new w (oC [vS a i j] 71) λa c=>new c (oC [vS b k l] 71) λb c=>∃ (d:lP [(19,jD)]),(∃ e f g,World.cell? c (aM a) = some (vS e f g)/\rE 208 [vS e f g] c λc e=>∃ f,c = vB f/\br (!f) (d true e) (∃ c f g,World.cell? e (aM b) = some (vS c f g)/\∃ b c g,World.cell? e (aM a) = some (vS b c g)/\d ((f:Int) != (c:Int)) e))/\∀ (_:ν) c e,d c e->br c (R (vU [vS none 0 0,iI 1]) e) (∃ c d f,World.cell? e (aM b) = some (vS c d f)/\τ [(22,aB)] λf g=>f 0 e/\∀ (_:ν) e h,f e h->br (decide (e < (d:Int))) (idx c d e 1 λa=>∃ b c d,World.cell? h a = some (vS b c d)/\rE 209 [vS b c d,Value.func (Fn.func 210) (Array.mk []) (Array.mk [])] h λa b=>∃ c,a = vB c/\br c (R (vU [vS none 0 0,iI 1]) b) (ax (e + 1)/\f (e + 1) b/\g (e + 1) b < g e h)) (∃ c d e,World.cell? h (aM a) = some (vS c d e)/\tE (d:Int) (d:Int) 8/\new h (Obj.cells (Array.mk (ir (Int.toNat (d:Int)) [vP none])) 118) λc e=>new e (oC [vS none 0 0] 286) λe f=>st1 f (aM e) (vS (some (aM c)) (Int.toNat (d:Int)) (Int.toNat (d:Int))) λc=>∃ d f g,World.cell? c (aM a) = some (vS d f g)/\tE (f:Int) (f:Int) 24/\new c (Obj.cells (Array.mk (ir (Int.toNat (f:Int)) [vS none 0 0])) 24) λc d=>new d (oC [vS none 0 0] 71) λd g=>st1 g (aM d) (vS (some (aM c)) (Int.toNat (f:Int)) (Int.toNat (f:Int))) λc=>∃ f g h,World.cell? c (aM a) = some (vS f g h)/\rE 211 [vS f g h,Value.func (Fn.func 212) (Array.mk []) (Array.mk [vP (some (aM e)),vP (some (aM b)),vP (some (aM a)),vP (some (aM d))])] c λa b=>a = vU []/\∃ a c e,World.cell? b (aM d) = some (vS a c e)/\R (vU [vS a c e,iI 0]) b))):ρ 162 [(.slice a i j),(.slice b k l)] w R:=rv Tryz.func162 zh (by kernel_rfl) h
abbrev B8:FuncId:=208
def zj:bm:={ rngs:=[],loops:=[],joins:=[],blocks:=[] }
theorem zk (h:new w (oC [vS a i j] 71) λa b=>∃ c d e,World.cell? b (aM a) = some (vS c d e)/\rE 242 [vS c d e,Value.func (Fn.func 243) (Array.mk []) (Array.mk [vP (some (aM a))])] b λa b=>∃ c,a = vB c/\R (vB !c) b):ρ 208 [(.slice a i j)] w R:=rv Tryz.func208 zj (by kernel_rfl) h
abbrev xI:FuncId:=210
def uN:bm:={ rngs:=[],loops:=[],joins:=[],blocks:=[] }
theorem uO (h:br (decide (A < 0)) (R (vB true) w) (R (vB (decide (1024<=A))) w)):ρ 210 [(.int .i64 A)] w R:=rv Tryz.func210 uN (by kernel_rfl) h
abbrev D7:FuncId:=211
def AG:bm:={ rngs:=[],loops:=[(5,[(26,(.one (.int .i64)))]),(12,[]),(14,[]),(30,[(170,(.one (.int .i64)))])],joins:=[(26,[])],blocks:=[] }
theorem AH {a:aa3} {b c:Nat} {d:FuncId} {e:List Value} {w:aa4} {R:Value->WP} (h:tE (b:Int) (b:Int) 8/\new w (Obj.cells (Array.mk (ir (Int.toNat (b:Int)) [iI 0])) 3) λc f=>new f (oC [vS none 0 0] 24) λf g=>st1 g (aM f) (vS (some (aM c)) (Int.toNat (b:Int)) (Int.toNat (b:Int))) λc=>ax ((b:Int) + 1)/\new c (oC [vS none 0 0] 24) λc g=>new g (oC [vS none 0 0] 318) λg h=>τ [(26,aB)] λi j=>i 0 h/\∀ (_:ν) h k,i h k->br (decide (h < (b:Int))) (∃ l m n,World.cell? k (aM f) = some (vS l m n)/\idx l m h 1 λl=>∃ m,World.cell? k l = some (iI m)/\br (decide (0 < m)) (ax (h + 1)/\i (h + 1) k/\j (h + 1) k < j h k) (new k (Obj.map (Array.mk []) 0) λl m=>∃ n o p,World.cell? m (aM c) = some (vS n o p)/\ax ((o:Int) + 1)/\bf Proofs.Tryz.prog (Instr.mapUpdate 226 (Value.map (some l)) (iI h) (iI ((o:Int) + 1))) m λ(_:Unit) (m:aa4)=>rE 246 [iI h,vP (some (aM c)),vP (some (aM f)),vP (some (aM g))] m λm n=>m = vU []/\τ [] λm o=>m n/\∀ (_:ν) n,m n->∃ p q r,World.cell? n (aM g) = some (vS p q r)/\br (decide (0 < (q:Int))) (∃ h i j,World.cell? n (aM g) = some (vS h i j)/\∃ j k p,World.cell? n (aM g) = some (vS j k p)/\ax ((k:Int) - 1)/\idx h i ((k:Int) - 1) 2 λh=>τ [] λi j=>i n/\∀ (_:ν) k,i k->∀ p,drawn k p->∃ (q:WP),q p/\∃ r,(∀ a,q a->World.cell? a (Addr.add h 1) = some (iI r))/\∃ s,(∀ a,q a->World.cell? a h = some (iI s))/\idx a b s 1 λs=>∃ t u v,(∀ a,q a->World.cell? a s = some (vS t u v))/\br (decide (r < (u:Int))) (∀ d,drawn p d->∃ (e:WP),e d/\∃ p,(∀ a,e a->World.cell? a h = some (iI p))/\idx a b p 1 λa=>∃ b p q,(∀ c,e c->World.cell? c a = some (vS b p q))/\∃ a,(∀ b,e b->World.cell? b (Addr.add h 1) = some (iI a))/\idx b p a 1 λa=>∃ b,(∀ c,e c->World.cell? c a = some (iI b))/\∃ a,World.cell? d (Addr.add h 1) = some (iI a)/\ax (a + 1)/\st1 d (Addr.add h 1) (iI (a + 1)) λa=>∃ d e p,World.cell? a (aM f) = some (vS d e p)/\idx d e b 1 λd=>∃ e,World.cell? a d = some (iI e)/\br (e == 0) (∃ d e h,World.cell? a (aM c) = some (vS d e h)/\ax ((e:Int) + 1)/\bf Proofs.Tryz.prog (Instr.mapUpdate 226 (Value.map (some l)) (iI b) (iI ((e:Int) + 1))) a λ(_:Unit) (a:aa4)=>rE 246 [iI b,vP (some (aM c)),vP (some (aM f)),vP (some (aM g))] a λa b=>a = vU []/\m b/\o b < o n) (∀ c,drawn a c->∃ (a:WP),a c/\∃ d e g,(∀ b,a b->World.cell? b (aM f) = some (vS d e g))/\∃ g,(∀ b,a b->World.cell? b h = some (iI g))/\∃ l m n,(∀ b,a b->World.cell? b (aM f) = some (vS l m n))/\∃ n,(∀ b,a b->World.cell? b h = some (iI n))/\idx l m n 1 λh=>∃ l,(∀ b,a b->World.cell? b h = some (iI l))/\∃ h m n,(∀ b,a b->World.cell? b (aM f) = some (vS h m n))/\idx h m b 1 λb=>∃ f,(∀ c,a c->World.cell? c b = some (iI f))/\idx d e g 1 λa=>st1 c a (iI (if f < l then f else l)) λa=>i a/\j a < j k)) (∃ a,World.cell? p h = some (iI a)/\∃ h i j,World.cell? p (aM g) = some (vS h i j)/\∃ k q r,World.cell? p (aM g) = some (vS k q r)/\ax ((q:Int) - 1)/\lR h i j none (some ((q:Int) - 1)) none 2 λ(h:aa3) (i j:Nat)=>st1 p (aM g) (vS h i j) λh=>∃ (i:lP []),(∃ b c d,World.cell? h (aM g) = some (vS b c d)/\br (decide (0 < (c:Int))) (∃ b c d,World.cell? h (aM g) = some (vS b c d)/\∃ d e j,World.cell? h (aM g) = some (vS d e j)/\ax ((e:Int) - 1)/\idx b c ((e:Int) - 1) 2 λb=>∃ c,World.cell? h b = some (iI c)/\∀ b,drawn h b->∃ (d:WP),d b/\∃ e g h,(∀ a,d a->World.cell? a (aM f) = some (vS e g h))/\∃ h j k,(∀ a,d a->World.cell? a (aM f) = some (vS h j k))/\idx h j c 1 λh=>∃ j,(∀ a,d a->World.cell? a h = some (iI j))/\∃ h k l,(∀ a,d a->World.cell? a (aM f) = some (vS h k l))/\idx h k a 1 λa=>∃ f,(∀ b,d b->World.cell? b a = some (iI f))/\idx e g c 1 λa=>st1 b a (iI (if f < j then f else j)) λa=>i a) (i h))/\∀ (_:ν) g,i g->∀ h,drawn g h->∃ (g:WP),g h/\∃ i j k,(∀ a,g a->World.cell? a (aM f) = some (vS i j k))/\idx i j a 1 λi=>∃ j,(∀ a,g a->World.cell? a i = some (iI j))/\bf Proofs.Tryz.prog (Instr.lookup 226 (Value.map (some l)) (iI a) false) h λh i=>∃ k,h = iI k/\g i/\br (j == k) (∃ g h j,World.cell? i (aM c) = some (vS g h j)/\bf Proofs.Tryz.prog (Instr.lookup 226 (Value.map (some l)) (iI a) false) i λi k=>∃ p,i = iI p/\ax (p - 1)/\lR g h j (some (p - 1)) none none 1 λ(g:aa3) (h i:Nat)=>rE 214 [vS g h i] k λg h=>∃ i j k,g = vS i j k/\∃ g p q,World.cell? h (aM c) = some (vS g p q)/\bf Proofs.Tryz.prog (Instr.lookup 226 (Value.map (some l)) (iI a) false) h λa h=>∃ l,a = iI l/\ax (l - 1)/\lR g p q none (some (l - 1)) none 1 λ(a:aa3) (g l:Nat)=>st1 h (aM c) (vS a g l) λa=>τ [(170,aB)] λc g=>c 0 a/\∀ (_:ν) a h,c a h->br (decide (a < (j:Int))) (idx i j a 1 λd=>∃ e,World.cell? h d = some (iI e)/\∃ d i j,World.cell? h (aM f) = some (vS d i j)/\idx d i e 1 λd=>st1 h d (iI ((b:Int) + 1)) λb=>ax (a + 1)/\c (a + 1) b/\g (a + 1) b < g a h) (yc (Proofs.YtndaepmjkbmjmaaGreatDoor.Fn d) (rE d (vS i j k :: e) h λa b=>a = vU []/\m b/\o b < o n))) (m i/\o i < o n))) (ax (h + 1)/\i (h + 1) n/\j (h + 1) n < j h k))) (R (vU []) k)):ρ 211 [(.slice a b c),(.func (.func d) #[] ⟨e⟩)] w R:=rv Tryz.func211 AG (by kernel_rfl) h
abbrev xJ:FuncId:=212
def uP:bm:={ rngs:=[],loops:=[(2,[(19,(.one (.int .i64)))]),(7,[(30,(.one (.int .i64)))]),(11,[(45,(.one (.int .i64)))]),(19,[(68,(.one (.int .i64)))])],joins:=[],blocks:=[] }
theorem uQ {d:Addr} {e:Addr} {f:Addr} {g:Addr} (h:rE 59 [iI 1024,vS none 0 0] w λb c=>∃ h,b = vP h/\τ [(19,aB)] λb j=>b 0 c/\∀ (_:ν) c k,b c k->br (decide (c < (i:Int))) (idx a i c 1 λa=>∃ e,World.cell? k a = some (iI e)/\∃ a f g,World.cell? k d = some (vS a f g)/\idx a f e 1 λa=>st1 k a (vP h) λa=>ax (c + 1)/\b (c + 1) a/\j (c + 1) a < j c k) (τ [(30,aB)] λb c=>b 0 k/\∀ (_:ν) j k,b j k->br (decide (j < (i:Int))) (idx a i j 1 λa=>∃ g,World.cell? k a = some (iI g)/\∃ a i l,World.cell? k e = some (vS a i l)/\idx a i g 1 λa=>∃ e i l,World.cell? k a = some (vS e i l)/\rE 60 [vP h,vS e i l] k λa e=>∃ i,a = iI i/\∃ a i l,World.cell? e f = some (vS a i l)/\idx a i g 1 λa=>∃ f g i,World.cell? e a = some (vS f g i)/\τ [(45,aB)] λa i=>a 0 e/\∀ (_:ν) e l,a e l->br (decide (e < (g:Int))) (idx f g e 1 λb=>∃ c,World.cell? l b = some (iI c)/\∃ b f g,World.cell? l d = some (vS b f g)/\idx b f c 1 λb=>∃ f,World.cell? l b = some (vP f)/\UY Proofs.YtndaepmjkbmjmaaGreatDoor.Ty (λ(a:Sem Value) (b:Value->Prop)=>∃ c,Sem.run Proofs.Tryz.prog a l = Result.ok c l/\b c) BinOp.neq 118 (Operand.tmp 52) (Operand.tmp 53) f h λb=>br b (∃ b f g,World.cell? l d = some (vS b f g)/\idx b f c 1 λb=>∃ c,World.cell? l b = some (vP c)/\new l (oC [vP c] 118) λb c=>rE 213 [vP h,vS (some (aM b)) 1 1] c λb c=>∃ d,b = iI d/\ax (e + 1)/\a (e + 1) c/\i (e + 1) c < i e l) (ax (e + 1)/\a (e + 1) l/\i (e + 1) l < i e l)) (ax (j + 1)/\b (j + 1) l/\c (j + 1) l < c j k)) (rE 61 [vP h] k λb c=>∃ d e f,b = vS d e f/\τ [(68,aB)] λb h=>b 0 c/\∀ (_:ν) c j,b c j->br (decide (c < (i:Int))) (idx a i c 1 λa=>∃ i,World.cell? j a = some (iI i)/\∀ a,drawn j a->∃ (k:WP),k a/\∃ l m n,(∀ a,k a->World.cell? a g = some (vS l m n))/\rE 214 [vS d e f] a λa d=>∃ e f g,a = vS e f g/\k d/\idx l m i 1 λa=>st1 d a (vS e f g) λa=>ax (c + 1)/\b (c + 1) a/\h (c + 1) a < h c j) (R (vU []) j)))):ρ 212 [(.slice a i j),(.pointer (some d)),(.pointer (some e)),(.pointer (some f)),(.pointer (some g))] w R:=rv Tryz.func212 uP (by kernel_rfl) h
abbrev xK:FuncId:=243
def uR:bm:={ rngs:=[],loops:=[],joins:=[],blocks:=[] }
theorem uS {d:Addr} (h:rE 209 [vS a i j,Value.func (Fn.func 244) (Array.mk []) (Array.mk [vP (some d)])] w λa b=>∃ c,a = vB c/\R (vB c) b):ρ 243 [(.slice a i j),(.pointer (some d))] w R:=rv Tryz.func243 uR (by kernel_rfl) h
abbrev te:FuncId:=244
def p8:bm:={ rngs:=[],loops:=[],joins:=[],blocks:=[] }
theorem p9 {b:Addr} (h:br (decide (A < 0)) (R (vB true) w) (∃ a c d,World.cell? w b = some (vS a c d)/\R (vB (decide ((c:Int)<=A))) w)):ρ 244 [(.int .i64 A),(.pointer (some b))] w R:=rv Tryz.func244 p8 (by kernel_rfl) h
end
abbrev zl:FuncId:=246
def wh:bm:={ rngs:=[],loops:=[],joins:=[],blocks:=[] }
theorem wi {a:Int} {b c d:Addr} {w:aa4} {R:Value->WP} (h:∃ e f g,World.cell? w b = some (vS e f g)/\new w (oC [iI a] 3) λh i=>rS (fe 24 (Array.mk [vS e f g,vS (some (aM h)) 1 1])) i λe f=>∃ g h i,e = vS g h i/\st1 f b (vS g h i) λe=>∃ f g h,World.cell? e c = some (vS f g h)/\∃ c h i,World.cell? e b = some (vS c h i)/\idx f g a 1 λb=>st1 e b (iI (h:Int)) λb=>∃ c e f,World.cell? b d = some (vS c e f)/\new b (oC [iI a,iI 0] 320) λa b=>rS (fe 318 (Array.mk [vS c e f,vS (some (aM a)) 1 1])) b λa b=>∃ c e f,a = vS c e f/\st1 b d (vS c e f) λa=>R (vU []) a):ρ 246 [(.int .i64 a),(.pointer (some b)),(.pointer (some c)),(.pointer (some d))] w R:=rv Tryz.func246 wh (by kernel_rfl) h
def Kr (l:List (Nat × Nat)):List Value:=l.flatMap λx=>[.int .i64 (x.1:Int),.int .i64 (x.2:Int)]
theorem HF:∀ l,(Kr l).length = l.length * 2
 | []=>rfl
 | x :: l=>by
  have:=HF l
  unfold Kr at this ⊢
  rw [Zw,Y0,this]; simp; omega
theorem JR (l:List (Nat × Nat)) (a b:Nat):Kr l ++ [Value.int .i64 (a:Int),.int .i64 (b:Int)] = Kr (l ++ [(a,b)]):=by simp [Kr]
theorem QM {gs:List (List Nat)} (h:∀ g∈gs,g≠[]):gs.length<=gs.flatten.length:=by
 induction gs with
 | nil=>simp
 | cons g gs ih =>
  have G:=ih λx u=>h x (by simp [u]);have z:=aas.2 (h g σ);rw [List.flatten_cons,Y0,ZC]; omega
theorem bZ.Good.ne {E:Nat->List Nat} {gs:List (List Nat)} (h:bZ.Good E gs):∀ g∈gs,g≠[]:=λg u=>by
 obtain ⟨G,z,e⟩:=aaS u
 exact (h.2 G g z e).1
theorem bZ.Good.len {E:Nat->List Nat} {gs:List (List Nat)} {N:Nat} (h:bZ.Good E gs) (hl:∀ v∈gs.flatten,v < N):gs.length<=N/\∀ g∈gs,g.length<=N:=by
 have O:=QM h.ne;have u:=bZ.QL h.1 hl;refine ⟨ω,λg z=>?_⟩;obtain ⟨R,G,e⟩:=aaS z;rw [e] at u; simp at u; omega
section
abbrev Ls:=(aa3 × Nat) × List Int
def D8 (p:Ls):Value:=.slice p.1.1 p.2.length p.1.2
def AJ (p:Ls):az:=own 1 p.1.1 p.2.length p.1.2 (iv p.2)
variable {w:aa4} {L:List az}
abbrev wj (ko kl kw bl N:Nat) (oa:aa3) (oc:Nat) (wa:aa3) (wc:Nat) (op low:List Nat) (wk:List (Nat × Nat)):List az :=
 [aH ko [.slice oa op.length oc],own 1 oa op.length oc (pA op),aH kl [.slice (some ⟨bl,0,none⟩) N N],aH bl (pA low),aH kw [.slice wa wk.length wc],own 2 wa wk.length wc (Kr wk)]
theorem MW {ko kl kw bl N n:Nat} {oa:aa3} {oc:Nat} {wa:aa3} {wc:Nat} {op low:List Nat} {wk:List (Nat × Nat)}
  (h:St w (wj ko kl kw bl N oa oc wa wc op low wk ++ L)) (hN:low.length = N) (hn:n < N) (ho:op.length < N) (hw:wk.length < N) (hb:N * 24<=140737488355328) :
  ρ zl [.int .i64 (n:Int),.pointer (some (aM ko)),.pointer (some (aM kl)),.pointer (some (aM kw))] w λv w'=>v = .tuple (Array.mk []) /\
   ∃ oa oc wa wc,St w' (wj ko kl kw bl N oa oc wa wc (op ++ [n]) (low.set n (op.length + 1)) (wk ++ [(n,0)]) ++ L):=by
 refine @wi (n:Int) (aM ko) (aM kl) (aM kw) w _ ?_;refine ⟨_,_,_,(ah 0 h.l).cell0 (sub.refl _),ag h λZ W h=>?_⟩;refine (aL aQ (rfl:aj Ty _ = .slice _) (rfl:aj Ty _ = .slice _) rfl rfl rfl (h.pick 7 [0,2,1,3,4,5,6]) rfl (by simp [aG]) (by show (op.length + 1) * 8<=_; omega) ω).mono ?_;rintro _ w2 ⟨O,z,rfl,h⟩;rw [PU] at h;refine ⟨_,_,_,rfl,bj (h.pick 7 [2,0,3,4,5,6]) σ λw3 h=>?_⟩;refine ⟨_,_,_,(ah 2 h.l).cell0 (sub.refl _),_,_,_,(ah 0 h.l).cell0 (sub.refl _),aw rfl hn ?_⟩;rw [aK];refine bj (h.pick 6 [3,0,1,2,4,5]) (by simp [pA]; omega) λV h=>?_;refine ⟨_,_,_,(ah 4 h.l).cell0 (sub.refl _),ag h λR w5 h=>?_⟩;refine (aL aQ (rfl:aj Ty _ = .slice _) (rfl:aj Ty _ = .slice _) rfl rfl rfl (h.pick 7 [0,6,1,2,3,4,5]) rfl (by simp [aG]) (by show (wk.length + 1) * 16<=_; omega) ω).mono ?_;rintro _ X ⟨u,G,rfl,h⟩;refine ⟨_,_,_,rfl,bj (h.pick 7 [6,0,2,3,4,5]) σ λY h=>⟨rfl,O,z,u,G,?_⟩⟩;have U:(op ++ [n]).length = op.length + 1:=σ
 have l2:(wk ++ [(n,0)]).length = wk.length + 1:=σ
 unfold wj;rw [U,l2,<- yN,<- JR];exact h.pick 6 [3,4,5,2,0,1]
end
section
variable {w:aa4} {L:List az}
theorem zm {l:List (Nat × Nat)}:∀ {i n k:Nat},l[i]? = some (n,k)->(Kr l)[i * 2]? = some (.int .i64 (n:Int))/\(Kr l)[i * 2 + 1]? = some (.int .i64 (k:Int)):=by
 induction l with
 | nil=>intro i n k h; simp at h
 | cons x l ih =>
  intro i n k h;have e:Kr (x :: l) = Value.int .i64 (x.1:Int) :: Value.int .i64 (x.2:Int) :: Kr l:=rfl;rw [e];cases i with
  | zero=>simp at h; subst h; simp
  | succ i =>
   simp only [aaL] at h;have:=ih h;rw [show (i + 1) * 2 = i * 2 + 1 + 1 from ω,show i * 2 + 1 + 1 + 1 = (i * 2 + 1) + 1 + 1 from rfl];simpa using this
theorem QO {l:List (Nat × Nat)}:∀ {i n k:Nat} (k' : Nat),l[i]? = some (n,k)->(Kr l).set (i * 2 + 1) (.int .i64 (k' : Int)) = Kr (l.set i (n,k')):=by
 induction l with
 | nil=>intro i n k k' h; simp at h
 | cons x l ih =>
  intro i n k k' h;have e:Kr (x :: l) = Value.int .i64 (x.1:Int) :: Value.int .i64 (x.2:Int) :: Kr l:=rfl;rw [e];cases i with
  | zero=>simp at h; subst h; rfl
  | succ i =>
   simp only [aaL] at h;rw [show (i + 1) * 2 + 1 = (i * 2 + 1) + 1 + 1 from ω,List.set_cons_succ,List.set_cons_succ,ih k' h]; rfl
theorem St.Xh {M Q L:List az} (h:St w (M ++ (Q ++ L))):St w (Q ++ (M ++ L)):=h.perm (by
 rw [<- Y6,<- Y6]; exact List.perm_append_comm.append_right L)
theorem QP (xs:List Nat):pA xs = iv (xs.map Int.ofNat):=by simp [pA,iv]
end
def du (S:List bZ.Sc):List (Nat × Nat):=(S.map λs=>(s.1,s.2.1)).reverse
theorem cH (n k:Nat) (r:List Nat) (t:List bZ.Sc):du ((n,k,r) :: t) = du t ++ [(n,k)]:=by simp [du]
theorem D9:∀ (S:List bZ.Sc),(du S).length<=(bZ.aF S).length
 | []=>by simp [du,bZ.aF]
 | (n,k,r) :: t=>by
  have:=D9 t
  rw [cH,bZ.cd,Y0]; simp; omega
def lf (low:List Nat) (v:Nat):Nat:=low.getD v 0
theorem oD {low:List Nat} {i x:Nat} (h:i < low.length):lf (low.set i x) = bZ.B6 (lf low) i x:=by
 funext j
 unfold lf bZ.B6;rw [YX,ZN]
 by_cases e:j = i
 ·subst e; simp [h]
 ·rw [YZ (λh=>e h.symm),YZ e]; exact (YX).symm
theorem D_ {low:List Nat} {i:Nat} (h:i < low.length):low[i]? = some (lf low i):=by
 unfold lf; rw [YX,YU h]; rfl
def xL (mp:List (Int × Value)):List bZ.Sc->Prop
 | []=>True
 | (n,_,_) :: t=>assoc (n:Int) mp = some (.int .i64 (((bZ.aF t).length + 1:Nat):Int))/\xL mp t
theorem xL.put {mp:List (Int × Value)} {m:Nat} {v:Value}:∀ (S:List bZ.Sc),xL mp S->(∀ s∈S,s.1≠m)->xL (bU (m:Int) v mp) S
 | [],_,_=>trivial
 | (n,k,r) :: t,⟨h1,h2⟩,hn=>by
  refine ⟨?_,xL.put t h2 λs hs=>hn s (by simp [hs])⟩
  have:=hn (n,k,r) σ
  rw [dU,YZ (by simp at this ⊢; omega)]
  exact h1
theorem VW {S:List bZ.Sc}:∀ s∈S,s.1∈bZ.aF S:=by
 induction S with
 | nil=>intro s u; simp at u
 | cons x t ih =>
  obtain ⟨n,k,r⟩:=x;intro s u
  rcases Ze.1 u with rfl | u
  ·simp [bZ.aF]
  ·simp [bZ.aF,ih s u]
def En (es:List (List Int)) (n:Nat):List Nat:=(es.getD n []).map Int.toNat
def Ea (es:List (List Int)):Prop:=∀ l∈es,∀ x∈l,0<=x/\x < (es.length:Int)
theorem QQ {es:List (List Int)} {n:Nat} {l:List Int} (h:es[n]? = some l):En es n = l.map Int.toNat:=by
 unfold En; rw [YX,h]; rfl
theorem UO {es:List (List Int)} (hR:Ea es) {n m:Nat} (h:m∈En es n):m < es.length:=by
 unfold En at h;rw [YX] at h;cases hl:es[n]? with
 | none=>rw [hl] at h; simp at h
 | some l =>
  rw [hl] at h;obtain ⟨x,u,rfl⟩:=Zh.1 h;have:=hR l (YV hl) x u;omega
def nM (low:List Nat) (n:Nat):List bZ.Sc->List Nat
 | []=>low
 | (u,_,_) :: _=>low.set u (min (lf low u) (lf low n))
def gG (x:Nat) (low:List Nat) (g:List Nat):List Nat:=g.foldl (λl m=>l.set m x) low
theorem xM (x:Nat):∀ (g low:List Nat),(gG x low g).length = low.length
 | [],_=>rfl
 | m :: g,low=>by show (gG x (low.set m x) g).length = _; rw [xM x g]; simp
theorem JS (x:Nat) (low g:List Nat) (m:Nat):gG x low (g ++ [m]) = (gG x low g).set m x:=by simp [gG]
theorem Gb (x:Nat):∀ (g low:List Nat),(∀ m∈g,m < low.length)->lf (gG x low g) = λv=>if v∈g then x else lf low v
 | [],_,_=>by funext v; simp [gG]
 | m :: g,low,h=>by
  have:=Gb x g (low.set m x) (λy hy=>by rw [Zn]; exact h y (by simp [hy]))
  show lf (gG x (low.set m x) g) = _
  rw [this,oD (h m σ)]
  funext v
  by_cases e:v∈g
  ·simp [e]
  ·by_cases e2:v = m
   ·subst e2; simp [e,bZ.B6]
   ·simp [e,e2,bZ.B6]
structure WD where
 S:List bZ.Sc
 low:List Nat
 gs:List (List Nat)
 mp:List (Int × Value)
 oa:aa3
 oc:Nat
 wa:aa3
 wc:Nat
section
variable {w:aa4} {L:List az} {es:List (List Int)} {a:aa3} {N c l:Nat} {d:FuncId} {e:List Value} {Q:List (List Nat)->List az}
theorem JT {xs:List Int} (hr:bh (hp w) xs a l) (hb:xs.length * 8<=140737488355328) (hb2:xs.length<=9223372036854775807):ρ py [.slice a l c] w λv w'=>∃ o c',v = .slice o xs.length c'/\St w' (own 1 o xs.length c' (iv xs) :: all w):=by
 refine nb ?_;have z:=hr.1;cases a with
 | none =>
  have h0:xs = []:=by
   cases xs with
   | nil=>rfl
   | cons t ts=>obtain ⟨R,_,e,_⟩:=hr.2 0 t rfl; cases e
  subst h0;exact ⟨none,0,rfl,ay 1 (St.all w)⟩
 | some R =>
  refine ag (St.all w) λb U O=>?_;have V:St U (own 1 (some ⟨b,0,none⟩) 0 0 [] :: all w):=dz (cs:=[]) O rfl rfl (Zc _);have hr:=hr.mono O.aW
  refine (jh aQ (rfl:aj Ty _ = .slice _) rfl rfl rfl V (n:=l) (news:=iv xs) (fY aQ (rfl:aj Ty _ = .slice _) (by rw [jl,z,Z4]) (by
    rcases hr.iv with h0 | ⟨W,e,X⟩
    ·exact .inl (by have:=congrArg List.length h0; rw [jl,z] at this; exact this)
    ·cases e; exact .inr ⟨R,rfl,λj u Z=>lB (X j u Z)⟩) (by
   intro u hu;obtain ⟨t,_,rfl⟩:=Zh.1 hu;rfl)) (by show (0 + l) * 8<=_; omega) ω).mono ?_
  rintro _ w2 ⟨Y,c',rfl,G⟩;rw [ZV,<- z] at G ⊢;rw [Zz] at G;exact ⟨_,_,_,rfl,Y,c',rfl,G⟩
def WQ (ko kl kw bl km N fr:Nat) (es:List (List Int)) (Q:List (List Nat)->List az) (L:List az) (x:WD) (w:aa4):Prop :=
 x.low.length = N/\bZ.Inv (En es) N (lf x.low) x.S x.gs/\(∀ v,v<=fr->lf x.low v≠0)/\xL x.mp x.S /\
  St w (wj ko kl kw bl N x.oa x.oc x.wa x.wc (bZ.aF x.S) x.low (du x.S) ++ (mapA km x.mp :: (Q x.gs ++ L)))
def UP (d:FuncId) (e:List Value) (es:List (List Int)) (Q:List (List Nat)->List az):Prop :=
 ∀ (gs:List (List Nat)) (g:List Nat) (F:List az) (w:aa4) (o:aa3) (gc:Nat),bZ.Good (En es) (gs ++ [g])->(∀ v∈(gs ++ [g]).flatten,v < es.length) ->
  St w (own 1 o g.length gc (pA g) :: (Q gs ++ F))->ρ d (.slice o g.length gc :: e) w λv w'=>v = .tuple (Array.mk [])/\St w' (Q (gs ++ [g]) ++ F)
theorem VX (hfl:Fn d = true) (hD:UP d e es Q) (hE:∀ gs h,aD (Q gs ++ L) h->bh h es a N) (hR:Ea es) (hB:∀ l∈es,l.length * 8<=140737488355328) (hb:N * 24<=140737488355328) (h:St w (Q [] ++ L)) :
  ρ D7 [.slice a N c,.func (.func d) (Array.mk []) ⟨e⟩] w λv w'=>v = .tuple (Array.mk [])/\∃ gs,bZ.Good (En es) gs/\(∀ v,v∈gs.flatten↔v < N)/\St w' (Q gs ++ L):=by
 refine @AH a N c d e w _ ?_;have hN:es.length = N:=(hE [] _ h.l).1;refine ⟨⟨ω,rfl,ω⟩,ag h λY w1 h=>ag h λkl w2 h=>bj h σ λw3 h=>⟨⟨ω,ω⟩,ag h λko w4 h=>ag h λkw w5 h=>?_⟩⟩
 have h:St w5 (wj ko kl kw Y N none 0 none 0 [] (List.replicate N 0) [] ++ (Q [] ++ L)):=by
  have e1:ir (Int.toNat (N:Int)) [iI 0] = pA (List.replicate N 0):=by rw [dq]; simp [pA]
  rw [e1] at h;have h:=ay 2 (ay 1 h);exact h.pick 6 [3,1,4,5,2,0]
 refine ⟨λz w'=>∃ k:Nat,z = k/\k<=N/\∃ gs low oa oc wa wc,low.length = N/\bZ.Inv (En es) N (lf low) [] gs/\(∀ v,v < k->lf low v≠0)/\St w' (wj ko kl kw Y N oa oc wa wc [] low [] ++ (Q gs ++ L)),
  λz _=>N - z.toNat,⟨0,rfl,Y4 _,[],List.replicate N 0,none,0,none,0,σ,?_,λv hv=>ω,h⟩,?_⟩
 ·have:lf (List.replicate N 0) = λ_=>0:=by
   funext v; unfold lf; rw [YX,Z2]; split <;> rfl
  rw [this]; exact bZ.Inv.start _ _
 rintro _ z w6 ⟨k,rfl,hk,gs,low,oa,oc,wa,wc,hl,hI,hs,h⟩;refine ae (λh1=>?_) λh1=>?_
 rotate_left
 ·have h1:k = N:=by have:=YS h1; omega
  subst h1
  refine ⟨rfl,gs,hI.good,λv=>⟨λhv=>hI.lt v (by simpa [bZ.aF] using hv),λhv=>?_⟩,?_⟩
  ·have:=hI.seen hv (hs v hv);simpa [bZ.aF] using this
  ·exact h.tail.tail.tail.tail.tail.tail
 have h1:k < N:=by have:=YR h1; omega
 refine ⟨_,_,_,(ah 2 h.l).cell0 (sub.refl _),aw rfl h1 ⟨_,(ah 3 h.l).cell (sub.refl _) (j:=k) (jm (D_ ω)),?_⟩⟩
 refine ae (λh2=>?_) λh2=>?_
 ·have h2:=YR h2;refine ⟨⟨ω,ω⟩,⟨k + 1,rfl,h1,gs,low,oa,oc,wa,wc,hl,hI,λv hv=>?_,h⟩,bn h1⟩
  by_cases ev:v = k
  ·subst ev; omega
  ·exact hs v ω
 have h2:lf low k = 0:=by have:=YS h2; omega
 refine nD h λkm w7 h=>?_;have h:=dV (κ:=Int) h;refine ⟨_,_,_,(ah 1 h.l).cell0 (sub.refl _),⟨σ,σ⟩,(dr (κ:=Int) aQ (rfl:aj Ty _ = .map _ _) bJ h (k:Int) _).mono ?_⟩;rintro _ w8 h;refine (MW (n:=k) (h.pick 7 [1,2,3,4,5,6,0]) hl h1 (by simp; omega) (by simp; omega) hb).mono ?_;rintro _ w9 ⟨rfl,oa,oc,wa,wc,h⟩
 refine ⟨rfl,λw'=>∃ x,WQ ko kl kw Y km N k es Q L x w',λw'=>UJ (WQ ko kl kw Y km N k es Q L) (λx=>bZ.todo (En es) N (lf x.low) x.S) w',?_,?_⟩
 ·refine ⟨⟨[(k,0,[])],low.set k 1,gs,_,oa,oc,wa,wc⟩,by simp [hl],?_,?_,?_,h⟩
  ·show bZ.Inv _ _ (lf (low.set k 1)) _ _
   rw [oD ω];exact hI.root h1 h2
  ·intro v hv
   show lf (low.set k 1) v≠0
   rw [oD ω]
   by_cases ev:v = k
   ·subst ev; rw [bZ.bu]; omega
   ·rw [bZ.dx ev]; exact hs v ω
  ·exact ⟨by show assoc _ [(_,_)] = _; simp [assoc,bZ.aF],trivial⟩
 intro _ ec hw;obtain ⟨⟨S,b3,V,mp,oa,oc,wa,wc⟩,⟨bi,a7,bT,hM,h⟩,hm⟩:=Hb hw;simp only at bi a7 bT hM h hm;refine ⟨_,_,_,(ah 4 h.l).cell0 (sub.refl _),?_⟩;refine ae (λh3=>?_) λh3=>?_
 rotate_left
 ·have h3:=YS h3;cases S with
  | cons x t=>obtain ⟨n,j,r⟩:=x; rw [cH] at h3; simp at h3
  | nil =>
   refine ⟨⟨ω,ω⟩,⟨k + 1,rfl,h1,V,b3,oa,oc,wa,wc,bi,a7,λv hv=>bT v ω,?_⟩,bn h1⟩;exact h.pick 7 [0,1,2,3,4,5]
 cases S with
 | nil=>have h3:=YR h3; simp [du] at h3
 | cons x t =>
 obtain ⟨n,k0,r⟩:=x;have eD:=a7.len;have f3:=D9 ((n,k0,r) :: t);have fd:(du ((n,k0,r) :: t)).length = (du t).length + 1:=by rw [cH]; simp
 have X:n < N:=a7.lt n (by simp [bZ.aF]);obtain ⟨f2,aI,_⟩:=cr (h.pick 7 [5,0,1,2,3,4,6]) (j:=(du t).length * 2) (zm (i:=(du t).length) (n:=n) (k:=k0) (by rw [cH]; simp)).1;refine ⟨_,_,_,(ah 4 h.l).cell0 (sub.refl _),_,_,_,(ah 4 h.l).cell0 (sub.refl _),⟨ω,ω⟩,?_⟩;have ei:((du ((n,k0,r) :: t)).length:Int) - 1 = ((du t).length:Int):=ω
 rw [ei];refine aq aI ω ?_;rw [aN]
 -- the steps of one node
 let P2:Nat × List Nat->aa4->Prop:=λp w'=>p.2.length = N/\bZ.Inv (En es) N (lf p.2) ((n,p.1,r) :: t) V/\(∀ v,v<=k->lf p.2 v≠0)/\bZ.todo (En es) N (lf p.2) ((n,p.1,r) :: t)<=UJ (WQ ko kl kw Y km N k es Q L) (λx=>bZ.todo (En es) N (lf x.low) x.S) ec /\
  St w' (wj ko kl kw Y N oa oc wa wc (bZ.aF ((n,p.1,r) :: t)) p.2 (du ((n,p.1,r) :: t)) ++ (mapA km mp :: (Q V ++ L)))
 refine ⟨λw'=>∃ p,P2 p w',λw'=>UJ P2 (λp=>(En es n).length - p.1) w',⟨(k0,b3),bi,a7,bT,by rw [<- hm]; exact Zc _,h⟩,?_⟩;intro _ fr hw;obtain ⟨⟨j,G⟩,⟨a9,O,ac,aa,h⟩,d0⟩:=Hb (f:=λp=>(En es n).length - p.1) hw;simp only at a9 O ac aa h d0;intro ab hd;have h:=h.eq (aE hd);obtain ⟨el,b1⟩ : ∃ el,es[n]? = some el:=⟨es[n]'ω,YU _⟩;have ca:=QQ b1;have eo:bh (hp ab) es a N:=hE V _ h.tail.tail.tail.tail.tail.tail.tail.l;obtain ⟨g0,f5,ev,b4,cz,a4,o6,l6,c6,rfl,eP,b6⟩:=eo.get (i:=n) X;rw [b1] at b4; cases b4;rw [aN,show n * qk.n (List Int) = n from Z4 n] at a4;have ck:el.length = l6:=b6.1;have eQ:(En es n).length = l6:=by rw [ca,Y3]; exact ck
 have eA:j<=(En es n).length:=O.ok.1.le;have f9:=hB el (YV b1);have c5:(du ((n,j,r) :: t))[(du t).length]? = some (n,j):=by rw [cH]; simp
 have d9:(du ((n,j,r) :: t)).length = (du t).length + 1:=by rw [cH]; simp
 obtain ⟨eB,b5,be⟩:=cr (h.pick 7 [5,0,1,2,3,4,6]) (zm c5).1;obtain ⟨em,am,aT⟩:=cr (h.pick 7 [5,0,1,2,3,4,6]) (zm c5).2;rw [aI] at b5 am;cases b5; cases am;rw [<- add_add] at aT;have cw:∀ {u:aa4} {ad:Addr} {v:Value},hp u = hp ab->ab.cell? ad = some v->u.cell? ad = some v:=λR h=>by rw [ig R]; exact h
 refine ⟨λu=>hp u = hp ab,rfl,(j:Int),λu R=>cw R aT,(n:Int),λu R=>cw R be,aw cz X ⟨o6,l6,c6,λu R=>cw R (a4.cell0 (sub.refl _)),?_⟩⟩
 refine ae (λh4=>?_) λh4=>?_
 ·have h4:j < l6:=by have:=YR h4; omega
  intro ch d1;have h:=h.eq (aE d1);have d3:=aE d1;obtain ⟨mI,c7⟩ : ∃ mI,el[j]? = some mI:=⟨el[j]'ω,YU _⟩;obtain ⟨m,rfl⟩ : ∃ m:Nat,mI = (m:Int):=⟨mI.toNat,by have:=hR el (YV b1) mI (YV c7); omega⟩;have a5:(En es n)[j]? = some m:=by rw [ca,YW,c7]; rfl
  have a0:m < N:=by have:=UO hR (YV a5); omega
  obtain ⟨eK,cu,dF⟩:=b6.at c7;have cw:∀ {u:aa4} {ad:Addr} {v:Value},hp u = hp ch->ab.cell? ad = some v->u.cell? ad = some v:=λR h=>cw (R.trans d3) h;refine ⟨λu=>hp u = hp ch,rfl,(n:Int),λu R=>cw R be,aw cz X ⟨o6,l6,c6,λu R=>cw R (a4.cell0 (sub.refl _)),(j:Int),λu R=>cw R aT,aw cu h4 ⟨(m:Int),λu R=>dF u (by rw [R,d3]; exact sub.refl _),(j:Int),cw rfl aT,⟨ω,ω⟩,?_⟩⟩⟩;rw [add_add];refine nF (h.pick 7 [5,0,1,2,3,4,6]) aI (by rw [HF]; omega) λe6 h=>?_;have ej:((j:Int) + 1) = ((j + 1:Nat):Int):=ω
  rw [ej,QO (j + 1) c5] at h
  have h:St e6 (wj ko kl kw Y N oa oc wa wc (bZ.aF ((n,j + 1,r) :: t)) G (du ((n,j + 1,r) :: t)) ++ (mapA km mp :: (Q V ++ L))):=by
   have e1:(du ((n,j,r) :: t)).set (du t).length (n,j + 1) = du ((n,j + 1,r) :: t):=by rw [cH,cH,aae _ _ (Zc _)]; simp
   have e2:(du ((n,j + 1,r) :: t)).length = (du ((n,j,r) :: t)).length:=by rw [d9,cH]; simp
   rw [e1] at h;unfold wj;rw [e2];exact h.pick 7 [1,2,3,4,5,0,6]
  have bA:=O.len;have cb:lf G m = 0->m∉bZ.aF ((n,j,r) :: t):=λh0 hm=>(O.un m a0).1 h0 (by simp only [YY]; exact Or.inl hm);refine ⟨_,_,_,(ah 2 h.l).cell0 (sub.refl _),aw rfl a0 ⟨_,(ah 3 h.l).cell (sub.refl _) (j:=m) (jm (D_ ω)),?_⟩⟩
  refine ae (λZ=>?_) λZ=>?_
  ·have Z:lf G m = 0:=by have:=eq_of_beq Z; omega
   have bd:(bZ.aF ((n,j + 1,r) :: t)).length < N:=by
    have h6:=O.push a5 a0 Z;have h7:=h6.len;have e1:bZ.aF ((m,0,[]) :: (n,j + 1,r) :: t) = bZ.aF ((n,j + 1,r) :: t) ++ [m]:=rfl;rw [e1,Y0] at h7; simp at h7; omega
   have eI:=D9 ((n,j + 1,r) :: t);refine ⟨_,_,_,(ah 0 h.l).cell0 (sub.refl _),⟨ω,ω⟩,(dr (κ:=Int) aQ (rfl:aj Ty _ = .map _ _) bJ (h.pick 7 [6,0,1,2,3,4,5]) (m:Int) _).mono ?_⟩;rintro _ eS h;refine (MW (n:=m) (h.pick 7 [1,2,3,4,5,6,0]) a9 a0 bd ω hb).mono ?_;rintro _ cB ⟨rfl,e7,e0,d4,d7,h⟩
   have U:WQ ko kl kw Y km N k es Q L ⟨(m,0,[]) :: (n,j + 1,r) :: t,G.set m ((bZ.aF ((n,j + 1,r) :: t)).length + 1),V,bU (m:Int) (.int .i64 (((bZ.aF ((n,j + 1,r) :: t)).length:Int) + 1)) mp,e7,e0,d4,d7⟩ cB:=by
    refine ⟨by simp [a9],?_,?_,⟨?_,?_⟩,?_⟩
    ·show bZ.Inv _ _ (lf (G.set m _)) _ _
     rw [oD ω];exact O.push a5 a0 Z
    ·intro v hv
     show lf (G.set m _) v≠0
     rw [oD ω]
     by_cases ev:v = m
     ·subst ev; rw [bZ.bu]; omega
     ·rw [bZ.dx ev]; exact ac v hv
    ·show assoc _ (bU _ _ _) = _
     rw [dU,Y5 rfl]; rfl
    ·exact xL.put ((n,j + 1,r) :: t) hM λs hs e=>cb Z (by rw [<- e]; exact VW (S:=(n,j + 1,r) :: t) s hs)
    ·have e1:du ((m,0,[]) :: (n,j + 1,r) :: t) = du ((n,j + 1,r) :: t) ++ [(m,0)]:=cH _ _ _ _
     show St cB (wj _ _ _ _ _ _ _ _ _ (bZ.aF ((n,j + 1,r) :: t) ++ [m]) _ (du ((m,0,[]) :: (n,j + 1,r) :: t)) ++ _)
     rw [e1];exact h
   refine ⟨rfl,⟨_,U⟩,?_⟩;have l1:=Dx (f:=λx=>bZ.todo (En es) N (lf x.low) x.S) U;have l2:=bZ.Oc O a5 a0 Z ((bZ.aF ((n,j + 1,r) :: t)).length + 1) ω;simp only at l1;rw [oD ω] at l1;exact Nat.lt_of_le_of_lt l1 (aaF l2 aa)
  ·have Z:lf G m≠0:=λe=>by rw [e] at Z; simp at Z
   intro bC c9;have h:=h.eq (aE c9);have cL:∀ u,hp u = hp bC->u.cell? (aM kl) = some (.slice (some (aM Y)) N N):=λu R=>by rw [ig R]; exact (ah 2 h.l).cell0 (sub.refl _)
   have cI:∀ u,hp u = hp bC->∀ v,v < N->u.cell? ((aM Y).add v) = some (.int .i64 (lf G v:Int)):=λu R v hv=>by rw [ig R]; exact (ah 3 h.l).cell (sub.refl _) (j:=v) (jm (D_ ω))
   have fg:=aE c9;have cD:(du ((n,j + 1,r) :: t))[(du t).length]? = some (n,j + 1):=by rw [cH]; simp
   obtain ⟨ey,b7,cx⟩:=cr (h.pick 7 [5,0,1,2,3,4,6]) (zm cD).1;rw [aI] at b7; cases b7;refine ⟨λu=>hp u = hp bC,rfl,_,_,_,cL,(n:Int),λu R=>by rw [ig R]; exact cx,_,_,_,cL,(n:Int),λu R=>by rw [ig R]; exact cx,aw rfl X ⟨_,λu R=>cI u R n X,_,_,_,cL,aw rfl a0 ⟨_,λu R=>cI u R m a0,aw rfl X ?_⟩⟩⟩;rw [aK];have a6:(if (lf G m:Int) < (lf G n:Int) then (lf G m:Int) else (lf G n:Int)) = ((min (lf G n) (lf G m):Nat):Int):=by split <;> omega
   rw [a6];refine bj (h.pick 7 [3,0,1,2,4,5,6]) (by simp [pA]; omega) λeu h=>?_;rw [yN] at h
   have U:P2 (j + 1,G.set n (min (lf G n) (lf G m))) eu:=by
    have W:=oD (low:=G) (i:=n) (x:=min (lf G n) (lf G m)) ω;have bb:=O.look a5 a0 Z
    refine ⟨by simp [a9],?_,?_,?_,h.pick 7 [1,2,3,0,4,5,6]⟩
    ·show bZ.Inv _ _ (lf (G.set n _)) _ _
     rw [W]; exact bb
    ·intro v hv
     show lf (G.set n _) v≠0
     rw [W]
     by_cases ev:v = n
     ·subst ev; rw [bZ.bu];have:=O.ok.1.pos v σ;omega
     ·rw [bZ.dx ev]; exact ac v hv
    ·show bZ.todo _ _ (lf (G.set n _)) _<=_
     rw [W];refine Zq ?_ aa;unfold bZ.todo
     rw [bZ.AA (low:=lf G)]
     ·simp only [ZF,aa1]; omega
     ·intro v hv
      by_cases ev:v = n
      ·subst ev; rw [bZ.bu];have:=O.ok.1.pos v σ;constructor <;> intro <;> omega
      ·rw [bZ.dx ev]
   refine ⟨⟨_,U⟩,?_⟩;have l1:=Dx (f:=λp=>(En es n).length - p.1) U;have l2:(En es n).length - (j + 1) < (En es n).length - j:=ω
   exact Nat.lt_of_le_of_lt l1 (aaF l2 (Nat.le_of_eq d0))
 ·have h4:j = (En es n).length:=by have:=YS h4; omega
  have bA:=O.len;refine ⟨(n:Int),be,_,_,_,(ah 4 h.l).cell0 (sub.refl _),_,_,_,(ah 4 h.l).cell0 (sub.refl _),⟨ω,ω⟩,?_⟩;have ei:((du ((n,j,r) :: t)).length:Int) - 1 = ((du t).length:Int):=ω
  have ez:=dI (h.pick 7 [5,0,1,2,3,4,6]);rw [ei];refine nJ ω (bj (h.pick 7 [4,0,1,2,3,5,6]) σ λe9 h=>?_);have h:=Co (h.pick 7 [5,0,1,2,3,4,6]) (k:=(du t).length) ω
  have bG:(Kr (du ((n,j,r) :: t))).take ((du t).length * 2) = Kr (du t):=by
   rw [cH,<- JR,<- HF,List.take_left'];rfl
  rw [bG] at h;have h:St e9 (wj ko kl kw Y N oa oc (fT wa 0 wc 2) wc (bZ.aF ((n,j,r) :: t)) G (du t) ++ (mapA km mp :: (Q V ++ L))):=h.pick 7 [2,3,4,5,1,0,6]
  -- the one below takes over
  refine ⟨λw'=>St w' (wj ko kl kw Y N oa oc (fT wa 0 wc 2) wc (bZ.aF ((n,j,r) :: t)) (nM G n t) (du t) ++ (mapA km mp :: (Q V ++ L))),⟨_,_,_,(ah 4 h.l).cell0 (sub.refl _),?_⟩,?_⟩
  ·refine ae (λZ=>?_) λZ=>?_
   rotate_left
   ·have Z:=YS Z;cases t with
    | nil=>exact h
    | cons x t=>obtain ⟨u,ku,ru⟩:=x; rw [cH] at Z; simp at Z
   ·cases t with
    | nil=>have Z:=YR Z; simp [du] at Z
    | cons x t =>
    obtain ⟨u,ku,ru⟩:=x;have a3:u < N:=O.lt u (by simp [bZ.aF]);have d8:(du ((u,ku,ru) :: t))[(du t).length]? = some (u,ku):=by rw [cH]; simp
    have eG:(du ((u,ku,ru) :: t)).length = (du t).length + 1:=by rw [cH]; simp
    obtain ⟨eC,cy,eg⟩:=cr (h.pick 7 [5,0,1,2,3,4,6]) (zm d8).1;have ek:((du ((u,ku,ru) :: t)).length:Int) - 1 = ((du t).length:Int):=ω
    refine ⟨_,_,_,(ah 4 h.l).cell0 (sub.refl _),_,_,_,(ah 4 h.l).cell0 (sub.refl _),⟨ω,ω⟩,?_⟩;rw [ek];refine aq cy ω ?_;rw [aN];refine ⟨(u:Int),eg,?_⟩;intro bc d6;have h:=h.eq (aE d6);have cL:∀ v,hp v = hp bc->v.cell? (aM kl) = some (.slice (some (aM Y)) N N):=λu R=>by rw [ig R]; exact (ah 2 h.l).cell0 (sub.refl _)
    have cI:∀ u,hp u = hp bc->∀ v,v < N->u.cell? ((aM Y).add v) = some (.int .i64 (lf G v:Int)):=λu R v hv=>by rw [ig R]; exact (ah 3 h.l).cell (sub.refl _) (j:=v) (jm (D_ ω))
    refine ⟨λu=>hp u = hp bc,rfl,_,_,_,cL,_,_,_,cL,aw rfl a3 ⟨_,λv hv=>cI v hv u a3,_,_,_,cL,aw rfl X ⟨_,λv hv=>cI v hv n X,aw rfl a3 ?_⟩⟩⟩;rw [aK];have a6:(if (lf G n:Int) < (lf G u:Int) then (lf G n:Int) else (lf G u:Int)) = ((min (lf G u) (lf G n):Nat):Int):=by split <;> omega
    rw [a6];refine bj (h.pick 7 [3,0,1,2,4,5,6]) (by simp [pA]; omega) λfs h=>?_;rw [yN] at h;exact h.pick 7 [1,2,3,0,4,5,6]
  ·intro _ fc h bP ef;have h:=h.eq (aE ef);obtain ⟨ea,fz,f8,eY⟩:=O.VT;have c8:(nM G n t).length = N:=by cases t <;> simp [nM,a9]
   have cm:lf (nM G n t) n = lf G n:=by
    cases t with
    | nil=>rfl
    | cons x t =>
     obtain ⟨u,ku,ru⟩:=x;have a3:u < N:=O.lt u (by simp [bZ.aF])
     show lf (G.set u _) n = _
     rw [oD ω,bZ.dx];intro e;exact ea (by rw [e]; simp [bZ.aF])
   obtain ⟨dc,cv⟩:=hM;have lk:=λ{w' : aa4} {L' : List az} (h:St w' (mapA km mp :: L'))=>cF (κ:=Int) (P:=Tryz.prog) (z:=.int .i64 0) aQ (rfl:aj Ty G_ = .map _ _) bJ rfl rfl h (n:Int);rw [dc] at lk;have cL:∀ v,hp v = hp bP->v.cell? (aM kl) = some (.slice (some (aM Y)) N N):=λu R=>by rw [ig R]; exact (ah 2 h.l).cell0 (sub.refl _)
   have cI:∀ u,hp u = hp bP->∀ v,v < N->u.cell? ((aM Y).add v) = some (.int .i64 (lf (nM G n t) v:Int)):=λu R v hv=>by rw [ig R]; exact (ah 3 h.l).cell (sub.refl _) (j:=v) (jm (D_ ω))
   refine ⟨λu=>hp u = hp bP,rfl,_,_,_,cL,aw rfl X ⟨_,λv hv=>cI v hv n X,(lk (h.pick 7 [6,0,1,2,3,4,5])).mono ?_⟩⟩;rintro _ cp ⟨rfl,rfl⟩;refine ⟨_,rfl,rfl,?_⟩;rw [cm];have bd:(bZ.aF ((n,j,r) :: t)).length = (bZ.aF t).length + 1 + r.length:=bZ.cd
   refine ae (λh6=>?_) λh6=>?_
   ·have h6:lf G n = (bZ.aF t).length + 1:=by have:=eq_of_beq h6; omega
    have hP:=O.pop h4 h6;have ci:∀ v∈n :: r,v < N:=λv hv=>O.lt v (by simp only [bZ.aF,YY]; exact Or.inl (Or.inr hv))
    have a1:nM G n t = G\/lf (nM G n t) = lf G:=by
     cases t with
     | nil=>exact .inl rfl
     | cons x t =>
      obtain ⟨u,ku,ru⟩:=x;have a3:u < N:=O.lt u (by simp [bZ.aF]);right
      show lf (G.set u _) = _
      rw [oD ω,O.X_ h6]
      funext v; unfold bZ.B6; split
      ·rename_i e; rw [e]
      ·rfl
    have a1:lf (nM G n t) = lf G:=by rcases a1 with e | e <;> rw [e]
    have ba:=dI (h.pick 7 [1,0,2,3,4,5,6]);refine ⟨_,_,_,(ah 0 h.l).cell0 (sub.refl _),(lk (h.pick 7 [6,0,1,2,3,4,5])).mono ?_⟩;rintro _ e5 ⟨rfl,rfl⟩;have eb:((((bZ.aF t).length + 1:Nat):Int) - 1) = ((bZ.aF t).length:Int):=ω
    refine ⟨_,rfl,⟨ω,ω⟩,?_⟩;rw [eb];have dl:bh (hp e5) ((bZ.aF ((n,j,r) :: t)).map Int.ofNat) oa (bZ.aF ((n,j,r) :: t)).length:=eO σ (by rw [<- QP]; exact dJ 1 h.l);have cC:=dl.drop (k:=(bZ.aF t).length) (m:=oc) ω ba
    have e3:((bZ.aF ((n,j,r) :: t)).map Int.ofNat).drop (bZ.aF t).length = (n :: r).map Int.ofNat:=by
     rw [<- List.map_drop]; congr 1; show (bZ.aF t ++ n :: r).drop _ = _; rw [List.drop_left']; rfl
    rw [e3] at cC;have eV:(bZ.aF ((n,j,r) :: t)).length - (bZ.aF t).length = (n :: r).length:=by rw [bd]; simp; omega
    refine ct ω ba ((JT cC (by simp; omega) (by simp; omega)).mono ?_);rintro _ eT ⟨b0,b2,rfl,e8⟩;have h:=e8.nf h;have d2:((n :: r).map Int.ofNat).length = (n :: r).length:=σ
    rw [d2,<- QP] at h;refine ⟨_,_,_,by rw [d2],_,_,_,(ah 1 h.l).cell0 (sub.refl _),(lk (h.pick 8 [7,0,1,2,3,4,5,6])).mono ?_⟩;rintro _ f7 ⟨rfl,rfl⟩;refine ⟨_,rfl,⟨ω,ω⟩,?_⟩;rw [eb];refine nJ ω (bj (h.pick 8 [1,0,2,3,4,5,6,7]) σ λdk h=>?_);have h:=Co (h.pick 8 [2,0,1,3,4,5,6,7]) (k:=(bZ.aF t).length) ω
    have bG:(pA (bZ.aF ((n,j,r) :: t))).take ((bZ.aF t).length * 1) = pA (bZ.aF t):=by
     show (pA (bZ.aF t ++ n :: r)).take _ = _
     unfold pA;rw [Zg,List.take_left'];simp
    rw [bG] at h;have h:St dk (own 1 b0 (n :: r).length b2 (pA (n :: r)) :: (wj ko kl kw Y N (fT oa 0 oc 1) oc (fT wa 0 wc 2) wc (bZ.aF t) (nM G n t) (du t) ++ (mapA km mp :: (Q V ++ L)))):=h.pick 8 [2,1,0,3,4,5,6,7]
    refine ⟨λz w'=>∃ i:Nat,z = i/\i<=(n :: r).length/\St w' (own 1 b0 (n :: r).length b2 (pA (n :: r)) :: (wj ko kl kw Y N (fT oa 0 oc 1) oc (fT wa 0 wc 2) wc (bZ.aF t) (gG (N + 1) (nM G n t) ((n :: r).take i)) (du t) ++ (mapA km mp :: (Q V ++ L)))),
     λz _=>(n :: r).length - z.toNat,⟨0,rfl,Y4 _,h⟩,?_⟩
    rintro _ z cg ⟨i,rfl,hi,h⟩
    refine ae (λh7=>?_) λh7=>?_
    ·have h7:i < (n :: r).length:=by have:=YR h7; omega
     obtain ⟨v,hv⟩ : ∃ v,(n :: r)[i]? = some v:=⟨(n :: r)[i],YU _⟩;have et:=ci v (YV hv);obtain ⟨eX,er,dt⟩:=cr h (jm hv);refine aw er h7 ⟨_,dt,_,_,_,(ah 3 h.l).cell0 (sub.refl _),aw rfl et ?_⟩;rw [aK];have eN:((N:Int) + 1) = ((N + 1:Nat):Int):=ω
     rw [eN];refine bj (h.pick 8 [4,0,1,2,3,5,6,7]) (by simp [pA,xM]; omega) λf4 h=>⟨⟨by simp at h7 hi ⊢; omega,by simp at h7 hi ⊢; omega⟩,⟨i + 1,rfl,h7,?_⟩,bn h7⟩;rw [yN] at h;rw [Y2,hv,Z6,JS];exact h.pick 8 [1,2,3,4,0,5,6,7]
    ·have h7:i = (n :: r).length:=by have:=YS h7; omega
     subst h7;rw [Zi] at h;refine bS.2 ⟨hfl,?_⟩;let M':=wj ko kl kw Y N (fT oa 0 oc 1) oc (fT wa 0 wc 2) wc (bZ.aF t) (gG (N + 1) (nM G n t) (n :: r)) (du t) ++ [mapA km mp]
     have e4:(M' ++ (Q V ++ L)).Perm (Q V ++ (M' ++ L)):=by
      rw [<- Y6,<- Y6]; exact List.perm_append_comm.append_right L
     have h8:St cg (own 1 b0 (n :: r).length b2 (pA (n :: r)) :: (Q V ++ (M' ++ L))):=h.perm (List.Perm.cons _ e4);have cc:=hD V (n :: r) (M' ++ L) cg b0 b2 hP.good (λv hv=>by rw [hN]; exact hP.lt v (List.mem_append_right _ hv)) h8;refine cc.mono ?_;rintro _ d5 ⟨rfl,h⟩
     have a8:lf (gG (N + 1) (nM G n t) (n :: r)) = λv=>if v∈n :: r then N + 1 else lf G v:=by
      rw [Gb _ _ _ (λm hm=>by rw [c8]; exact ci m hm),a1]
     have U:WQ ko kl kw Y km N k es Q L ⟨t,gG (N + 1) (nM G n t) (n :: r),V ++ [n :: r],mp,fT oa 0 oc 1,oc,fT wa 0 wc 2,wc⟩ d5:=by
      refine ⟨by show (gG _ _ _).length = _; rw [xM]; exact c8,?_,?_,cv,St.Xh (M:=Q (V ++ [n :: r])) (Q:=M') (L:=L) h⟩
      ·show bZ.Inv _ _ (lf (gG _ _ _)) _ _
       rw [a8]; exact hP
      ·intro v hv
       show lf (gG _ _ _) v≠0
       rw [a8];simp only
       split
       ·omega
       ·exact ac v hv
     refine ⟨rfl,⟨_,U⟩,?_⟩;have l1:=Dx (f:=λx=>bZ.todo (En es) N (lf x.low) x.S) U;refine Nat.lt_of_le_of_lt l1 (aaF ?_ aa)
     show bZ.todo _ _ (lf (gG _ _ _)) _ < _
     rw [a8];unfold bZ.todo
     rw [bZ.AA (low:=lf G)]
     ·simp only [ZF,aa1]; omega
     ·intro v hv
      show (if v∈n :: r then N + 1 else lf G v) = 0↔lf G v = 0
      split
      ·rename_i e;have h9:lf G v≠0:=λh0=>(O.un v hv).1 h0 (by simp only [bZ.aF,YY]; exact Or.inl (Or.inr e));constructor <;> intro <;> omega
      ·exact Iff.rfl
   ·have h6:lf G n≠(bZ.aF t).length + 1:=λe=>by rw [e] at h6; simp at h6
    cases t with
    | nil =>
     exfalso;have h8:=O.ok.1.top;have h9:=O.ok.1.pos n σ;simp [bZ.aF] at h8 h6;omega
    | cons x t =>
    obtain ⟨u,ku,ru⟩:=x;have a3:u < N:=O.lt u (by simp [bZ.aF]);have W:=oD (low:=G) (i:=u) (x:=min (lf G u) (lf G n)) ω;have ep:=O.merge h4 h6;have f6:=O.ok.2.2.1.pos u σ;have eU:=O.ok.1.pos n σ
    have U:WQ ko kl kw Y km N k es Q L ⟨(u,ku,ru ++ n :: r) :: t,nM G n ((u,ku,ru) :: t),V,mp,oa,oc,fT wa 0 wc 2,wc⟩ cp:=by
     refine ⟨c8,?_,?_,cv,?_⟩
     ·show bZ.Inv _ _ (lf (G.set u _)) _ _
      rw [W]; exact ep
     ·intro v hv
      show lf (G.set u _) v≠0
      rw [W]
      by_cases ev:v = u
      ·subst ev; rw [bZ.bu]; omega
      ·rw [bZ.dx ev]; exact ac v hv
     ·have e1:bZ.aF ((u,ku,ru ++ n :: r) :: t) = bZ.aF ((n,j,r) :: (u,ku,ru) :: t):=by simp [bZ.aF]
      show St cp (wj _ _ _ _ _ _ _ _ _ (bZ.aF ((u,ku,ru ++ n :: r) :: t)) _ _ ++ _)
      rw [e1];exact h
    refine ⟨⟨_,U⟩,?_⟩;have l1:=Dx (f:=λx=>bZ.todo (En es) N (lf x.low) x.S) U;refine Nat.lt_of_le_of_lt l1 (aaF ?_ aa)
    show bZ.todo _ _ (lf (G.set u _)) _ < _
    rw [W];unfold bZ.todo
    rw [bZ.AA (low:=lf G)]
    ·simp only [ZF,aa1]; omega
    ·intro v hv
     by_cases ev:v = u
     ·subst ev; rw [bZ.bu];constructor <;> intro <;> omega
     ·rw [bZ.dx ev]
end
def jW (es:List (List Int)):Bool:=!es.any λl=>l.any λx=>decide (x < 0) || decide ((es.length:Int)<=x)
theorem Eb {es:List (List Int)}:jW es = true↔Ea es:=by
 unfold jW Ea;rw [aag,List.any_eq_false]
 constructor
 ·intro h l z x u;have:=h l z;rw [Bool.not_eq_true,List.any_eq_false] at this;have:=this x u;simp at this; omega
 ·intro h l z;rw [Bool.not_eq_true,List.any_eq_false];intro x u;have:=h l z x u;simp; omega
section
variable {w:aa4} {a:aa3} {l c:Nat} {d:FuncId} {e:List Value}
theorem UQ {xs:List Int} {p:Int->Bool} (hfl:Fn d = true) (hr:bh (hp w) xs a l) (hb:l<=4611686018427387904)
  (hP:∀ x∈xs,∀ u,hp u = hp w->ρ d (.int .i64 x :: e) u λv u'=>v = .bool (p x)/\hp u' = hp w) :
  ρ jP [.slice a l c,.func (.func d) (Array.mk []) ⟨e⟩] w λv w'=>v = .bool (xs.any p)/\hp w' = hp w:=by
 refine dA ?_
 have key:ρ fv [.slice a l c,.func (.func d) (Array.mk []) ⟨e⟩] w λv w'=>∃ n:Int,v = .int .i64 n/\(xs.any p = decide (0<=n))/\hp w' = hp w:=by
  refine eE ?_;have a0:=hr.1;refine ⟨λz w'=>∃ j:Nat,z = j/\j<=l/\(∀ k∈xs.take j,p k = false)/\hp w' = hp w,λz _=>l - z.toNat,⟨0,rfl,Y4 _,λk U=>by simp at U,rfl⟩,?_⟩;rintro _ z X ⟨j,rfl,hj,O,V⟩;refine ae (λG=>?_) λG=>?_
  rotate_left
  ·have G:j = l:=by have:=YS G; omega
   rw [Zb ω] at O;exact ⟨_,rfl,by rw [List.any_eq_false.2 λx hx=>by rw [O x hx]; simp]; rfl,V⟩
  have G:j < l:=by have:=YR G; omega
  obtain ⟨k,U⟩ : ∃ k,xs[j]? = some k:=⟨xs[j]'ω,YU _⟩;obtain ⟨ad,W,hc⟩:=hr.at U;refine aw W G ⟨k,hc X (Gr.of_eq V),bS.2 ⟨hfl,(hP k (YV U) X V).mono ?_⟩⟩;rintro _ w2 ⟨rfl,Y⟩
  refine ⟨_,rfl,ae (λhb=>?_) λhb=>?_⟩
  ·exact ⟨_,rfl,by rw [aaf.2 ⟨k,YV U,hb⟩]; exact (Zp (Zx j)).symm,Y⟩
  ·refine ⟨⟨ω,ω⟩,⟨j + 1,σ,ω,λy R=>?_,Y⟩,bn G⟩;rw [Y2,U] at R
   rcases YY.1 R with R | R
   ·exact O y R
   ·simp at R; subst R; exact hb
 refine key.mono ?_;rintro _ w' ⟨n,rfl,G,Z⟩;exact ⟨n,rfl,by rw [G],Z⟩
theorem Xi {xs:List (List Int)} {p:List Int->Bool} (hfl:Fn d = true) (hr:bh (hp w) xs a l) (hb:l<=4611686018427387904)
  (hP:∀ x∈xs,∀ u o l c,hp u = hp w->bh (hp w) x o l->ρ d (.slice o l c :: e) u λv u'=>v = .bool (p x)/\hp u' = hp w) :
  ρ jk [.slice a l c,.func (.func d) (Array.mk []) ⟨e⟩] w λv w'=>v = .bool (xs.any p)/\hp w' = hp w:=by
 refine iz ?_
 have key:ρ ky [.slice a l c,.func (.func d) (Array.mk []) ⟨e⟩] w λv w'=>∃ n:Int,v = .int .i64 n/\(xs.any p = decide (0<=n))/\hp w' = hp w:=by
  refine jF ?_;have a1:=hr.1;refine ⟨λz w'=>∃ j:Nat,z = j/\j<=l/\(∀ k∈xs.take j,p k = false)/\hp w' = hp w,λz _=>l - z.toNat,⟨0,rfl,Y4 _,λk V=>by simp at V,rfl⟩,?_⟩;rintro _ z w1 ⟨j,rfl,hj,R,W⟩;refine ae (λG=>?_) λG=>?_
  rotate_left
  ·have G:j = l:=by have:=YS G; omega
   rw [Zb ω] at R;exact ⟨_,rfl,by rw [List.any_eq_false.2 λx hx=>by rw [R x hx]; simp]; rfl,W⟩
  have G:j < l:=by have:=YR G; omega
  obtain ⟨k,ad,vs,V,Y,O,o,l1,c1,rfl,a0,X⟩:=hr.get G;rw [aN,show j * qk.n (List Int) = j from Z4 j] at O;refine aw Y G ⟨o,l1,c1,O.cell0 (Gr.of_eq W),bS.2 ⟨hfl,(hP k (YV V) w1 o l1 c1 W X).mono ?_⟩⟩;rintro _ w2 ⟨rfl,Z⟩
  refine ⟨_,rfl,ae (λhb=>?_) λhb=>?_⟩
  ·exact ⟨_,rfl,by rw [aaf.2 ⟨k,YV V,hb⟩]; exact (Zp (Zx j)).symm,Z⟩
  ·refine ⟨⟨ω,ω⟩,⟨j + 1,σ,ω,λy U=>?_,Z⟩,bn G⟩;rw [Y2,V] at U
   rcases YY.1 U with U | U
   ·exact R y U
   ·simp at U; subst U; exact hb
 refine key.mono ?_;rintro _ w' ⟨n,rfl,G,h2⟩;exact ⟨n,rfl,by rw [G],h2⟩
theorem TH {es:List (List Int)} (hr:bh (hp w) es a l) (hb:l<=4611686018427387904) (hB:∀ x∈es,x.length<=4611686018427387904) :
  ρ B8 [.slice a l c] w λv w'=>v = .bool (jW es)/\Gr w w':=by
 refine zk ?_;have Z:=hr.1;refine ag (St.all w) λW Y V=>?_;have X:Gr w Y:=V.aW;have z:=(ah 0 V.l).cell0 (sub.refl _)
 refine ⟨_,_,_,z,(Xi (p:=λl=>l.any λx=>decide (x < 0) || decide ((es.length:Int)<=x)) (d:=xK) (e:=[vP (some (aM W))]) rfl (hr.mono X) hb ?_).mono ?_⟩
 ·intro x hx u o l' c' U O
  refine uS ((UQ (p:=λx=>decide (x < 0) || decide ((es.length:Int)<=x)) (d:=te) (e:=[vP (some (aM W))]) rfl (by rw [U]; exact O) (by have:=O.1; have:=hB x hx; omega) ?_).mono ?_)
  ·intro y hy u2 G
   refine p9 (ae (λh=>?_) λh=>?_)
   ·exact ⟨by rw [show decide (y < 0) = true from h]; rfl,G⟩
   ·refine ⟨_,_,_,by rw [ig (G.trans U)]; exact z,by rw [show decide (y < 0) = false from h,Bool.false_or,Z],G⟩
  ·rintro _ w2 ⟨rfl,R⟩;exact ⟨_,rfl,rfl,R.trans U⟩
 ·rintro _ w2 ⟨rfl,R⟩;exact ⟨_,rfl,rfl,X.trans (Gr.of_eq R)⟩
end
theorem Od {P:Program} {w:aa4} (d:Nat) {t e:TypeId} {a b:Addr} {q:Bool} {i:TypeInfo} (h:P.underlying t = some (.pointer e)) (hi:P.info? e = some i) (hz:i.size≠0) (hs:(sameAddr a b).run P w = .ok q w) :
  (Op.equalIn (d + 1) t (.pointer (some a)) (.pointer (some b))).run P w = .ok q w:=by
 simp [Op.equalIn,aZ h,sizeOf,typeInfo,hi,hz,hs]
theorem LC {P:Program} {w:aa4} {t e:TypeId} {a b:Addr} {q:Bool} {i:TypeInfo} (h:P.underlying t = some (.pointer e)) (hi:P.info? e = some i) (hz:i.size≠0) (hs:(sameAddr a b).run P w = .ok q w) :
  (Op.equal t (.pointer (some a)) (.pointer (some b))).run P w = .ok q w:=Od 9999 h hi hz hs
theorem Br {P:Program} {w:aa4} {t e:TypeId} {xo yo:Operand} {a b:Addr} {q:Bool} {i:TypeInfo} (h:P.underlying t = some (.pointer e)) (hi:P.info? e = some i) (hz:i.size≠0) (hs:(sameAddr a b).run P w = .ok q w) :
  (je .neq t xo yo (.pointer (some a)) (.pointer (some b))).run P w = .ok (.bool (!q)) w:=by
 unfold je;have u:(eqGuard .neq t xo yo (.pointer (some a)) (.pointer (some b))).run P w = .ok () w:=CV σ σ;simp [u,Go.binOp,LC h hi hz hs]
theorem Oe {P:Program} {w:aa4} {L:List az} {Ty:TypeId->Option dg} (hT:dP P Ty) {t e:TypeId} {i:dg} {xo yo:Operand} {k1 k2:Nat} {v1 v2:List Value} (hk:aj Ty t = .ptr e) (hi:Ty e = some i) (hz:i.size≠0) (h:St w (aH k1 v1 :: aH k2 v2 :: L)) :
  (je .neq t xo yo (.pointer (some ⟨k1,0,none⟩)) (.pointer (some ⟨k2,0,none⟩))).run P w = .ok (.bool true) w:=by
 obtain ⟨d,G,u⟩:=db hT hk σ;rw [KE u] at G;obtain ⟨U,d2,O⟩:=oV hT hi;obtain ⟨e1,Y⟩:=iw.1 h;obtain ⟨e2,W⟩:=iw.1 h.swap
 have z:(⟨k1,0,none⟩ : Addr)≠⟨k2,0,none⟩:=by
  intro e;cases e;obtain ⟨g1,g2,dd,s1,s2,⟨_,R⟩,g3,g4,X,V,s4,⟨_,Z⟩,_⟩:=h
  rcases dd k1 with h | h
  ·rw [h] at R; cases R
  ·rw [V k1 _ Z] at h; cases h
 exact Br G O.inf (by rw [<- O.size]; exact hz) (run_sameAddr_other w z Y.get W.get)
theorem Og {P:Program} {w:aa4} {Ty:TypeId->Option dg} (hT:dP P Ty) {t e:TypeId} {i:dg} {xo yo:Operand} {a:Addr} (hk:aj Ty t = .ptr e) (hi:Ty e = some i) (hz:i.size≠0) :
  (je .neq t xo yo (.pointer (some a)) (.pointer (some a))).run P w = .ok (.bool false) w:=by
 obtain ⟨d,z,u⟩:=db hT hk σ;rw [KE u] at z;obtain ⟨O,R,G⟩:=oV hT hi;exact Br z G.inf (by rw [<- G.size]; exact hz) (run_sameAddr_same w a)
def dN (es ow:List (List Int)) (v:Nat) (x:Nat):Prop:=∃ u,bZ.Rc (En es) v u/\(x:Int)∈ow.getD u []
structure QR (es ow:List (List Int)) (v:Nat) (bs:List Bool):Prop where
 ln:bs.length = 1024
 fn:∀ x,aV bs x = true↔x < 1024/\dN es ow v x
theorem dN.mutual {es ow:List (List Int)} {v u x:Nat} (h:bZ.Rc (En es) v u) (hx:dN es ow u x):dN es ow v x:=by
 obtain ⟨y,G,z⟩:=hx;exact ⟨y,h.trans G,z⟩
theorem dN.step {es ow:List (List Int)} {g:List Nat} {v:Nat} (hv:v∈g) (hg:∀ a∈g,∀ b∈g,bZ.Rc (En es) a b) {x:Nat} :
  dN es ow v x↔(∃ n∈g,(x:Int)∈ow.getD n [])\/∃ n∈g,∃ m∈En es n,m∉g/\dN es ow m x:=by
 constructor
 ·rintro ⟨u,W,V⟩
  have key:∀ a b,bZ.Rc (En es) a b->a∈g->(x:Int)∈ow.getD b []->(∃ n∈g,(x:Int)∈ow.getD n [])\/∃ n∈g,∃ m∈En es n,m∉g/\dN es ow m x:=by
   intro a b h
   induction h with
   | refl a=>intro R z; exact .inl ⟨a,R,z⟩
   | @step a m b O hr ih =>
    intro R z
    by_cases G:m∈g
    ·exact ih G z
    ·exact .inr ⟨a,R,m,O,G,b,hr,z⟩
  exact key v u W hv V
 ·rintro (⟨n,U,z⟩ | ⟨n,U,m,O,_,z⟩)
  ·exact ⟨n,hg v hv n U,z⟩
  ·exact ((hg v hv n U).trans (bZ.Rc.one O)) |> λh=>z.mutual h
def MX (l:List (aa3)):List Value:=l.map λp=>Value.pointer p
theorem TI (l:List (aa3)) (i:Nat) (p:aa3):(MX l).set i (.pointer p) = MX (l.set i p):=by simp only [MX,ZM]
theorem HG {l:List (aa3)} {i:Nat} {p:aa3} (h:l[i]? = some p):(MX l)[i]? = some (.pointer p):=by simp [MX,h]
def wm (p:aa3) (l:List (aa3)) (g:List Nat):List (aa3):=g.foldl (λl m=>l.set m p) l
theorem Ec (p:aa3):∀ (g:List Nat) (l:List (aa3)),(wm p l g).length = l.length
 | [],_=>rfl
 | m :: g,l=>by show (wm p (l.set m p) g).length = _; rw [Ec p g]; simp
theorem Oh (p:aa3) (l:List (aa3)) (g:List Nat) (m:Nat):wm p l (g ++ [m]) = (wm p l g).set m p:=by simp [wm]
theorem JU (p:aa3):∀ (g:List Nat) (l:List (aa3)),(∀ m∈g,m < l.length)->∀ v,(wm p l g)[v]? = if v∈g then some p else l[v]?
 | [],l,_,v=>by simp [wm]
 | m :: g,l,h,v=>by
  have:=JU p g (l.set m p) (λy hy=>by rw [Zn]; exact h y (by simp [hy])) v
  show (wm p (l.set m p) g)[v]? = _
  rw [this]
  by_cases e:v∈g
  ·simp [e]
  ·have hm:=h m σ
   by_cases e2:v = m
   ·subst e2; simp [e,hm]
   ·rw [YZ e,aaJ (aaw e2),YZ (by simp [e,e2])]
theorem QS {L:List az} {h:Hp} {A:az} (i:Nat) (hl:aD L h) (e:qm L i = A:=by rfl) (hi:Nat.blt i (yC L) = true:=by rfl):∃ h1,sub h1 h/\A h1:=by
 have:=dm i (by simpa [il] using hi) hl;rwa [e] at this
structure Xj (es ow:List (List Int)) (N:Nat) (gs:List (List Nat)) (sets:List (aa3)) (ps:List Go.Proofs.YtndaepmjkbmjmaaGreatDoor.Ls) (gr:List (Nat × List Bool)):Prop where
 ls:sets.length = N
 lp:ps.length = N
 lg:gr.length = gs.length
 st:∀ (i:Nat) g b B,gs[i]? = some g->gr[i]? = some (b,B)->∀ v∈g,sets[v]? = some (some ⟨b,0,none⟩)/\QR es ow v B/\∃ p,ps[v]? = some p/\p.2 = dB B
section
variable {w:aa4} {L:List az} {a oa:aa3} {N c oc l ks bs ko bo ke kn:Nat} {es ow:List (List Int)} {h0:Hp}
def AK (gr:List (Nat × List Bool)):List az:=gr.map λp=>fp (some ⟨p.1,0,none⟩) p.2
def Oi (es ow:List (List Int)) (ks bs ko bo N:Nat) (gs:List (List Nat)):az:=Proofs.YtndaepmjkbmjmaaGreatDoor.ex λy:List (aa3) × List Ls × List (Nat × List Bool) =>
 aC [Proofs.YtndaepmjkbmjmaaGreatDoor.pu (Xj es ow N gs y.1 y.2.1 y.2.2),aH ks [.slice (some ⟨bs,0,none⟩) N N],aH bs (MX y.1),aH ko [.slice (some ⟨bo,0,none⟩) N N],aH bo (y.2.1.map D8),aC (y.2.1.map AJ),aC (AK y.2.2)]
theorem zn {gs:List (List Nat)}:St w (Oi es ow ks bs ko bo N gs :: L)↔∃ (sets:List (aa3)) (ps:List Ls) (gr:List (Nat × List Bool)),Xj es ow N gs sets ps gr /\
  St w (aH ks [.slice (some ⟨bs,0,none⟩) N N] :: aH bs (MX sets) :: aH ko [.slice (some ⟨bo,0,none⟩) N N] :: aH bo (ps.map D8) :: aC (ps.map AJ) :: aC (AK gr) :: L):=by
 unfold Oi;rw [St.ex]
 constructor
 ·rintro ⟨⟨sets,ps,gr⟩,h⟩;have h:=St.pu.1 (St.flat.1 h);exact ⟨sets,ps,gr,h.1,h.2⟩
 ·rintro ⟨sets,ps,gr,z,u⟩;exact ⟨⟨sets,ps,gr⟩,St.flat.2 (St.pu.2 ⟨z,u⟩)⟩
theorem QT {k1 k2:Nat} {B1 B2:List Bool} {xo yo:Operand} (h:St w (fp (some ⟨k1,0,none⟩) B1 :: fp (some ⟨k2,0,none⟩) B2 :: L)) :
  (je .neq od xo yo (.pointer (some ⟨k1,0,none⟩)) (.pointer (some ⟨k2,0,none⟩))).run Tryz.prog w = .ok (.bool true) w:=by
 rcases jQ h with ⟨e,_⟩ | ⟨b,a,c,ws,e,_,h⟩
 ·cases e
 ·cases e
  rcases jQ (h.pick 3 [2,0,1]) with ⟨e,_⟩ | ⟨G,z,O,u,e,_,h⟩
  ·cases e
  ·cases e;exact Oe aQ (rfl:aj Ty od = .ptr _) rfl (by decide) (h.pick 4 [2,0,1,3])
structure Xk (es ow:List (List Int)) (h0:Hp) (ke kn N:Nat) (a oa:aa3) (c oc:Nat):Prop where
 ce:au h0 ⟨ke,0,none⟩ [.slice a N c]
 cn:au h0 ⟨kn,0,none⟩ [.slice oa N oc]
 re:bh h0 es a N
 rn:bh h0 ow oa N
 tab:gA h0
 bE:∀ x∈es,x.length * 8<=140737488355328
 bO:∀ x∈ow,x.length * 8<=140737488355328
 bN:N * 24<=140737488355328
 rO:∀ x∈ow,∀ y∈x,0<=y/\y < 1024
theorem VY (hR:Ea es) (C:Xk es ow h0 ke kn N a oa c oc):UP xJ [.pointer (some (aM ks)),.pointer (some (aM kn)),.pointer (some (aM ke)),.pointer (some (aM ko))] es λgs=>[Oi es ow ks bs ko bo N gs,has h0]:=by
 intro gs g F w o gc hG bC h;have hN:es.length = N:=C.re.1;have ac:∀ v∈g,v < N:=λv hv=>by have:=bC v (by simp [hv]); omega
 have dF:g.length<=N:=(hG.len bC).2 g σ |> λh=>ω
 have cv:∀ x∈g,∀ y∈g,bZ.Rc (En es) x y:=(hG.2 gs g [] rfl).2.1;have cy:∀ x∈g,∀ y∈En es x,y∈g\/y∈gs.flatten:=(hG.2 gs g [] rfl).2.2;have d5:∀ x∈g,x∉gs.flatten:=λx hx=>(bZ.JO hG.1 rfl hx).1;have bN:=C.bN;obtain ⟨G,ps,gr,hF,h⟩:=zn.1 (h.pick 3 [1,0,2]);refine uQ ((Vr 1024 (xs:=[]) bh.nil (by decide)).mono ?_);rintro _ w1 ⟨b,rfl,O⟩;have h:=O.nf h
 -- [0 set,1 ks,2 bs,3 ko,4 bo,5 lists,6 G,7 group,8 has]
 refine ⟨_,rfl,λz w'=>∃ i:Nat,z = i/\i<=g.length/\St w' (fp (some ⟨b,0,none⟩) (E0 1024 []) :: aH ks [.slice (some ⟨bs,0,none⟩) N N] :: aH bs (MX (wm (some ⟨b,0,none⟩) G (g.take i))) :: aH ko [.slice (some ⟨bo,0,none⟩) N N] :: aH bo (ps.map D8) :: aC (ps.map AJ) :: aC (AK gr) :: own 1 o g.length gc (pA g) :: has h0 :: F),
  λz _=>g.length - z.toNat,⟨0,rfl,Y4 _,h⟩,?_⟩
 rintro _ z w2 ⟨i,rfl,hi,h⟩
 refine ae (λO=>?_) λO=>?_
 ·have O:i < g.length:=by have:=YR O; omega
  obtain ⟨v,hv⟩ : ∃ v,g[i]? = some v:=⟨g[i],YU _⟩;have bc:=ac v (YV hv);obtain ⟨be,aa,a6⟩:=cr (h.pick 9 [7,0,1,2,3,4,5,6,8]) (jm hv);refine aw aa O ⟨_,a6,_,_,_,(ah 1 h.l).cell0 (sub.refl _),aw rfl bc ?_⟩;rw [aK];refine bj (h.pick 9 [2,0,1,3,4,5,6,7,8]) (by simp [MX,Ec,hF.ls]; omega) λw3 h=>⟨⟨ω,ω⟩,⟨i + 1,rfl,O,?_⟩,bn O⟩;rw [TI] at h;rw [Y2,hv,Z6,Oh];exact h.pick 9 [1,2,0,3,4,5,6,7,8]
 have O:i = g.length:=by have:=YS O; omega
 subst O;rw [Zi] at h;have b1:∀ x:Nat,(E0 1024 []).length = 1024/\aV (E0 1024 []) x = false:=λx=>⟨by unfold E0; rw [bR,Z7]; decide,by unfold E0; rw [ik]; simp [gv,lD]⟩;have Y:∀ v,(wm (some ⟨b,0,none⟩) G g)[v]? = if v∈g then some (some (⟨b,0,none⟩ : Addr)) else G[v]?:=JU _ g G λm hm=>by rw [hF.ls]; exact ac m hm
 -- the numbers come together
 let a7:Nat->Nat->Prop:=λi x=>(∃ n∈g.take i,(x:Int)∈ow.getD n [])\/∃ n∈g.take i,∃ m∈En es n,m∉g/\dN es ow m x
 refine ⟨λz w'=>∃ (i:Nat) (B:List Bool),z = i/\i<=g.length/\B.length = 1024/\(∀ x,aV B x = true↔x < 1024/\a7 i x)/\St w' (fp (some ⟨b,0,none⟩) B :: aH ks [.slice (some ⟨bs,0,none⟩) N N] :: aH bs (MX (wm (some ⟨b,0,none⟩) G g)) :: aH ko [.slice (some ⟨bo,0,none⟩) N N] :: aH bo (ps.map D8) :: aC (ps.map AJ) :: aC (AK gr) :: own 1 o g.length gc (pA g) :: has h0 :: F),
  λz _=>g.length - z.toNat,⟨0,_,rfl,Y4 _,(b1 0).1,λx=>?_,h⟩,?_⟩
 ·rw [(b1 x).2]
  constructor
  ·intro h; cases h
  ·rintro ⟨_,⟨n,hn,_⟩ | ⟨n,hn,_⟩⟩ <;> simp at hn
 rintro _ z w4 ⟨i,B,rfl,hi,b7,bG,h⟩
 refine ae (λO=>?_) λO=>?_
 ·have O:i < g.length:=by have:=YR O; omega
  obtain ⟨n,hn⟩ : ∃ n,g[i]? = some n:=⟨g[i],YU _⟩;have c7:=YV hn;have ad:=ac n c7;have s0:=aR 8 h.l;obtain ⟨be,aa,a6⟩:=cr (h.pick 9 [7,0,1,2,3,4,5,6,8]) (jm hn);obtain ⟨xo,e3,ov,bi,cx,ab,o4,l4,c4,rfl,dc,aT⟩:=C.rn.get (i:=n) ad;rw [aN,show n * qk.n (List Int) = n from Z4 n] at ab;obtain ⟨xe,e4,ev,bb,d0,a8,o6,l6,c6,rfl,dl,b3⟩:=C.re.get (i:=n) ad;rw [aN,show n * qk.n (List Int) = n from Z4 n] at a8;have e0:=aT.1;have e5:=b3.1;have dt:=C.bO xo (YV bi);have d9:=C.bE xe (YV bb);refine aw aa O ⟨_,a6,_,_,_,C.cn.cell0 s0,aw cx ad ⟨o4,l4,c4,ab.cell0 s0,(PD (xs:=xo) h (λhh hl=>aT.mono (aR 7 hl)) ω).mono ?_⟩⟩;rintro _ w5 ⟨rfl,h⟩;have s0:=aR 8 h.l;refine ⟨_,rfl,_,_,_,C.ce.cell0 s0,aw d0 ad ⟨o6,l6,c6,a8.cell0 s0,?_⟩⟩;have bd:=QQ bb;have bT:ow.getD n [] = xo:=by rw [YX,bi]; rfl
  refine ⟨λz w'=>∃ (j:Nat) (B' : List Bool),z = j/\j<=l6/\B'.length = 1024/\(∀ x,aV B' x = true↔x < 1024/\(a7 i x\/(x:Int)∈xo\/∃ m∈(En es n).take j,m∉g/\dN es ow m x))/\St w' (fp (some ⟨b,0,none⟩) B' :: aH ks [.slice (some ⟨bs,0,none⟩) N N] :: aH bs (MX (wm (some ⟨b,0,none⟩) G g)) :: aH ko [.slice (some ⟨bo,0,none⟩) N N] :: aH bo (ps.map D8) :: aC (ps.map AJ) :: aC (AK gr) :: own 1 o g.length gc (pA g) :: has h0 :: F),
   λz _=>l6 - z.toNat,⟨0,_,rfl,Y4 _,by rw [bR]; exact b7,λx=>?_,h⟩,?_⟩
  ·rw [ik,gv,b7,ZZ,bG,Zd,Y7,aat]
   constructor
   ·rintro (⟨V,W⟩ | ⟨V,W⟩)
    ·exact ⟨V,.inl W⟩
    ·exact ⟨V,.inr (.inl W)⟩
   ·rintro ⟨V,W | W | ⟨m,hm,_⟩⟩
    ·exact .inl ⟨V,W⟩
    ·exact .inr ⟨V,W⟩
    ·simp at hm
  rintro _ z w6 ⟨j,B',rfl,hj,Z,b0,h⟩;have s0:=aR 8 h.l
  refine ae (λh2=>?_) λh2=>?_
  ·have h2:j < l6:=by have:=YR h2; omega
   obtain ⟨mI,ba⟩ : ∃ mI,xe[j]? = some mI:=⟨xe[j]'ω,YU _⟩
   obtain ⟨m,b4,rfl⟩ : ∃ m:Nat,(En es n)[j]? = some m/\mI = (m:Int):=by
    refine ⟨mI.toNat,by rw [bd,YW,ba]; rfl,?_⟩;have:=hR xe (YV bb) mI (YV ba);omega
   have cb:m < N:=by have:=UO hR (YV b4); omega
   have bl:∀ {b6 : List Bool},(∀ x,aV b6 x = true↔aV B' x = true\/(x < 1024/\m∉g/\dN es ow m x))->∀ x,aV b6 x = true↔x < 1024/\(a7 i x\/(x:Int)∈xo\/∃ m∈(En es n).take (j + 1),m∉g/\dN es ow m x):=by
    intro b6 hB x;rw [hB,b0,Y2,b4,Z6]
    constructor
    ·rintro (⟨V,W | W | ⟨y,R,X⟩⟩ | ⟨V,W⟩)
     ·exact ⟨V,.inl W⟩
     ·exact ⟨V,.inr (.inl W)⟩
     ·exact ⟨V,.inr (.inr ⟨y,aaI _ R,X⟩)⟩
     ·exact ⟨V,.inr (.inr ⟨m,σ,W⟩)⟩
    ·rintro ⟨V,W | W | ⟨y,R,X⟩⟩
     ·exact .inl ⟨V,.inl W⟩
     ·exact .inl ⟨V,.inr (.inl W)⟩
     ·rcases YY.1 R with R | R
      ·exact .inl ⟨V,.inr (.inr ⟨y,R,X⟩)⟩
      ·simp at R; subst R; exact .inr ⟨V,X⟩
   obtain ⟨dk,cp,cz⟩:=b3.at ba;have a4:=(ah 2 h.l);refine aw cp h2 ⟨(m:Int),cz w6 s0,_,_,_,(ah 1 h.l).cell0 (sub.refl _),aw rfl cb ?_⟩
   by_cases a9:m∈g
   ·have aI:(wm (some ⟨b,0,none⟩) G g)[m]? = some (some (⟨b,0,none⟩ : Addr)):=by rw [Y,Y5 a9]
    refine ⟨some ⟨b,0,none⟩,a4.cell (sub.refl _) (HG aI),⟨_,Og aQ (rfl:aj Ty od = .ptr _) rfl (by decide),false,rfl,?_⟩⟩;refine ⟨⟨ω,ω⟩,⟨j + 1,B',rfl,h2,Z,bl λx=>⟨.inl,λh=>h.resolve_right λh=>h.2.1 a9⟩,h⟩,bn h2⟩
   ·have cC:m∈gs.flatten:=(cy n c7 m (YV b4)).resolve_left a9;obtain ⟨g2,cB,cg⟩:=List.mem_flatten.1 cC;obtain ⟨k2,ca⟩:=Zr cB;obtain ⟨⟨b2,B2⟩,cm⟩ : ∃ y,gr[k2]? = some y:=⟨gr[k2]'(by rw [hF.lg]; exact (YT.1 ca).1),YU _⟩;obtain ⟨f1,f2,_⟩:=hF.st k2 g2 b2 B2 ca cm m cg;have aI:(wm (some ⟨b,0,none⟩) G g)[m]? = some (some (⟨b2,0,none⟩ : Addr)):=by rw [Y,YZ a9,f1]
    have ci:(AK gr)[k2]? = some (fp (some ⟨b2,0,none⟩) B2):=by unfold AK; rw [YW,cm]; rfl
    have ck:=QT (xo:=Operand.tmp 52) (yo:=Operand.tmp 53) ((St.Ac (h.pick 9 [6,0,1,2,3,4,5,7,8]) ci).pick 3 [0,2]);refine ⟨some ⟨b2,0,none⟩,a4.cell (sub.refl _) (HG aI),⟨_,ck,true,rfl,?_⟩⟩;refine ⟨_,_,_,(ah 1 h.l).cell0 (sub.refl _),aw rfl cb ⟨some ⟨b2,0,none⟩,a4.cell (sub.refl _) (HG aI),ag h λd3 w7 h=>?_⟩⟩;have h:=h.pick 10 [1,0,2,3,4,5,6,7,8,9]
    refine (Mu (os:=[some ⟨b2,0,none⟩]) (vss:=[B2]) h (λhh hl=>eM rfl (.inr ⟨_,rfl,(show au hh ⟨d3,0,none⟩ [.pointer (some ⟨b2,0,none⟩)] from ah 0 hl)⟩)) rfl (λhh hl y q v hq hv=>?_) (λhh hl=>fo.mono (aR 8 hl) C.tab) σ).mono ?_
    ·obtain ⟨O,s1,ha⟩:=QS 6 hl (A:=aC (AK gr));obtain ⟨h3,s3,h4⟩:=mh (YV ci) ha;cases y with
     | zero=>cases hq; cases hv; exact .inl ((G2 h4).mono (s3.trans s1))
     | succ y=>simp at hq
    rintro _ w8 ⟨rfl,h⟩;refine ⟨_,rfl,⟨ω,ω⟩,⟨j + 1,cZ B' [B2],rfl,h2,by rw [xf]; exact Z,bl λx=>?_,h.pick 10 [0,2,3,4,5,6,7,8,9]⟩,bn h2⟩
    show aV (dC B' (dB B2)) x = true↔_
    rw [eR,Z,ZZ,Zd,Y7,f2.fn]
    constructor
    ·rintro (p | ⟨V,_,W⟩)
     ·exact .inl p
     ·exact .inr ⟨V,a9,W⟩
    ·rintro (p | ⟨V,_,W⟩)
     ·exact .inl p
     ·exact .inr ⟨V,V,W⟩
  ·have h2:j = l6:=by have:=YS h2; omega
   subst h2;refine ⟨⟨ω,ω⟩,⟨i + 1,B',rfl,O,Z,λx=>?_,h⟩,bn O⟩;have d4:(En es n).take j = En es n:=Zb (by rw [bd,Y3]; omega);rw [b0,d4];refine and_congr_right λ_=>?_
   show _↔(∃ n∈g.take (i + 1),_)\/∃ n∈g.take (i + 1),_
   rw [Y2,hn,Z6]
   constructor
   ·rintro ((⟨y,R,X⟩ | ⟨y,R,X⟩) | q | q)
    ·exact .inl ⟨y,aaI _ R,X⟩
    ·exact .inr ⟨y,aaI _ R,X⟩
    ·exact .inl ⟨n,σ,by rw [bT]; exact q⟩
    ·exact .inr ⟨n,σ,q⟩
   ·rintro (⟨y,R,X⟩ | ⟨y,R,X⟩)
    ·rcases YY.1 R with R | R
     ·exact .inl (.inl ⟨y,R,X⟩)
     ·simp at R; subst R; exact .inr (.inl (by rw [bT] at X; exact X))
    ·rcases YY.1 R with R | R
     ·exact .inl (.inr ⟨y,R,X⟩)
     ·simp at R; subst R; exact .inr (.inr X)
 have O:i = g.length:=by have:=YS O; omega
 subst O
 have c8:∀ v∈g,QR es ow v B:=λv hv=>⟨b7,λx=>by
  rw [bG];refine and_congr_right λ_=>?_
  show (∃ n∈g.take g.length,_)\/(∃ n∈g.take g.length,_)↔_
  rw [Zi,dN.step hv cv]⟩
 refine (FQ (h.pC) (fo.mono (aR 8 h.l) C.tab)).mono ?_;rintro _ w9 ⟨a5,c5,rfl,h5⟩;have h:=h5.nf h;have d6:(dB B).length = bg B:=qz B;have e7:bg B<=1024:=by have:=fZ B; omega
 refine ⟨_,_,_,rfl,λz w'=>∃ (i:Nat) (U : List Ls),z = i/\i<=g.length/\U.length = N/\(∀ v∈g.take i,∃ p,U[v]? = some p/\p.2 = dB B)/\(∀ v,v∉g->U[v]? = ps[v]?) /\
   St w' (own 1 a5 (bg B) c5 (iv (dB B)) :: fp (some ⟨b,0,none⟩) B :: aH ks [.slice (some ⟨bs,0,none⟩) N N] :: aH bs (MX (wm (some ⟨b,0,none⟩) G g)) :: aH ko [.slice (some ⟨bo,0,none⟩) N N] :: aH bo (U.map D8) :: aC (U.map AJ) :: aC (AK gr) :: own 1 o g.length gc (pA g) :: has h0 :: F),
  λz _=>g.length - z.toNat,⟨0,ps,rfl,Y4 _,hF.lp,λv hv=>by simp at hv,λ_ _=>rfl,h⟩,?_⟩
 rintro _ z d1 ⟨i,U,rfl,hi,bA,b5,c9,h⟩
 refine ae (λO=>?_) λO=>?_
 ·have O:i < g.length:=by have:=YR O; omega
  obtain ⟨v,hv⟩ : ∃ v,g[i]? = some v:=⟨g[i],YU _⟩;have bc:=ac v (YV hv);obtain ⟨be,aa,a6⟩:=cr (h.pick 10 [8,0,1,2,3,4,5,6,7,9]) (jm hv);refine aw aa O ⟨_,a6,λcc hd=>?_⟩;have h:=h.eq (aE hd);have cD:=ah 4 h.l;refine ⟨λu=>Gr cc u,Gr.refl _,_,_,_,λu hu=>cD.cell0 hu,(JT (xs:=dB B) (eO d6 (dJ 0 h.l)) ω ω).mono ?_⟩;rintro _ d7 ⟨a1,a3,rfl,bP⟩;have d2:Gr cc d7:=bP.aW;have h:=bP.nf h;refine ⟨_,_,_,rfl,d2,aw rfl bc ?_⟩;rw [aK]
  refine bj (h.pick 11 [6,0,1,2,3,4,5,7,8,9,10]) (by simp; omega) λe6 h=>⟨⟨ω,ω⟩,⟨i + 1,U.set v ((a1,a3),dB B),rfl,O,by rw [Zn]; exact bA,λu hu=>?_,λu hu=>?_,?_⟩,bn O⟩
  ·by_cases e:u = v
   ·subst e; exact ⟨_,by rw [aap ω],rfl⟩
   ·rw [Y2,hv,Z6] at hu
    rcases YY.1 hu with hu | hu
    ·obtain ⟨p,R,X⟩:=b5 u hu;exact ⟨p,by rw [aaJ (aaw e)]; exact R,X⟩
    ·simp at hu; exact absurd hu e
  ·have e:u≠v:=λe=>hu (e ▸ YV hv);rw [aaJ (aaw e)]; exact c9 u hu
  ·have h:=St.PT (A:=own 1 a1 (dB B).length a3 (iv (dB B))) (M:=U.map AJ) (h.pick 11 [1,7,0,2,3,4,5,6,8,9,10]) (n:=v) (by simp; omega);have e1:(U.map D8).set v (.slice a1 (dB B).length a3) = (U.set v ((a1,a3),dB B)).map D8:=by rw [ZM]; rfl
   have e2:(U.map AJ).set v (own 1 a1 (dB B).length a3 (iv (dB B))) = (U.set v ((a1,a3),dB B)).map AJ:=by rw [ZM]; rfl
   rw [e1,e2] at h;exact h.pick 10 [2,3,4,5,6,1,0,7,8,9]
 have O:i = g.length:=by have:=YS O; omega
 subst O;rw [Zi] at b5;refine ⟨rfl,?_⟩
 show St d1 (Oi es ow ks bs ko bo N (gs ++ [g]) :: has h0 :: F)
 refine zn.2 ⟨wm (some ⟨b,0,none⟩) G g,U,gr ++ [(b,B)],⟨by rw [Ec]; exact hF.ls,bA,by simp [hF.lg],λi g' b' B' a0 am v hv=>?_⟩,?_⟩
 ·by_cases e:i < gs.length
  ·rw [Y8 e] at a0;rw [Y8 (by rw [hF.lg]; exact e)] at am;have d8:v∈gs.flatten:=List.mem_flatten.2 ⟨g',YV a0,hv⟩;have ch:v∉g:=λh=>d5 v h d8;obtain ⟨R,X,q3⟩:=hF.st i g' b' B' a0 am v hv;exact ⟨by rw [Y,YZ ch]; exact R,X,by rw [c9 v ch]; exact q3⟩
  ·have cu:=(YT.1 a0).1;simp at cu;have e:i = gs.length:=ω
   subst e;rw [Y_ (Zc _),Z0] at a0;rw [Y_ (by rw [hF.lg]; exact Zc _),hF.lg,Z0] at am;cases a0; cases am;exact ⟨by rw [Y,Y5 hv],c8 v hv,b5 v hv⟩
 ·have e1:AK (gr ++ [(b,B)]) = AK gr ++ [fp (some ⟨b,0,none⟩) B]:=by simp [AK]
  rw [e1];exact (St.snoc (h.pick 10 [1,7,2,3,4,5,6,9])).pick 7 [1,2,3,4,5,0,6]
end
def Oj (l:List Int):Bool:=!l.any λx=>decide (x < 0) || decide (1024<=x)
theorem JV {l:List Int}:Oj l = true↔∀ x∈l,0<=x/\x < 1024:=by
 unfold Oj;rw [aag,List.any_eq_false];refine forall_congr' λx=>forall_congr' λu=>?_;simp
def Bt (es ow:List (List Int)):Bool:=jW es && ow.length == es.length && ow.all Oj
section
variable {w:aa4} {L:List az} {a oa:aa3} {N M c oc l:Nat} {es ow:List (List Int)}
def MY (es ow:List (List Int)) (ps:List Ls):Prop:=ps.length = es.length/\∀ v,v < es.length->∃ B p,QR es ow v B/\ps[v]? = some p/\p.2 = dB B
theorem TJ (hr:bh (hp w) es a N) (ho:bh (hp w) ow oa M) (ht:gA (hp w)) (hB:∀ l∈es,l.length * 8<=140737488355328) (hO:∀ l∈ow,l.length * 8<=140737488355328) (hb:N * 24<=140737488355328) (hM:M * 24<=140737488355328) :
  ρ B7 [.slice a N c,.slice oa M oc] w λv w'=>(Bt es ow = false/\v = .tuple (Array.mk [.slice none 0 0,.int .i64 1])/\Gr w w') \/
   (Bt es ow = true/\∃ (bo:Nat) (ps:List Ls),MY es ow ps/\v = .tuple (Array.mk [.slice (some ⟨bo,0,none⟩) N N,.int .i64 0])/\St w' (own 1 (some ⟨bo,0,none⟩) N N (ps.map D8) :: aC (ps.map AJ) :: all w)):=by
 have hN:=hr.1;have a7:=ho.1;refine zi ?_;refine ag (St.all w) λke w1 h=>ag h λkn w2 h=>?_;have g2:Gr w w2:=h.tail.aW
 refine ⟨λb w'=>b = !(jW es && M == N)/\Gr w2 w',⟨_,_,_,(ah 1 h.l).cell0 (sub.refl _),(TH (hr.mono g2) ω λx R=>by have:=hB x R; omega).mono ?_⟩,?_⟩
 ·rintro _ w3 ⟨rfl,g3⟩;have h:=h.gr g3
  refine ⟨_,rfl,ae (λG=>?_) λG=>?_⟩
  ·have G:jW es = false:=by simpa using G
   exact ⟨by rw [G]; rfl,g3⟩
  ·have G:jW es = true:=by simpa using G
   refine ⟨_,_,_,(ah 0 h.l).cell0 (sub.refl _),_,_,_,(ah 1 h.l).cell0 (sub.refl _),?_,g3⟩;rw [G,aaz]
   by_cases e:M = N
   ·subst e; simp
   ·have:((M:Int) != (N:Int)) = true:=by simp; omega
    rw [this]; simp [e]
 rintro _ b2 w4 ⟨rfl,g4⟩
 refine ae (λG=>?_) λG=>?_
 ·refine .inl ⟨?_,rfl,g2.trans g4⟩
  have G:(jW es && M == N) = false:=by cases hq:(jW es && M == N) with
   | false=>rfl
   | true=>rw [hq] at G; cases G
  unfold Bt;rw [a7,hN,G]; rfl
 have G:(jW es && M == N) = true:=by cases hq:(jW es && M == N) with
  | true=>rfl
  | false=>rw [hq] at G; cases G
 obtain ⟨h2,h3⟩:=Bool.and_eq_true_iff.1 G;have h3:M = N:=by simpa using h3
 subst h3;have h:=h.gr g4;have aT:=hr.mono (g2.trans g4);have a6:=ho.mono (g2.trans g4);refine ⟨_,_,_,(ah 0 h.l).cell0 (sub.refl _),λz w'=>∃ i:Nat,z = i/\i<=M/\(∀ x∈ow.take i,Oj x = true)/\hp w' = hp w4,λz _=>M - z.toNat,⟨0,rfl,Y4 _,λx R=>by simp at R,rfl⟩,?_⟩;rintro _ z Z ⟨i,rfl,hi,V,U⟩
 refine ae (λO=>?_) λO=>?_
 ·have O:i < M:=by have:=YR O; omega
  obtain ⟨x,ad,vs,R,ab,X,o,l1,c1,rfl,b6,a5⟩:=a6.get O;rw [aN,show i * qk.n (List Int) = i from Z4 i] at X;have bb:=hO x (YV R);have b7:=a5.1
  refine aw ab O ⟨o,l1,c1,X.cell0 (Gr.of_eq U),(UQ (p:=λx=>decide (x < 0) || decide (1024<=x)) (d:=xI) (e:=[]) rfl (by rw [U]; exact a5) ω ?_).mono ?_⟩
  ·intro y Y u hu
   refine uO (ae (λh=>?_) λh=>?_)
   ·exact ⟨by rw [show decide (y < 0) = true from h]; rfl,hu⟩
   ·exact ⟨by rw [show decide (y < 0) = false from h,Bool.false_or],hu⟩
  rintro _ w6 ⟨rfl,e6⟩
  refine ⟨_,rfl,ae (λh5=>?_) λh5=>?_⟩
  ·refine .inl ⟨?_,rfl,(g2.trans g4).trans (Gr.of_eq (e6.trans U))⟩;unfold Bt;rw [Bool.and_eq_false_iff];right;rw [List.all_eq_false];exact ⟨x,YV R,by unfold Oj; rw [h5]; decide⟩
  ·refine ⟨⟨ω,ω⟩,⟨i + 1,rfl,O,λy Y=>?_,e6.trans U⟩,bn O⟩;rw [Y2,R] at Y
   rcases YY.1 Y with Y | Y
   ·exact V y Y
   ·simp at Y; subst Y; unfold Oj; rw [h5]; rfl
 have O:i = M:=by have:=YS O; omega
 subst O;rw [Zb ω] at V;have h:=h.eq U
 have a9:Bt es ow = true:=by
  unfold Bt;rw [h2,a7,hN];simp;exact V
 refine ⟨_,_,_,(ah 1 h.l).cell0 (sub.refl _),⟨ω,rfl,ω⟩,?_⟩
 -- from here on what there is stays as it is
 have a4:=St.all Z;refine ag a4 λbs w7 h7=>ag h7 λks w8 h8=>bj h8 σ λw9 h9=>?_;have c1:∀ {u:aa4} {v:List Value} {L' : List az} {b:Nat},Gr Z u->u.cell? (aM ke) = some (.slice a i c):=λg=>(ah 1 h.l).cell0 g;refine ⟨_,_,_,c1 (v:=[]) (L':=[]) (b:=0) h9.tail.tail.has,⟨ω,rfl,ω⟩,ag h9 λbo b5 am=>ag am λko ba aa=>bj aa σ λaI a0=>?_⟩;refine ⟨_,_,_,c1 (v:=[]) (L':=[]) (b:=0) a0.tail.tail.tail.tail.has,?_⟩;have W:bh (hp Z) es a i:=by rw [U]; exact aT
 have a8:bh (hp Z) ow oa i:=by rw [U]; exact a6
 have C:Xk es ow (hp Z) ke kn i a oa c oc:=⟨ah 1 h.l,ah 0 h.l,W,a8,by rw [U]; exact fo.mono (g2.trans g4) ht,hB,hO,hb,λx R=>JV.1 (V x R)⟩;have hR:=Eb.1 h2
 have ac:St aI ([Oi es ow ks bs ko bo i [],has (hp Z)] ++ []):=by
  have q1:ir (Int.toNat (i:Int)) [vP none] = MX (List.replicate i none):=by rw [dq]; simp [MX]
  have q2:ir (Int.toNat (i:Int)) [vS none 0 0] = (List.replicate i (((none,0),[]):Ls)).map D8:=by rw [dq]; simp [D8]
  rw [q1,q2] at a0;have a3:=(St.flat (M:=AK [])).2 (yM (A:=AJ ((none,0),[])) (λw L h=>ay 1 h) i a0);have q3:List.replicate i (AJ ((none,0),[])) = (List.replicate i (((none,0),[]):Ls)).map AJ:=σ
  rw [q3] at a3;exact zn.2 ⟨_,_,[],⟨σ,σ,rfl,λk g b B hk=>by simp at hk⟩,a3.pick 7 [4,5,2,3,1,0,6]⟩
 refine (VX (Q:=λgs=>[Oi es ow ks bs ko bo i gs,has (hp Z)]) (L:=[]) rfl (VY hR C) (λgs hh hs=>W.mono (aR 1 hs)) hR hB hb ac).mono ?_;rintro _ bc ⟨rfl,gs,hG,a1,h⟩;obtain ⟨b4,ps,gr,hF,h⟩:=zn.1 h
 refine ⟨rfl,_,_,_,(ah 2 h.l).cell0 (sub.refl _),.inr ⟨a9,bo,ps,⟨by rw [hF.lp,hN],λv hv=>?_⟩,rfl,?_⟩⟩
 ·have b3:=(a1 v).2 ω;obtain ⟨g,hg,b0⟩:=List.mem_flatten.1 b3;obtain ⟨k,hk⟩:=Zr hg;obtain ⟨⟨b,B⟩,b1⟩ : ∃ y,gr[k]? = some y:=⟨gr[k]'(by rw [hF.lg]; exact (YT.1 hk).1),YU _⟩;obtain ⟨_,q2,p,q3,q4⟩:=hF.st k g b B hk b1 v b0;exact ⟨B,p,q2,q3,q4⟩
 ·have h:=h.pick 7 [3,4,6];have h:=dz (sz:=1) (l:=i) (c:=i) (cs:=[]) (by rw [Zm]; exact h) (by simp [hF.lp]) (by simp [hF.lp]) (Zc _);have g5:Gr w Z:=(g2.trans g4).trans (Gr.of_eq U);exact ((h.pick 3 [2,0,1]).head (B:=has (hp w)) λhh hs=>sub.trans g5 hs).pick 3 [1,2,0]
end
section
variable {es ow:List (List Int)}
open Classical in
noncomputable def oE (es ow:List (List Int)) (v:Nat):List Int:=cq 1024 λx=>decide (dN es ow v x)
noncomputable def AM (es ow:List (List Int)):List (List Int):=(List.range es.length).map (oE es ow)
theorem zo:(AM es ow).length = es.length:=by unfold AM; simp
theorem zp {v:Nat} (h:v < es.length):(AM es ow)[v]? = some (oE es ow v):=by unfold AM; simp [h]
theorem iN {v:Nat} {z:Int}:z∈oE es ow v↔∃ x:Nat,z = x/\x < 1024/\dN es ow v x:=by
 unfold oE; rw [df]; simp
theorem Bu {v:Nat}:jH (oE es ow v):=pX _ _
theorem LD {v:Nat}:(oE es ow v).length<=1024:=kF _ _
theorem dN.iff {v x:Nat}:dN es ow v x↔(x:Int)∈ow.getD v []\/∃ m∈En es v,dN es ow m x:=by
 constructor
 ·rintro ⟨u,h,z⟩;cases h with
  | refl=>exact .inl z
  | step O G=>exact .inr ⟨_,O,_,G,z⟩
 ·rintro (h | ⟨m,O,u,G,z⟩)
  ·exact ⟨v,.refl v,h⟩
  ·exact ⟨u,.step O G,z⟩
theorem dN.least {Q:Nat->Nat->Prop} (h1:∀ v x:Nat,(x:Int)∈ow.getD v []->Q v x) (h2:∀ v m x:Nat,m∈En es v->Q m x->Q v x) {v x:Nat} (h:dN es ow v x):Q v x:=by
 obtain ⟨u,h,z⟩:=h
 induction h with
 | refl a=>exact h1 a x z
 | step ha hb ih=>exact h2 _ _ _ ha (ih z)
theorem HH (B:List Bool):dB B = cq B.length (aV B):=by
 unfold dB cq;rfl
theorem qY {n:Nat} {f f' : Nat->Bool} (h:∀ k,k < n->f k = f' k):cq n f = cq n f':=by
 unfold cq;rw [Z5 λk u=>h k (Zo.1 u)]
open Classical in
theorem QR.row {v:Nat} {B:List Bool} (h:QR es ow v B):dB B = oE es ow v:=by
 rw [HH,h.ln];unfold oE;refine qY λk z=>?_;have:=h.fn k;cases hb:aV B k with
 | true=>rw [hb] at this; exact (Zp (this.1 rfl).2).symm
 | false=>rw [hb] at this; exact (Zu λu=>by have:=this.2 ⟨z,u⟩; cases this).symm
theorem MY.rows {ps:List Ls} (h:MY es ow ps):ps.map (·.2) = AM es ow:=by
 apply ZK;intro v
 by_cases hv:v < es.length
 ·obtain ⟨B,p,u,z,G⟩:=h.2 v hv;rw [YW,z,zp hv];simp only [ZY];rw [G,u.row]
 ·rw [Zf (by rw [Y3,h.1]; omega),Zf (by rw [zo]; omega)]
theorem VZ {rs:List (List Int)} (hl:rs.length = es.length) (h:∀ (v:Nat) row,rs[v]? = some row->jH row/\∀ z,z∈row↔∃ x:Nat,z = x/\x < 1024/\dN es ow v x):rs = AM es ow:=by
 apply ZK;intro v
 by_cases hv:v < es.length
 ·have u:rs[v]? = some (rs[v]'ω):=YU _;obtain ⟨O,G⟩:=h v _ u;rw [u,zp hv,zb O Bu λz=>(G z).trans iN.symm]
 ·rw [Zf ω,Zf (by rw [zo]; omega)]
end
section
variable {g:af} {nn nn' : List Bool} {ss ss' : List SQ}
def qZ (g:af) (ss:List SQ):List (List Int):=(bD g ss).map (iY g ss)
noncomputable def LF (g:af) (nn:List Bool) (ss:List SQ):List (List Int):=AM (sZ g nn ss) (qZ g ss)
noncomputable def EJ (g:af) (nn:List Bool) (ss:List SQ):List (List Int):=AM (vW g nn ss) (LF g nn ss)
theorem MZ (h:bq ss = bq ss'):qZ g ss = qZ g ss':=by
 unfold qZ; rw [uD h]; exact ZP λt _=>Qn h t
theorem QU (h:bq ss = bq ss'):LF g nn ss = LF g nn ss':=by unfold LF; rw [MT h,MZ h]
theorem V0 (h:bq ss = bq ss'):EJ g nn ss = EJ g nn ss':=by unfold EJ; rw [MU h,QU h]
theorem Ed:(sZ g nn ss).length = (bD g ss).length:=by unfold sZ; simp
theorem Ee:(vW g nn ss).length = (bD g ss).length:=by unfold vW; simp
theorem QV:(qZ g ss).length = (bD g ss).length:=by unfold qZ; simp
theorem TK:(LF g nn ss).length = (bD g ss).length:=by unfold LF; rw [zo,Ed]
theorem TL:(EJ g nn ss).length = (bD g ss).length:=by unfold EJ; rw [zo,Ee]
structure bK where
 st:Int
 prod:Int
 tm:List Int
deriving DecidableEq
instance:Inhabited bK:=⟨⟨0,0,[]⟩⟩
open Classical in
noncomputable def eZ (g:af) (fs:List (List Int)) (b:js):bK:=⟨b.st,b.prod,cq g.T λx=>decide (∃ t∈b.tr,(x:Int)∈fs.getD t.toNat [])⟩
noncomputable def bz (g:af) (nn:List Bool) (ss:List SQ):List bK:=(qQ g ss).map (eZ g (EJ g nn ss))
theorem Gc (h:bq ss = bq ss'):bz g nn ss = bz g nn ss':=by unfold bz; rw [MV h,V0 h]
end
section
variable {g:af} {nn:List Bool} {ss:List SQ}
theorem Xl (hc:ak g):∃ nn,j6 g nn:=by
 refine ⟨(List.range g.N).map λi=>@decide (BZ g ((g.T + i:Nat):Int)) (Classical.propDecidable _),σ,λi=>?_⟩;unfold aV;rw [YX,YW]
 by_cases hi:i < g.N
 ·rw [Z8 hi];simp
 ·rw [Zf (by simp; omega)];simp only [Option.map_none,Option.getD_none,aav,false_iff];intro h
  have:((g.T + i:Nat):Int) < g.T + g.N:=by
   cases hs:((g.T + i:Nat):Int) with
   | ofNat n =>
    rw [hs] at h;generalize hz:(Int.ofNat n) = z at h;cases h with
    | mk p hp _ =>
     have:=(Tz (.inr hc)).1 p hp |>.1
     omega
   | negSucc n=>omega
  omega
structure JW (F:af->List Bool->List SQ->List (List Int)):Prop where
 es:∀ {g nn ss ss'},bq ss = bq ss'->F g nn ss = F g nn ss'
 ln:∀ {g nn ss},(F g nn ss).length = (bD g ss).length
def Bv (F:af->List Bool->List SQ->List (List Int)) (g:af) (w:aa4) (v:Value) (w' : aa4):Prop:=∃ (ss:List SQ) (ask int f:Int) (nn:List Bool) (o:aa3) (c:Nat) (ds:List (Lq Int)),v = .tuple #[.slice o ds.length c,.int .i64 f]/\sV g ss ask int f/\(f = 0->j6 g nn)/\ds.map (·.2) = F g nn ss/\St w' (own 1 o ds.length c (ds.map bF) :: aC (ds.map (bB 1 iv)) :: all w)
theorem JW.nil {F:af->List Bool->List SQ->List (List Int)} (h:JW F):F g nn [] = []:=by
 have:=h.ln (g:=g) (nn:=nn) (ss:=[]);exact Y9 (by rw [this]; simp [bD,vk])
theorem V1:JW λg _ ss=>qZ g ss:=⟨λh=>MZ h,QV⟩
theorem V2:JW sZ:=⟨λh=>MT h,Ed⟩
theorem V3:JW vW:=⟨λh=>MU h,Ee⟩
theorem Xm:JW LF:=⟨λh=>QU h,TK⟩
theorem sV.nil {a i f:Int} (h:sV g ss a i f) (hf:f≠0):ss = []:=by
 rcases h with ⟨_,e,_⟩ | ⟨_,_,e,_⟩ | ⟨_,_,_,_,e⟩ <;> first | exact e | exact absurd e hf
theorem M0 (hc:ak g) (hA:bw g ss) {l:List Int} (hl:l∈qZ g ss):l.length<=66/\jH l/\∀ z∈l,0<=z/\z < g.T:=by
 obtain ⟨t,ht,rfl⟩:=Zh.1 hl;obtain ⟨Y,hN,_⟩:=hc.b9;obtain ⟨i,q,k,e,hi,G,u,X,rfl⟩:=jq ht;obtain ⟨_,_,j,r,U,V,O,R,_⟩:=fh hc hA G u;rw [DT (j:=j) (q:=r) (by rw [<- U]; exact pR hA G u) O,Tu hc hA O]
 refine ⟨?_,pX _ _,λz W=>?_⟩
 ·have:=kF g.T (VJ g ss ⟨(i:Int),e.sym⟩ j);unfold cq at this;omega
 ·obtain ⟨n,rfl,Z,_⟩:=df.1 (show z∈cq g.T (VJ g ss ⟨(i:Int),e.sym⟩ j) from W);omega
theorem Gd {n:Nat} {f:Nat->Nat->Bool}:jW ((List.range n).map λi=>cq n (f i)) = true:=by
 rw [Eb];intro l z x u;obtain ⟨i,_,rfl⟩:=Zh.1 z;obtain ⟨k,rfl,G,_⟩:=df.1 u;simp; omega
theorem M1 {es ow:List (List Int)} {l:List Int} (h:l∈AM es ow):l.length<=1024/\jH l/\∀ z∈l,0<=z/\z < 1024:=by
 unfold AM at h;obtain ⟨v,_,rfl⟩:=Zh.1 h;refine ⟨LD,Bu,λz u=>?_⟩;obtain ⟨x,rfl,G,_⟩:=iN.1 u;omega
end
section
variable {w:aa4} {L:List az} {g:af} {x:GA}
theorem Ef {f1 f2:FuncId} {E O:af->List Bool->List SQ->List (List Int)} (hE:JW E) (hO:JW O) (hf1:Fn f1 = true) (hf2:Fn f2 = true) (hg:gR (hp w) g x) (ht:gA (hp w))
  (C1:∀ u,Gr w u->ρ f1 [.agg ⟨x.cells⟩] u (Bv O g u)) (C2:∀ u,Gr w u->ρ f2 [.agg ⟨x.cells⟩] u (Bv E g u))
  (hOb:∀ {nn ss},ak g->bw g ss->∀ l∈O g nn ss,l.length<=33280/\∀ z∈l,0<=z/\z < 1024) (hEb:∀ {nn ss},ak g->bw g ss->jW (E g nn ss) = true/\∀ l∈E g nn ss,l.length<=33280) :
  ρ qX [.agg #[.func (.func f1) #[] #[],.func (.func f2) #[] #[]],.agg ⟨x.cells⟩] w (Bv (λg nn ss=>AM (E g nn ss) (O g nn ss)) g w):=by
 refine oB (ag (St.all w) λk1 w1 h=>?_);have a4:Gr w w1:=h.aW;have r1:au (hp w1) (aM k1) _:=ah 0 h.l;clear h;refine cG (hg.mono a4) λk2 w2 X b2 B=>?_;have a0:Gr w w2:=a4.trans X;refine ⟨_,_,r1.cell X (j:=0) rfl,_,_,_,_,_,_,_,_,_,_,_,_,_,B.row (sub.refl _),bS.2 ⟨hf1,(C1 w2 a0).mono ?_⟩⟩;rintro _ w3 ⟨ss,ask,int,f,nn,o,c,ds,rfl,hR,hn,a6,h⟩;have W:Gr w2 w3:=aR 2 h.l;have Y:=a0.trans W
 refine ⟨_,_,_,_,rfl,ae (λG=>?_) λG=>?_⟩
 ·have G:f≠0:=by simpa using G
  have hz:=hR.nil G;subst hz;refine ⟨[],ask,int,f,nn,none,0,[],rfl,hR,hn,?_,ay 1 ((St.flat (M:=[])).2 (St.here Y))⟩
  show [] = AM (E g nn []) (O g nn [])
  rw [hE.nil,hO.nil]; rfl
 have G:f = 0:=by simpa using G
 subst G;obtain ⟨hc,hA⟩:=hR.HZ rfl;have aI:=hn rfl;have rO:=VR h;rw [a6] at rO;have b3:ds.length = (bD g ss).length:=by have:=congrArg List.length a6; rw [Y3,hO.ln] at this; exact this
 have b1:=uK hc hA;clear h;refine ⟨_,_,r1.cell (X.trans W) (j:=1) rfl,_,_,_,_,_,_,_,_,_,_,_,_,_,B.row W,bS.2 ⟨hf2,(C2 w3 Y).mono ?_⟩⟩;rintro _ w4 ⟨am,b0,aT,aa,R,o2,c2,V,rfl,ad,ac,U,h⟩;have a3:Gr w3 w4:=aR 2 h.l;have a5:=Y.trans a3
 obtain ⟨ef,ab⟩ : aa = 0/\bq ss = bq am:=by
  obtain ⟨e1,e2,_⟩:=hR.one ad;exact ⟨ω,e2⟩
 subst ef;have en:=(ac rfl).inj aI;subst en;rw [<- hE.es ab] at U;have Z:=VR h;rw [U] at Z;have a1:V.length = (bD g ss).length:=by have:=congrArg List.length U; rw [Y3,hE.ln] at this; exact this
 clear h;obtain ⟨q1,q2⟩:=hEb (nn:=R) hc hA;have q3:=hOb (nn:=R) hc hA;refine ⟨_,_,_,_,rfl,ae (λG=>by simp at G) λ_=>?_⟩;refine (TJ Z (rO.mono a3) (fo.mono a5 ht) (λl hl=>by have:=q2 l hl; omega) (λl hl=>by have:=(q3 l hl).1; omega) ω ω).mono ?_
 have a9:Bt (E g R ss) (O g R ss) = true:=by
  unfold Bt;rw [q1,hO.ln,hE.ln,aaz];simp only [beq_self_eq_true,aaz,aaD];exact λl hl=>JV.2 (q3 l hl).2
 rintro _ w5 (⟨G,_⟩ | ⟨_,bo,ps,a8,rfl,h⟩)
 ·rw [a9] at G; cases G
 have a7:ps.length = V.length:=by rw [a8.1,hE.ln,a1]
 refine ⟨_,_,_,_,rfl,ss,ask,int,0,R,some ⟨bo,0,none⟩,V.length,ps,by rw [a7],hR,hn,MY.rows a8,?_⟩;rw [a7];exact St.Mr h (bH a5)
variable {w:aa4} {L:List az} {g:af} {x:GA}
theorem Bw:ρ AD [] w λv w'=>∃ k:Nat,v = .slice (some (aM k)) 2 2/\St w' (aH k [.func (.func mv) #[] #[],.func (.func mB) #[] #[],.func (.func uM) #[] #[],.func (.func ju) #[] #[]] :: all w) :=
 xH (ag (St.all w) λu z h=>⟨u,rfl,h⟩)
theorem QW (hg:gR (hp w) g x) (hb:jd g):ρ mv [.agg ⟨x.cells⟩] w (Bv (λg _ ss=>qZ g ss) g w):=by
 refine (Lj hg hb).mono ?_;rintro _ O ⟨ss,ask,int,f,o,c,ds,rfl,z,u,h⟩
 by_cases hf:f = 0
 ·obtain ⟨nn,G⟩:=Xl (z.HZ hf).1;exact ⟨ss,ask,int,f,nn,o,c,ds,rfl,z,λ_=>G,u,h⟩
 ·exact ⟨ss,ask,int,f,[],o,c,ds,rfl,z,λh=>absurd h hf,u,h⟩
theorem TM (hg:gR (hp w) g x) (hb:jd g) (ht:gA (hp w)):ρ mB [.agg ⟨x.cells⟩] w (Bv sZ g w):=TC hg hb ht
theorem LG (hg:gR (hp w) g x) (hb:jd g) (ht:gA (hp w)):ρ ju [.agg ⟨x.cells⟩] w (Bv vW g w):=LA hg hb ht
theorem Ol (hg:gR (hp w) g x) (hb:jd g) (ht:gA (hp w)):ρ uM [.agg ⟨x.cells⟩] w (Bv LF g w):=by
 refine AF (cG hg λk1 w1 gw R B=>?_);intro w2 hd;have U:Gr w1 w2:=Gr.of_eq (aE hd);refine ⟨λu=>Gr w1 u,U,_,_,_,_,_,_,_,_,_,_,_,_,_,λu g=>B.row g,Bw.mono ?_⟩;rintro _ W ⟨k,rfl,h⟩;have Y:Gr w2 W:=aR 1 h.l;have G:=U.trans Y;have r:au (hp W) (aM k) _:=ah 0 h.l;clear h;have O:Gr w W:=sub.trans gw G;refine ⟨_,_,_,rfl,λu=>Gr W u,Gr.refl _,λu g=>G.trans g,aq (i:=0) rfl (by decide) ⟨_,_,_,_,λu g=>(r.part 0 2).at g rfl,?_⟩⟩
 refine (Ef V2 V1 rfl rfl (R.mono G) (fo.mono O ht) (λu g=>QW (R.mono (G.trans g)) hb) (λu g=>TM (R.mono (G.trans g)) hb (fo.mono (sub.trans O g) ht)) (λX hA l V=>?_) λX hA=>⟨Gd,λl V=>?_⟩).mono ?_
 ·obtain ⟨h1,_,h2⟩:=M0 X hA V;obtain ⟨hT,_⟩:=X.b9;exact ⟨ω,λz hz=>by have:=h2 z hz; omega⟩
 ·unfold sZ at V;obtain ⟨j,_,rfl⟩:=Zh.1 V;exact Zq (kF _ _) (uK X hA)
 ·rintro _ w4 ⟨ss,ask,int,f,nn,o,c,ds,rfl,hR,hn,Z,h⟩;exact ⟨_,_,_,_,rfl,aR 2 h.l,ss,ask,int,f,nn,o,c,ds,rfl,hR,hn,Z,St.Mr h (bH O)⟩
theorem JX (hg:gR (hp w) g x) (hb:jd g) (ht:gA (hp w)):ρ AB [.agg ⟨x.cells⟩] w (Bv EJ g w):=by
 refine xF (cG hg λk1 Y gw O B=>?_);intro Z hd;have R:Gr Y Z:=Gr.of_eq (aE hd);refine ⟨λu=>Gr Y u,R,_,_,_,_,_,_,_,_,_,_,_,_,_,λu g=>B.row g,Bw.mono ?_⟩;rintro _ V ⟨k,rfl,h⟩;have W:Gr Z V:=aR 1 h.l;have z:=R.trans W;have r:au (hp V) (aM k) _:=ah 0 h.l;clear h;have G:Gr w V:=sub.trans gw z;refine ⟨_,_,_,rfl,λu=>Gr V u,Gr.refl _,λu g=>z.trans g,aq (i:=1) rfl (by decide) ⟨_,_,_,_,λu g=>(r.part 1 2).at g rfl,?_⟩⟩
 refine (Ef V3 Xm rfl rfl (O.mono z) (fo.mono G ht) (λu g=>Ol (O.mono (z.trans g)) hb (fo.mono (sub.trans G g) ht)) (λu g=>LG (O.mono (z.trans g)) hb (fo.mono (sub.trans G g) ht)) (λhc hA l U=>?_) λhc hA=>⟨Gd,λl U=>?_⟩).mono ?_
 ·obtain ⟨h1,_,h2⟩:=M1 U;exact ⟨ω,h2⟩
 ·unfold vW at U;obtain ⟨j,_,rfl⟩:=Zh.1 U;exact Zq (kF _ _) (uK hc hA)
 ·rintro _ w4 ⟨ss,ask,int,f,nn,o,c,ds,rfl,hR,hn,X,h⟩;exact ⟨_,_,_,_,rfl,aR 2 h.l,ss,ask,int,f,nn,o,c,ds,rfl,hR,hn,X,St.Mr h (bH G)⟩
end
section
variable {g:af} {nn:List Bool} {ss:List SQ}
theorem HI {b:js} (h:b∈qQ g ss):∃ q m:Nat,q < ss.length/\m < g.prods.length/\b = ⟨(q:Int),(m:Int),cq (bD g ss).length (dM g ss q m)⟩/\cq (bD g ss).length (dM g ss q m)≠[]:=by
 unfold qQ at h;obtain ⟨q,z,h⟩:=aaa.1 h;unfold dH at h;obtain ⟨m,u,h⟩:=aaa.1 h;unfold uH at h
 split at h
 ·simp at h
 ·rename_i hne;rw [Zl] at h;exact ⟨q,m,Zo.1 z,Zo.1 u,h,hne⟩
theorem V4 {b:js} (h:b∈qQ g ss) {t:Int} (ht:t∈b.tr):∃ j:Nat,t = j/\j < (bD g ss).length:=by
 obtain ⟨q,m,_,_,rfl,_⟩:=HI h;obtain ⟨j,rfl,u,_⟩:=df.1 ht;exact ⟨j,rfl,u⟩
theorem CE (hc:ak g) (hA:bw g ss):(qQ g ss).length<=24832/\∀ b∈qQ g ss,b.tr.length<=33280:=by
 refine ⟨?_,λb G=>?_⟩
 ·have V:=uL g ss ss.length;have u:=hA.dn.2.1;obtain ⟨U,O,z,_⟩:=hc.b9;have R:ss.length * g.prods.length<=256 * 97:=aaG u z
  show (B5 g ss ss.length).length<=_
  omega
 ·obtain ⟨q,m,_,_,rfl,_⟩:=HI G;exact Zq (kF _ _) (uK hc hA)
def jI (b:iK):bK:=⟨b.1.1,b.1.2,b.2.2⟩
def TN (g:af) (fs:List (List Int)) (tr:List Int) (B:List Bool):Prop:=B.length = g.T/\∀ y,aV B y = true↔y < g.T/\∃ t∈tr,(y:Int)∈fs.getD t.toNat []
theorem TN.nil (hT:g.T<=1024) (fs:List (List Int)):TN g fs [] (E0 (g.T:Int) []):=by
 have e:Kp (g.T:Int) = g.T:=SG hT;refine ⟨by rw [SL,e],λy=>?_⟩;unfold E0;rw [ik]; unfold gv;rw [lD]; simp
theorem TN.snoc {fs:List (List Int)} {tr row:List Int} {t:Int} {B:List Bool} (h:TN g fs tr B) (hr:fs.getD t.toNat [] = row):TN g fs (tr ++ [t]) (dC B row):=by
 refine ⟨by rw [bR]; exact h.1,λy=>?_⟩;rw [ik]; unfold gv;rw [ZZ,Zd,Y7,h.2,h.1,aat]
 constructor
 ·rintro (⟨z,O,u,G⟩ | ⟨z,u⟩)
  ·exact ⟨z,O,by simp [u],G⟩
  ·exact ⟨z,t,σ,by rw [hr]; exact u⟩
 ·rintro ⟨z,O,u,G⟩
  rcases YY.1 u with u | u
  ·exact .inl ⟨z,O,u,G⟩
  ·rw [Zl] at u;subst u;exact .inr ⟨z,by rw [<- hr]; exact G⟩
open Classical in
theorem TN.row {fs:List (List Int)} {b:js} {B:List Bool} (h:TN g fs b.tr B):eZ g fs b = ⟨b.st,b.prod,dB B⟩:=by
 unfold eZ;rw [HH,h.1];congr 1;refine qY λk z=>?_;have:=h.2 k;cases hb:aV B k with
 | true=>rw [hb] at this; exact Zp (this.1 rfl).2
 | false=>rw [hb] at this; exact Zu λu=>by have:=this.2 ⟨z,u⟩; cases this
theorem xN:(bz g nn ss).length = (qQ g ss).length:=by unfold bz; simp
end
section
variable {w:aa4} {L:List az} {g:af} {x:GA}
theorem V5 (hg:gR (hp w) g x) (hb:jd g) (ht:gA (hp w)):ρ JQ [.agg ⟨x.cells⟩] w λv w'=>∃ (ss:List SQ) (ask int f:Int) (nn:List Bool) (o:aa3) (c:Nat) (ds:List iK),v = .tuple #[.slice o ds.length c,.int .i64 f]/\sV g ss ask int f/\(f = 0->j6 g nn)/\ds.map jI = bz g nn ss/\St w' (own 3 o ds.length c (c_ ds) :: aC (oQ ds) :: all w):=by
 refine Fe (cG hg λk1 w1 gw a0 B=>?_)
 have zero:∀ {ss:List SQ} {ask int f:Int} {w' : aa4},sV g ss ask int f->f≠0->Gr w w'->∃ (ss:List SQ) (ask int f' : Int) (nn:List Bool) (o:aa3) (c:Nat) (ds:List iK),(.tuple #[.slice none 0 0,.int .i64 f] : Value) = .tuple #[.slice o ds.length c,.int .i64 f']/\sV g ss ask int f'/\(f' = 0->j6 g nn)/\ds.map jI = bz g nn ss/\St w' (own 3 o ds.length c (c_ ds) :: aC (oQ ds) :: all w):=λ{ss ask int f w'} Z G hw=>by
  have hz:=Z.nil G;subst hz;exact ⟨[],ask,int,f,[],none,0,[],rfl,Z,λh=>absurd h G,rfl,ay 3 ((St.flat (M:=[])).2 (St.here hw))⟩
 refine ⟨_,_,_,_,_,_,_,_,_,_,_,_,_,B.row (sub.refl _),(JX a0 hb (fo.mono gw ht)).mono ?_⟩;rintro _ w2 ⟨ss,ask,int,f,nn,o,c,fs,rfl,Z,hn,Y,h⟩;have R:Gr w1 w2:=aR 2 h.l;refine ⟨_,_,_,_,rfl,ae (λG=>zero Z (by simpa using G) (gw.trans R)) λG=>?_⟩;have G:f = 0:=by simpa using G
 subst G;obtain ⟨hc,hA⟩:=Z.HZ rfl;have bG:=hn rfl;have rF:=VR h;rw [Y] at rF;have b7:fs.length = (bD g ss).length:=by have:=congrArg List.length Y; rw [Y3,TL] at this; exact this
 rw [b7] at rF ⊢;have bP:=uK hc hA;clear h Y;refine ⟨_,_,_,_,_,_,_,_,_,_,_,_,_,B.row R,(LB (a0.mono R) hb (fo.mono (gw.trans R) ht)).mono ?_⟩;rintro _ X ⟨c7,ba,bb,f2,o2,c2,b3,rfl,b1,O,h⟩;have a9:Gr w2 X:=aR 2 h.l;obtain ⟨_,aT,_,_,ef,_⟩:=Z.one b1;subst ef;rw [<- MV aT] at O;have rB:=X9 h;rw [O] at rB;have am:b3.length = (qQ g ss).length:=by have:=congrArg List.length O; rw [Y3] at this; exact this
 rw [am] at rB ⊢;clear h O;obtain ⟨c6,ac⟩:=CE hc hA;obtain ⟨sT,_⟩:=hc.b9;have a8:=R.trans a9;have a5:Gr w X:=gw.trans a8;have rF:=rF.mono a9;have tl:=hg.t.1;refine ⟨_,_,_,_,rfl,ae (λG=>by simp at G) λ_=>?_⟩
 refine ⟨λo n c z w'=>∃ (i:Nat) (bs:List iK),z = i/\i<=(qQ g ss).length/\n = bs.length/\bs.map jI = ((qQ g ss).take i).map (eZ g (EJ g nn ss))/\St w' (own 3 o n c (c_ bs) :: aC (oQ bs) :: all X),λ_ _ _ z _=>(qQ g ss).length - z.toNat,
  ⟨0,[],rfl,Y4 _,rfl,rfl,ay 3 ((St.flat (M:=[])).2 (St.all X))⟩,?_⟩
 rintro _ o4 _ c4 _ w4 ⟨i,bs,rfl,hi,rfl,W,h⟩;have b5:sub (hp X) (hp w4):=aR 2 h.l;have bc:bs.length = i:=by have:=congrArg List.length W; rw [Y3,Y3,Zj] at this; omega
 refine ae (λG=>?_) λG=>?_
 rotate_left
 ·have G:i = (qQ g ss).length:=by have:=YS G; omega
  rw [G,Zi] at W;refine iM (fL (dI h) ⟨_,_,_,rfl,ss,ask,int,0,nn,_,_,bs,rfl,Z,hn,W,?_⟩);have h:=fK h;exact St.Mr h (bH a5)
 have G:i < (qQ g ss).length:=by have:=YR G; omega
 obtain ⟨b,ad,ta,tc,a7,rfl,rb,rt⟩:=QH rB G;have ab:=YV a7;have bA:=ac b ab;refine aq rfl G ⟨_,_,_,_,_,rb.at b5 rfl,ag h λkb w5 h=>aU h rfl (by simp [aG]) λw6 h=>?_⟩;have b6:sub (hp X) (hp w6):=aR 3 h.l;refine ⟨_,_,_,B.c0 (sub.trans a8 b6),?_⟩;rw [<- tl];refine (Vr (xs:=[]) (l:=0) (a:=none) (g.T:Int) bh.nil ω).mono ?_;rintro _ w7 ⟨kp,rfl,h7⟩;have h:=h7.nf h;clear h7
 refine ⟨_,rfl,_,_,_,(ah 1 h.l).cell (sub.refl _) (j:=2) rfl,λz w'=>∃ (k:Nat) (U:List Bool),z = k/\k<=b.tr.length/\TN g (EJ g nn ss) (b.tr.take k) U/\St w' (fp (some ⟨kp,0,none⟩) U :: aH kb [.int .i64 b.st,.int .i64 b.prod,.slice ta b.tr.length tc] :: own 3 o4 bs.length c4 (c_ bs) :: aC (oQ bs) :: all X),λz _=>b.tr.length - z.toNat,
  ⟨0,_,rfl,Y4 _,TN.nil ω _,h⟩,?_⟩
 clear h;rintro _ _ w8 ⟨k,U,rfl,hk,hB,h⟩;have a1:sub (hp X) (hp w8):=aR 4 h.l
 refine ae (λV=>?_) λV=>?_
 ·have V:k < b.tr.length:=by have:=YR V; omega
  obtain ⟨t,bl,ht1,b0,b4⟩:=rt.cY V;obtain ⟨j,rfl,hj⟩:=V4 ab (YV ht1);obtain ⟨row,bi,ra,rc,aa,rfl,b2,aI⟩:=QG rF hj;have be:=(M1 (es:=vW g nn ss) (ow:=LF g nn ss) (YV aa)).1;refine aw b0 V ⟨_,b4 _ a1,aw rfl hj ⟨_,_,_,b2 _ a1,(PD h (λhh hl=>aI.mono (aR 3 hl)) ω).mono ?_⟩⟩;rintro _ w9 ⟨rfl,h⟩;refine ⟨_,rfl,⟨ω,ω⟩,⟨k + 1,_,σ,V,?_,h⟩,bn V⟩;rw [bI ht1];exact hB.snoc (by rw [Za,YX,aa]; rfl)
 have V:k = b.tr.length:=by have:=YS V; omega
 rw [V,Zi] at hB;intro a6 hd;have h:=h.eq (aE hd);have rk:au (hp a6) (aM kb) _:=ah 1 h.l
 have a3:pC (hp a6) (some ⟨kp,0,none⟩) U:=by
  obtain ⟨g1,g2,_,s1,_,ha,_⟩:=h;exact (G2 ha).mono s1
 refine ⟨λu=>au (hp u) (aM kb) [.int .i64 b.st,.int .i64 b.prod,.slice ta b.tr.length tc],rk,_,λu r=>r.cell0 (sub.refl _),_,λu r=>r.cell (sub.refl _) (j:=1) rfl,(FQ a3 (fo.mono (sub.trans a5 (aR 4 h.l)) ht)).mono ?_⟩;rintro _ bT ⟨a',c',rfl,a4⟩;have h:=a4.nf h;clear a4;refine ⟨_,_,_,rfl,ah 2 h.l,ag h λkn bC h=>⟨ah 3 h.l,?_⟩⟩;refine (aL (us:=c_ bs) aQ (rfl:aj Ty _ = .slice _) (rfl:aj Ty _ = .slice _) rfl rfl rfl (h.pick 6 [0,4,1,2,3,5]) rfl (by simp [aG]) (by show (bs.length + 1) * 40<=_; omega) ω).mono ?_;rintro _ bd ⟨o',c5,rfl,h⟩
 refine ⟨_,_,_,rfl,ah 4 h.l,⟨ω,ω⟩,⟨i + 1,bs ++ [((b.st,b.prod),((a',c'),dB U))],σ,G,σ,?_,?_⟩,bn G⟩
 ·rw [Zg,W,Y2,a7,Zg]
  show _ ++ [(⟨b.st,b.prod,dB U⟩ : bK)] = _ ++ [eZ g (EJ g nn ss) b]
  rw [hB.row]
 ·have e1:c_ (bs ++ [((b.st,b.prod),((a',c'),dB U))]) = c_ bs ++ [.int .i64 b.st,.int .i64 b.prod,.slice a' (bg U) c']:=by
   rw [CD];unfold c_ QF bF;simp [qz]
  have e2:oQ (bs ++ [((b.st,b.prod),((a',c'),dB U))]) = oQ bs ++ [own 1 a' (bg U) c' (iv (dB U))]:=by
   unfold oQ bB;simp [qz]
  rw [e1,e2];have h:=St.snoc (h.pick 6 [2,5,0,1,3,4]);exact h.pick 6 [1,0,5]
end
section
instance:qk bK:={ n:=3,rd:=λh x vs=>∃ (a:aa3) (c:Nat),vs = [.int .i64 x.st,.int .i64 x.prod,.slice a x.tm.length c]/\bh h x.tm a x.tm.length,mono:=λs ⟨a,c,e,r⟩=>⟨a,c,e,r.mono s⟩,len:=λ⟨_,_,e,_⟩=>by rw [e]; rfl }
section
variable {w:aa4} {L:List az} {o:aa3} {c:Nat}
theorem QX {h:Hp} {xs:List bK} {l i:Nat} (r:bh h xs o l) (hi:i < l):∃ x ad a c,xs[i]? = some x/\o = some ad/\au h (ad.add (cE i 3)) [.int .i64 x.st,.int .i64 x.prod,.slice a x.tm.length c]/\bh h x.tm a x.tm.length:=by
 obtain ⟨x,ad,vs,z,O,G,a,R,rfl,u⟩:=r.get hi;exact ⟨x,ad,a,R,z,O,G,u⟩
end
def TO (es ow:List (List Int)):Nat->Nat->Nat->Bool
 | 0,v,x=>(ow.getD v []).contains (x:Int)
 | k + 1,v,x=>(ow.getD v []).contains (x:Int) || (En es v).any λm=>TO es ow k m x
theorem Eg {es ow:List (List Int)} {x:Nat}:∀ k v,TO es ow k v x = true->dN es ow v x
 | 0,v,h=>dN.iff.2 (.inl (aat.1 h))
 | k + 1,v,h=>by
  rw [TO,ZZ,aaf] at h
  rcases h with h | ⟨m,h1,h2⟩
  ·exact dN.iff.2 (.inl (aat.1 h))
  ·exact dN.iff.2 (.inr ⟨m,h1,Eg k m h2⟩)
def M3:List Int->Bool
 | []=>true
 | a :: l=>l.all (λb=>decide (a < b)) && M3 l
theorem Ge:∀ {l:List Int},M3 l = true->jH l
 | [],_=>.nil
 | a :: l,h=>by
  rw [M3,Zd,aaD] at h
  exact .cons (λb hb=>YR (h.1 b hb)) (Ge h.2)
def TP (es ow rs:List (List Int)) (K:Nat):Bool:=decide (rs.length = es.length) && decide (ow.length = es.length) && (List.range es.length).all λv=>M3 (rs.getD v []) && (rs.getD v []).all (λz=>decide (0<=z) && decide (z < 1024) && TO es ow K v z.toNat) && (ow.getD v []).all (λz=>(rs.getD v []).contains z) && (En es v).all λm=>(rs.getD m []).all λz=>(rs.getD v []).contains z
theorem M4 {es ow rs:List (List Int)} {K:Nat} (h:TP es ow rs K = true):rs = AM es ow:=by
 unfold TP at h;simp only [Zd,Y7,aaD,Zo,aat] at h;obtain ⟨⟨R,h2⟩,O⟩:=h
 have key:∀ v x,dN es ow v x->(x:Int)∈rs.getD v []:=λv x Z=>by
  refine dN.least (Q:=λv x=>(x:Int)∈rs.getD v []) (λv x u=>?_) (λv m x G u=>?_) Z
  ·by_cases hv:v < es.length
   ·exact (O v hv).1.2 _ u
   ·rw [YX,Zf ω] at u;simp at u
  ·by_cases hv:v < es.length
   ·exact (O v hv).2 m G _ u
   ·unfold En at G;rw [YX,Zf ω] at G;simp at G
 refine VZ R λv row W=>?_;have hv:v < es.length:=by rw [<- R]; exact (YT.1 W).1
 have e:rs.getD v [] = row:=by rw [YX,W]; rfl
 obtain ⟨⟨⟨U,V⟩,_⟩,_⟩:=O v hv;rw [e] at U V
 refine ⟨Ge U,λz=>⟨λY=>?_,?_⟩⟩
 ·obtain ⟨⟨q3,q4⟩,X⟩:=V z Y;exact ⟨z.toNat,ω,ω,Eg K v X⟩
 ·rintro ⟨x,rfl,_,u⟩;have:=key v x u;rwa [e] at this
def QY (g:af) (fs:List (List Int)) (b:js):bK:=⟨b.st,b.prod,cq g.T λx=>b.tr.any λt=>(fs.getD t.toNat []).contains (x:Int)⟩
open Classical in
theorem QZ (g:af) (fs:List (List Int)) (b:js):eZ g fs b = QY g fs b:=by
 unfold eZ QY;congr 1;refine qY λk _=>?_;rw [ZI,Y7,aaf];exact exists_congr λt=>and_congr_right λ_=>aat.symm
section
variable {g:af} {ss:List SQ}
def uT (g:af) (x:ai):Bool:=decide (1<=x.prod) && (decide (x.prod < g.prods.length) && (match g.prods[x.prod.toNat]? with | some p=>decide ((p.right.length:Int)<=x.dot) | none=>false))
theorem p_ {x:ai} (hf:kN g x):uT g x = true↔∃ (m:Nat) (p:aP),0 < m/\g.prods[m]? = some p/\x = ⟨(m:Int),(p.right.length:Int)⟩:=by
 obtain ⟨h0,O,p,hp,G⟩:=hf;unfold uT;rw [hp];simp only [Zd,Y7]
 constructor
 ·rintro ⟨a,b,c⟩;refine ⟨x.prod.toNat,p,ω,hp,?_⟩;cases x;simp at *;omega
 ·rintro ⟨m,z,R,u,rfl⟩;simp only [Za] at hp;rw [u] at hp; cases hp;have:=(YT.1 u).1;exact ⟨by show (1:Int)<=m; omega,by show (m:Int) < _; omega,σ⟩
theorem trace (hc:ak g) (hA:bw g ss) {m:Nat} {p:aP} (hp:g.prods[m]? = some p):∀ (d:Nat),d<=p.right.length->∀ (q:Nat) (r:SQ),ss[q]? = some r->pI g r.1.2 ⟨(m:Int),(d:Int)⟩ ->
  ∃ (i:Nat) (s:SQ),ss[i]? = some s/\pI g s.1.2 ⟨(m:Int),0⟩/\cK ss (i:Int) (p.right.take d) = (q:Int)
 | 0,_,q,r,hr,h=>⟨q,r,hr,by simpa using h,by rw [List.take_zero]; rfl⟩
 | d + 1,hd,q,r,hr,h=>by
  have hbase:(⟨(m:Int),((d + 1:Nat):Int)⟩ : ai)∈r.1.2:=by
   generalize hz:(⟨(m:Int),((d + 1:Nat):Int)⟩ : ai) = z at h
   cases h with
   | base h=>exact h
   | step _ _ _ _ =>
    have:=congrArg ai.dot hz
    simp at this
    omega
  have hq1:1<=q:=by
   refine aaV λe=>?_
   subst e
   have hK:=(fN hA hr).1
   have e:r.1.2 = [⟨0,0⟩]:=by
    have:(cN g 0).1[0]? = some [⟨0,0⟩]:=rfl
    rw [this] at hK
    exact (Option.some.inj hK).symm
   rw [e,Zl] at hbase
   have:=congrArg ai.dot hbase
   simp at this
   omega
  obtain ⟨i,s,k,e,hij,hs,he,hto⟩:=Jz hc hA hq1 (YT.1 hr).1
  obtain ⟨h1,h2,j,r',e1,_,hr',hk,_⟩:=fh hc hA hs he
  have ej:j = q:=by rw [e1] at hto; omega
  subst ej
  rw [hr] at hr'; cases hr'
  rw [hk] at hbase
  obtain ⟨y,hy1,hy2,hy3⟩:=de.1 hbase
  have ey:y = ⟨(m:Int),(d:Int)⟩:=by
   have a1:=congrArg ai.prod hy3
   have a2:=congrArg ai.dot hy3
   cases y
   simp at *
   omega
  subst ey
  obtain ⟨i0,s0,hi0,hc0,hw0⟩:=trace hc hA hp d ω i s hs hy1
  refine ⟨i0,s0,hi0,hc0,?_⟩
  have hlt:d < p.right.length:=ω
  have hsym:p.right[d]? = some e.sym:=by
   rw [kz (p:=p) (by show g.prods[(m:Int).toNat]? = _; rw [Za]; exact hp)] at hy2
   have hy2:p.right.getD (d:Int).toNat (-1) = e.sym:=hy2
   rw [Za,YX,YU hlt] at hy2
   rw [YU hlt]
   exact congrArg some hy2
  have hil:=(YT.1 hi0).1
  rw [bI hsym,uE (λi s j h=>iq hc hA h) _ _ _ (Zx _) ω,hw0,YZ ω,jT,Za,pR hA hs he,e1]
  rfl
theorem JY (hc:ak g) (hA:bw g ss) {q m:Nat} {r:SQ} {p:aP} (hr:ss[q]? = some r) (hm:0 < m) (hp:g.prods[m]? = some p):pI g r.1.2 ⟨(m:Int),(p.right.length:Int)⟩↔cq (bD g ss).length (dM g ss q m)≠[]:=by
 constructor
 ·intro h;obtain ⟨i,s,hs,a1,W⟩:=trace hc hA hp p.right.length (Zc _) q r hr h;rw [Zi] at W;have V:=Tv hc hA hs hp a1;rw [Zp (by omega:m≠0)] at V;obtain ⟨j,hj⟩:=aaE.1 V;obtain ⟨s',k,e,Z,he,R,_⟩:=qN hj;have G:=Hu (g:=g) Z he (by rw [R]; exact hc.left (YV hp));rw [R] at G;refine List.ne_nil_of_mem (df.2 ⟨_,rfl,(YT.1 G).1,(jV G).2 ⟨jt.2 ⟨hm,p,hp,rfl⟩,p,hp,W⟩⟩)
 ·intro h;obtain ⟨z,hz⟩:=aai _ h;obtain ⟨u,_,hu,hb⟩:=df.1 hz;have ht:(bD g ss)[u]? = some (bD g ss)[u]:=YU hu;obtain ⟨Y,p',O,W⟩:=(jV ht).1 hb;rw [hp] at O; cases O;obtain ⟨_,p2,U,V⟩:=jt.1 Y;rw [hp] at U; cases U;obtain ⟨i0,q0,e0,a0,X⟩:=D6 hc hA ht hp V;obtain ⟨j,r',e1,e2,e3⟩:=qO hc hA hp p.right.length 0 ω i0 q0 a0 (by simpa using X);rw [List.drop_zero,<- e0,W] at e1;have:j = q:=ω
  subst this;rw [hr] at e2; cases e2;exact e3
theorem Gf {q m:Nat} {b:js} (h:b∈uH g ss q m):b = ⟨(q:Int),(m:Int),cq (bD g ss).length (dM g ss q m)⟩/\cq (bD g ss).length (dM g ss q m)≠[]:=by
 unfold uH at h
 split at h
 ·simp at h
 ·rename_i hn;rw [Zl] at h;exact ⟨h,hn⟩
theorem qb {q j:Nat} {b:js}:b∈dH g ss q j↔∃ m,m < j/\cq (bD g ss).length (dM g ss q m)≠[]/\b = ⟨(q:Int),(m:Int),cq (bD g ss).length (dM g ss q m)⟩:=by
 unfold dH;rw [aaa]
 constructor
 ·rintro ⟨m,z,h⟩;obtain ⟨G,u⟩:=Gf h;exact ⟨m,Zo.1 z,u,G⟩
 ·rintro ⟨m,z,u,rfl⟩;refine ⟨m,Zo.2 z,?_⟩;unfold uH;rw [YZ u]; simp
theorem xO (q:Nat):∀ j,jH ((dH g ss q j).map (·.prod))
 | 0=>by simp [dH,jH]
 | j + 1=>by
  rw [xC,Zg]
  unfold jH
  rw [aaZ]
  refine ⟨xO q j,?_,λa ha b hb=>?_⟩
  ·unfold uH
   split <;> simp
  ·obtain ⟨x,hx,rfl⟩:=Zh.1 ha
   obtain ⟨y,hy,rfl⟩:=Zh.1 hb
   obtain ⟨m,hm,_,rfl⟩:=qb.1 hx
   obtain ⟨rfl,_⟩:=Gf hy
   show (m:Int) < j
   omega
theorem Q0 (hc:ak g) (hA:bw g ss) {q:Nat} {r:SQ} (hr:ss[q]? = some r):((cls g r.1.2).filter (uT g)).map (·.prod) = (dH g ss q g.prods.length).map (·.prod):=by
 obtain ⟨_,_,_,a3,_,_⟩:=hc.b9;have hf:=(dE (g:=g) ω q).fit _ (YV (fN hA hr).1);have G:∀ x,x∈cls g r.1.2->kN g x:=λx X=>(jn.1 X).fit hf
 refine zb ?_ (xO q _) λz=>?_
 ·unfold jH;rw [ZO];have hS:jb (cls g r.1.2):=yT;have h1:((cls g r.1.2).filter (uT g)).Pairwise λx y=>x.lt y:=List.Pairwise.filter _ hS;refine h1.imp_of_mem λ{x y} X hy V=>?_;obtain ⟨O,R⟩:=ZA.1 X;obtain ⟨a1,Z⟩:=ZA.1 hy;obtain ⟨m,p,_,hp,rfl⟩:=(p_ (G x O)).1 R;obtain ⟨m',p',_,U,rfl⟩:=(p_ (G y a1)).1 Z;unfold ai.lt at V
  show (m:Int) < m'
  rcases V with h | ⟨h,h2⟩
  ·exact h
  ·have e:m = m':=by simp at h; omega
   subst e;rw [hp] at U; cases U;simp at h2
 ·rw [Zh,Zh]
  constructor
  ·rintro ⟨x,X,rfl⟩;obtain ⟨O,R⟩:=ZA.1 X;obtain ⟨m,p,hm,hp,rfl⟩:=(p_ (G x O)).1 R;exact ⟨_,qb.2 ⟨m,(YT.1 hp).1,(JY hc hA hr hm hp).1 (jn.1 O),rfl⟩,rfl⟩
  ·rintro ⟨b,hb,rfl⟩;obtain ⟨m,hm,hn,rfl⟩:=qb.1 hb;obtain ⟨p,hp⟩ : ∃ p,g.prods[m]? = some p:=⟨_,YU hm⟩;obtain ⟨z,hz⟩:=aai _ hn;obtain ⟨u,_,hu,hb⟩:=df.1 hz;have ht:(bD g ss)[u]? = some (bD g ss)[u]:=YU hu;obtain ⟨a0,_⟩:=(jV ht).1 hb;have Y:=(jt.1 a0).1;have W:=jn.2 ((JY hc hA hr Y hp).2 hn);exact ⟨_,ZA.2 ⟨W,(p_ (G _ W)).2 ⟨m,p,Y,hp,rfl⟩⟩,rfl⟩
end
end
section
variable {w:aa4} {L:List az} {g:af} {x:GA} {ss:List SQ}
theorem TQ {s:Int} (hg:gR (hp w) g x) (hb:jd g):ρ tV [.agg ⟨x.cells⟩,.int .i64 s] w λv w'=>v = .bool (decide ((g.T:Int)<=s) && decide (s < (g.T:Int) + g.N))/\Gr w w':=by
 have u:g.T = x.tl:=hg.t.1;refine qw (cG hg λU R gw hg B=>?_)
 refine ⟨_,_,_,B.c0 (sub.refl _),ae (λz=>?_) λz=>?_⟩
 ·refine ⟨_,_,_,_,_,_,_,_,_,_,_,_,_,B.row (sub.refl _),(iX hg hb).mono ?_⟩;rintro _ O ⟨rfl,G⟩;refine ⟨_,rfl,?_,gw.trans G⟩;rw [u,z,aaz]
 ·refine ⟨?_,gw⟩;rw [u,z,Bool.false_and]
end
theorem Gg {h:Hp} {a:Addr} {vs:List Value} (r:au h a vs) (n:Nat):au h (a.add n) (vs.drop n):=λj v hv=>by
 rw [Zv] at hv
 rw [add_add]
 exact r _ v hv
inductive Ff (g:af) (ss:List SQ):Nat->Nat->Prop
 | now (j x:Nat):x < g.T->(fy ss j (x:Int)).isSome->Ff g ss j x
 | via (j k x:Nat) (s:Int):(g.T:Int)<=s->BZ g s->fy ss j s = some (k:Int)->Ff g ss k x->Ff g ss j x
section
variable {g:af} {nn:List Bool} {ss:List SQ}
theorem V6 {n m:Nat} {p:aP} (hp:g.prods[n]? = some p):di g ⟨(n:Int),(m:Int)⟩ = p.right.getD m (-1):=by
 rw [kz (p:=p) (by show g.prods[(n:Int).toNat]? = _; rw [Za]; exact hp)];rfl
theorem gf {n m:Nat} {p:aP} {s:Int} (hp:g.prods[n]? = some p) (hs:p.right[m]? = some s):di g ⟨(n:Int),(m:Int)⟩ = s:=by
 rw [V6 hp,YX,hs]; rfl
theorem Q1 (hc:ak g) {s:Int} (h:BZ g s):(g.T:Int)<=s/\s < g.T + g.N:=by
 cases h with
 | mk p hp _=>exact (Tz (.inr hc)).1 p hp |>.1
theorem zq (hn:j6 g nn) {s:Int} (h:(g.T:Int)<=s):vV g nn s = true↔BZ g s:=by
 unfold vV;rw [Zp h,aaz,hn.2,show ((g.T + (s.toNat - g.T):Nat):Int) = s by omega]
theorem JZ (hc:ak g) (hn:j6 g nn) {row:List Int}:B3 g nn row = true↔E9 g row:=by
 unfold B3 E9;rw [aaD];refine forall_congr' λs=>forall_congr' λ_=>⟨λh=>(zq hn (HE h)).1 h,λh=>(zq hn (Q1 hc h).1).2 h⟩
theorem Ff.along (hc:ak g) (hA:bw g ss) {n x:Nat} {p:aP} (hp:g.prods[n]? = some p):∀ (d m j:Nat) (q:SQ),ss[j]? = some q->pI g q.1.2 ⟨(n:Int),(m:Int)⟩->m + d<=p.right.length->(∀ y∈(p.right.drop m).take d,BZ g y) ->
  (∀ (k:Nat) (r:SQ),ss[k]? = some r->pI g r.1.2 ⟨(n:Int),((m + d:Nat):Int)⟩->Ff g ss k x)->Ff g ss j x
 | 0,m,j,q,hq,hy,_,_,h=>h j q hq hy
 | d + 1,m,j,q,hq,hy,hm,hn,h=>by
  have hlt:m < p.right.length:=ω
  have hgs:p.right[m]? = some p.right[m]:=YU hlt
  rw [Zy hlt,List.take_succ_cons] at hn
  have hnu:=hn _ List.mem_cons_self
  have hge:=Q1 hc hnu
  obtain ⟨k,r,h1,h2,h3⟩:=vl hc hA hq hy (gf hp hgs) ω
  refine .via j k x _ hge.1 hnu h1 (Ff.along hc hA hp d (m + 1) k r h2 (.base (by simpa using h3)) ω (λy hy=>hn y (aaH _ hy)) ?_)
  rw [show m + 1 + d = m + (d + 1) by omega]
  exact h
theorem Ff.V7 (hc:ak g) (hA:bw g ss) {s:Int} {x:Nat} (h:OP g s x):∀ (n m j:Nat) (p:aP) (q:SQ),g.prods[n]? = some p->p.right[m]? = some s->ss[j]? = some q->pI g q.1.2 ⟨(n:Int),(m:Int)⟩->Ff g ss j x:=by
 induction h with
 | tm t ht =>
  intro n m j p q hp z O R;obtain ⟨k,r,W,_⟩:=vl hc hA O R (gf hp z) (Zx _);exact .now j t ht (by rw [W]; rfl)
 | pr p' i s t hp' hs' hn hf ih =>
  intro n m j p q hp z O R;obtain ⟨U,u⟩:=Zr hp';have X:=((Tz (.inr hc)).1 p' hp').1;have V:=(YT.1 hs').1;have h0:pI g q.1.2 ⟨(U : Int),((0:Nat):Int)⟩:=.step (y:=⟨(n:Int),(m:Int)⟩) R (by rw [gf hp z]; omega) u (by rw [gf hp z]);refine Ff.along hc hA u i 0 j q O h0 ω (by simpa using hn) λk r Y G=>?_;exact ih U i k p' r u hs' Y (by simpa using G)
theorem Ff.V8 (hc:ak g) (hA:bw g ss) {n m j x:Nat} {p:aP} {q:SQ} (hp:g.prods[n]? = some p) (hq:ss[j]? = some q) (hy:pI g q.1.2 ⟨(n:Int),(m:Int)⟩) (h:sW g (p.right.drop m) x):Ff g ss j x:=by
 obtain ⟨i,s,u,R,U⟩:=h;rw [Zv] at u;have G:=(YT.1 u).1;exact Ff.along hc hA hp i m j q hq hy ω R λk r O z=>Ff.V7 hc hA U n (m + i) k p r hp u O z
def rest (g:af) (y:ai):List Int:=match g.prods[y.prod.toNat]? with
 | some p=>p.right.drop y.dot.toNat
 | none=>[]
theorem zr {y:ai} (h:0<=di g y):∃ p,g.prods[y.prod.toNat]? = some p/\p.right[y.dot.toNat]? = some (di g y)/\rest g y = di g y :: p.right.drop (y.dot.toNat + 1):=by
 unfold di at h ⊢;unfold rest;cases hp:g.prods[y.prod.toNat]? with
 | none=>rw [hp] at h; simp at h
 | some p =>
  rw [hp] at h;simp only at h ⊢
  have u:y.dot.toNat < p.right.length:=by
   refine Nat.lt_of_not_le λz=>?_;rw [YX,Zf z] at h;simp at h
  rw [YX,YU u];exact ⟨p,rfl,YU u,Zy u⟩
theorem sW.head {s:Int} {l:List Int} {x:Nat} (h:OP g s x):sW g (s :: l) x:=⟨0,s,rfl,σ,h⟩
theorem sW.skip {s:Int} {l:List Int} {x:Nat} (h:BZ g s) (hl:sW g l x):sW g (s :: l) x:=by
 obtain ⟨i,y,R,G,O⟩:=hl;refine ⟨i + 1,y,R,λz u=>?_,O⟩;rw [List.take_succ_cons] at u
 rcases Ze.1 u with rfl | u
 ·exact h
 ·exact G z u
theorem sW.left {p:aP} {x:Nat} (hp:p∈g.prods) (h:sW g p.right x):OP g p.left x:=by
 obtain ⟨i,s,G,u,z⟩:=h;exact .pr p i s x hp G u z
theorem M5 {I:List ai} {y:ai} (h:pI g I y):∀ x,sW g (rest g y) x->∃ z∈I,sW g (rest g z) x:=by
 induction h with
 | base hx=>exact λx u=>⟨_,hx,u⟩
 | @step y i p h1 h2 h3 h4 ih =>
  intro x u;obtain ⟨O,_,_,G⟩:=zr h2;refine ih x ?_;rw [G,<- h4]
  have e:rest g ⟨(i:Int),0⟩ = p.right:=by
   unfold rest;rw [show g.prods[((⟨(i:Int),0⟩ : ai).prod).toNat]? = some p by show g.prods[(i:Int).toNat]? = _; rw [Za]; exact h3];rfl
  rw [e] at u;exact .head (u.left (YV h3))
theorem Ff.item (hc:ak g) (hA:bw g ss) {j x:Nat} (h:Ff g ss j x):∀ q,ss[j]? = some q->∃ z∈q.1.2,sW g (rest g z) x:=by
 induction h with
 | now j x hx U =>
  intro q G;obtain ⟨hT,hN,_⟩:=hc.b9;rw [mz hA G ω] at U;have U:=YR U;obtain ⟨z,W⟩:=aai _ U;obtain ⟨y,V,u,_⟩:=de.1 W;refine M5 V x ?_;obtain ⟨_,_,_,Y⟩:=zr (y:=y) (by rw [u]; omega);rw [Y,u];exact .head (.tm x hx)
 | via j k x s U hn hk hr ih =>
  intro q G;obtain ⟨q',i,e,R,he,Z,a4⟩:=qN hk;rw [G] at R; cases R;obtain ⟨_,_,k',r,X,_,a1,a0,_⟩:=fh hc hA G he;rw [a4] at X;have a3:k = k':=ω
  subst a3;obtain ⟨z,W,hf⟩:=ih r a1;rw [a0,Z] at W;obtain ⟨y,V,u,rfl⟩:=de.1 W;refine M5 V x ?_;obtain ⟨p,hp,_,Y⟩:=zr (y:=y) (by rw [u]; omega);rw [Y,u];refine .skip hn ?_;unfold rest at hf;rw [show g.prods[((⟨y.prod,y.dot + 1⟩ : ai).prod).toNat]? = some p from hp] at hf;obtain ⟨hT,hN,hP,a5,_,_⟩:=hc.b9;have hK:=(fN hA G).1;have O:=V.fit ((dE (g:=g) ω j).fit _ (YV hK));have hd:(y.dot + 1).toNat = y.dot.toNat + 1:=by have:=O.2.1; omega
  rw [<- hd];exact hf
end
end Go.Proofs.YtndaepmjkbmjmaaGreatDoor
