/- Texts of this claim, one behind the other. -/
import Derived.Test.YtndaepmjkbmjmaaGreatDoorG6
import Derived.Test.YtndaepmjkbmjmaaGreatDoorG5
import Derived.Test.YtndaepmjkbmjmaaGreatDoorG2
import Derived.Test.YtndaepmjkbmjmaaGreatDoorCards
import Derived.Test.YtndaepmjkbmjmaaGreatDoorTie
import Derived.WalkKit
import Derived.ProofKit
import Derived.OpenShut
import Derived.Carry
import Derived.OpenVars
import Derived.Deep.DeepHandedRow
import Derived.Lib.LaidTab
set_option linter.unusedVariables false
set_option linter.unusedSectionVars false
set_option maxRecDepth 100000
set_option maxHeartbeats 16000000
namespace Go.V
end Go.V
namespace Go.Proofs.YtndaepmjkbmjmaaGreatDoor
end Go.Proofs.YtndaepmjkbmjmaaGreatDoor
open Go.V Go.Proofs.YtndaepmjkbmjmaaGreatDoor
namespace Go.V
theorem wy:∀ (N:List ay) {M:List ay} {h:Hp},aC (N ++ M) h->∃ h0,aC M h0/\sub h0 h/\aC (N ++ [has h0]) h
 | [],M,h,hs=>⟨h,hs,sub.refl _,bC (sub.refl _)⟩
 | A :: N,M,h,⟨h1,h2,d,s1,s2,ha,hl⟩=>by
  obtain ⟨h0,k1,k2,k3⟩:=wy N hl
  exact ⟨h0,k1,sub.trans k2 s2,h1,h2,d,s1,s2,ha,k3⟩
theorem St.R4 {w:YC} (N:List ay) {M:List ay} (h:St w (N ++ M)):∃ h0,aC M h0/\St w (N ++ [V.has h0]):=by
 obtain ⟨h0,h1,_,h3⟩:=wy N h
 exact ⟨h0,h1,h3⟩
def M3 (g:af) (ss:List SQ) (B:Nat->Nat->Nat) (n:Nat):List ay:=(DK g ss n).map λp=>aK (B p.1 p.2) (bv (List.replicate g.T false))
structure R5 (H:Hp) (g:af) (ss:List SQ) (B:Nat->Nat->Nat) (vI vT:List Value) (n:Nat):Prop where
 lI:vI.length = n
 lT:vT.length = n
 i:∀ q,q < n->∃ a c,vI[q]? = some (.slice a (bM g ss q).length c)/\a_ H (bM g ss q) a (bM g ss q).length
 t:∀ q,q < n->∃ a c,vT[q]? = some (.slice a (bM g ss q).length c)/\∀ i,i < (bM g ss q).length->∃ ad2,a = some ad2/\av H (ad2.add i) [.slice (some (aM (B q i))) g.T g.T]
def SK (B:Nat->Nat->Nat) (n:Nat) (bs:List Nat):Nat->Nat->Nat:=λq i=>if q = n then bs.getD i 0 else B q i
section
variable {g:af} {ss:List SQ} {B:Nat->Nat->Nat} {vI vT:List Value} {n:Nat} {H H' : Hp} {bs:List Nat}
theorem R5.mono (s:sub H H') (h:R5 H g ss B vI vT n):R5 H' g ss B vI vT n:=by
 refine ⟨h.lI,h.lT,λq hq=>?_,λq hq=>?_⟩
 ·obtain ⟨a,c,e,r⟩:=h.i q hq
  exact ⟨a,c,e,r.mono s⟩
 ·obtain ⟨a,c,e,t⟩:=h.t q hq
  refine ⟨a,c,e,λi hi=>?_⟩
  obtain ⟨ad2,e2,r2⟩:=t i hi
  exact ⟨ad2,e2,r2.mono s⟩
theorem R5.zero:R5 H g ss B [] [] 0:=⟨rfl,rfl,λq hq=>by omega,λq hq=>by omega⟩
theorem R5.snoc (h:R5 H g ss B vI vT n) {a a2:YB} {c c2:Nat} (hi:a_ H (bM g ss n) a (bM g ss n).length) (ht:∀ i,i < (bM g ss n).length->∃ ad2,a2 = some ad2/\av H (ad2.add i) [.slice (some (aM (bs.getD i 0))) g.T g.T]) :
  R5 H g ss (SK B n bs) (vI ++ [.slice a (bM g ss n).length c]) (vT ++ [.slice a2 (bM g ss n).length c2]) (n + 1):=by
 refine ⟨by simp [h.lI],by simp [h.lT],λq hq=>?_,λq hq=>?_⟩
 ·by_cases e:q = n
  ·subst e
   exact ⟨a,c,by rw [WK (by rw [h.lI]; omega),h.lI]; simp,hi⟩
  ·obtain ⟨a',c',e1,r⟩:=h.i q (by omega)
   exact ⟨a',c',by rw [WI (by rw [h.lI]; omega)]; exact e1,r⟩
 ·by_cases e:q = n
  ·subst e
   refine ⟨a2,c2,by rw [WK (by rw [h.lT]; omega),h.lT]; simp,λi hi=>?_⟩
   have e3:SK B q bs q i = bs.getD i 0:=WJ rfl
   rw [e3]; exact ht i hi
  ·obtain ⟨a',c',e1,t⟩:=h.t q (by omega)
   refine ⟨a',c',by rw [WI (by rw [h.lT]; omega)]; exact e1,λi hi=>?_⟩
   have e3:SK B n bs q i = B q i:=WB e
   rw [e3]; exact t i hi
theorem PX (hl:bs.length = (bM g ss n).length):M3 g ss B n ++ bs.map (λb=>aK b (bv (List.replicate g.T false))) = M3 g ss (SK B n bs) (n + 1):=by
 unfold M3
 rw [EP,WZ]
 congr 1
 ·refine XJ λp hpm=>?_
  have:=(iY.1 hpm).1
  rw [show SK B n bs p.1 p.2 = B p.1 p.2 from WB (by omega)]
 ·unfold MN
  rw [X8]
  refine List.ext_getElem (by simp [hl]) λi h1 h2=>?_
  simp only [WE] at h1
  simp only [List.getElem_map,List.getElem_range,Function.comp]
  rw [show SK B n bs n i = bs.getD i 0 from WJ rfl,Ww,Wv h1]; rfl
theorem row_one {h:Hp} {a:Addr} {vs:List Value} (r:av h a vs) {i:Nat} {v:Value} (hv:vs[i]? = some v):av h (a.add i) [v]:=by
 obtain ⟨hi,e⟩:=Wt.1 hv
 have h1:=EE r i
 rw [W_ hi,e] at h1
 exact av.take (us:=[v]) h1
theorem z8.first {F:dY} {l:List Bool} (hl:∀ t,aO l t = true↔t = 0) (hll:l.length = g.T) {b:Bool} (hP:Gp g ss (λ_ _=>List.replicate g.T false) 0 ⟨0,0⟩ l (bM g ss 0).length F b):z8 g ss F:=by
 have h0:∀ t,aO (List.replicate g.T false) t = false:=λt=>by
  unfold aO
  rw [Ww,XM]
  split <;> rfl
 rcases hP with ⟨i,_,e1,rfl,_⟩ | ⟨e1,rfl,_⟩
 ·have hup:∀ t,aO (vZ g.T (List.replicate g.T false) l) t = true↔t = 0:=λt=>by
   rw [zf (by simp) hll,h0,hl]; simp
  refine ⟨λq j _=>?_,λq j y t hy ht=>?_,λj hj=>?_⟩
  ·by_cases e:q = 0/\j = i
   ·rw [e.1,e.2,gC,iV]
   ·rw [nt e]; simp
  ·by_cases e:q = 0/\j = i
   ·obtain ⟨rfl,rfl⟩:=e
    rw [gC] at ht
    rw [e1] at hy; cases hy
    rw [(hup t).1 ht]
    exact .st
   ·rw [nt e,h0] at ht; cases ht
  ·have:=yj e1 hj
   subst this
   rw [gC]; exact (hup 0).2 rfl
 ·refine ⟨λq j _=>by simp,λq j y t hy ht=>?_,λj hj=>absurd hj (e1 j (Bc hj).2)⟩
  rw [h0] at ht; cases ht
end
end Go.V
namespace Go.Proofs.YtndaepmjkbmjmaaGreatDoor
variable {w:YC} {g:af} {ss:List SQ} {x:GA}
theorem R6 {L A B:List ay} (h:St w (aG A :: aG B :: L)):St w (aG (A ++ B) :: L):=by
 have h2:=(St.flat.1 h).perm (Xo:(A ++ aG B :: L).Perm (aG B :: (A ++ L)))
 have h3:=St.flat.1 h2
 exact St.flat.2 (h3.perm (by rw [<- WG]; exact List.perm_append_comm.append_right _))
theorem Gs {h:Hp} {o:YB} {vs:List Value} {i:Nat} {v:Value} (r:eJ o vs h) (hv:vs[i]? = some v):∃ ad,o = some ad/\av h (ad.add i) [v]:=by
 rcases r with e | ⟨ad,e,hc⟩
 ·rw [e] at hv; simp at hv
 ·exact ⟨ad,e,row_one hc hv⟩
theorem Ub {oA:YB} {cA:Nat} {ask int:Int} (hc:ak g) (hA:bn g ss) (hb:ik g) (hg:gR (hp w) g x) (ha:xE (hp w) ss oA):aA Tryz.prog vc [.agg ⟨x.cells⟩,.agg #[.slice oA ss.length cA,.int .i64 ask,.int .i64 int]] w λv w'=>∃ (d:PR) (ns:List Bool) (F:dY) (H:Hp),v = .pointer (some (aM d.kh))/\jb g ns/\SI H g ns ss d/\sub (hp w) H/\z8 g ss F/\(∀ q i,(q,i)∈fJ g ss->PQ g ss F q i)/\St w' [aG (qp g ss d F),has H]:=by
 obtain ⟨sT,sN,sP,sP2,hT1,_⟩:=hc.ct
 obtain ⟨iG,bT,bN,pN,pT,bP⟩:=Rx (.inr hc:gI g)
 have hkl:=hA.yX hc
 have h256:=hA.dn.2.1
 have hpos:=hA.pos
 have hTl:g.T = x.tl:=hg.t.1
 have hcl:∀ q,(bM g ss q).length<=29197:=λq=>by
  unfold bM
  split
  ·rename_i r hr
   have h1:=xB g r.1.2
   have h2:=(hkl r (Wu hr)).1
   omega
  ·simp
 refine rJ (cN hg λk1 w1 gw hg1 Bx=>ah (St.all w1) λk2 w2 h2=>λw3 hd=>?_)
 have rA2:av (hp w2) (aM k2) [.slice oA ss.length cA,.int .i64 ask,.int .i64 int]:=ai 0 h2.l
 have g13:Gr w1 w3:=h2.aZ.trans (Gr.drawn hd)
 have rA:=rA2.mono (Gr.drawn hd)
 have hg3:=hg1.mono g13
 have ha3:=ha.mono (gw.trans g13)
 clear h2 hd
 refine ⟨λu=>Gr w3 u,Gr.refl _,_,_,_,_,_,_,_,_,_,_,_,_,_,λu s=>Bx.row (g13.trans s),_,_,_,_,_,λu s=>rA.at s rfl,_,_,_,_,_,_,_,_,_,_,_,_,_,λu s=>Bx.row (g13.trans s),(Ry hg3 hb (.inr hc)).mono ?_⟩
 rintro _ w7 ⟨bp,k4,o,c,ns,ps,vs,rfl,hns,al,hpsl,ht⟩
 have g37:Gr w3 w7:=aU 4 ht.l
 have hlv:=al.lv
 have tb:JX (hp w7) g x bp k4 o c ns ps vs:=Rz (by omega) pN ht.l
 clear ht
 refine ⟨_,rfl,g37,ah (St.all w7) λkh w8 h8=>⟨g37.trans h8.aZ,?_⟩⟩
 refine ⟨λz w'=>∃ (n:Nat) (B:Nat->Nat->Nat) (vI vT:List Value) (oI oT:YB) (cI cT:Nat) (H:Hp),z = n/\n<=ss.length/\R5 H g ss B vI vT n/\sub (hp w7) H/\St w' [aK kh (x.cells ++ [.slice oA ss.length cA,.int .i64 ask,.int .i64 int,.slice oI n cI,.slice oT n cT,.pointer (some ⟨bp,0,none⟩)]),own 1 oI n cI vI,own 1 oT n cT vT,aG (M3 g ss B n),has H],λz _=>ss.length - z.toNat,⟨0,λ_ _=>0,[],[],none,none,0,0,hp w7,rfl,WC _,.zero,sub.refl _,by
  rw [show M3 g ss (λ_ _=>0) 0 = [] by simp [M3,DK]]
  exact (az 1 (az 1 ((St.flat (M:=[])).2 h8))).pick 5 [3,0,1,2,4]⟩,?_⟩
 clear h8
 rintro _ _ w9 ⟨n,B,vI,vT,oI,oT,cI,cT,H,rfl,hn,hM,hH,h⟩
 have g79:Gr w7 w9:=sub.trans hH (aU 4 h.l)
 have g39:Gr w3 w9:=g37.trans g79
 refine ⟨_,_,_,rA.cell0 g39,ae (λh1=>?_) λh1=>?_⟩
 ·have h1:n < ss.length:=by have:=Wr h1; omega
  obtain ⟨r,hr⟩ : ∃ r,ss[n]? = some r:=⟨_,Wv h1⟩
  have hKf:xz g r.1.2:=(di (g:=g) (by omega) n).fit _ (Wu (fl hA hr).1)
  have hrl:=(hkl r (Wu hr)).1
  have hN:=hcl n
  have hCe:=LF (g:=g) hr
  obtain ⟨ad,eA,rs,rkk,_⟩:=ha3 n r hr
  intro w10 hd10
  have h10:=h.drawn hd10
  have g310:=g39.trans (Gr.drawn hd10)
  refine ⟨λu=>Gr w10 u,Gr.refl _,_,_,_,_,_,_,_,_,_,_,_,_,_,λu s=>Bx.row ((g13.trans g310).trans s),_,_,_,λu s=>rA.cell0 (g310.trans s),aq eA h1 ⟨_,_,_,λu s=>rs.cell0 (g310.trans s),(Em (hg3.mono g310) hb hc (rkk.mono g310) hKf (by omega)).mono ?_⟩⟩
  rintro _ w14 ⟨oL,cL,rfl,hclo⟩
  have g1014:Gr w10 w14:=hclo.aZ
  have h14:=hclo.qk h10.l
  obtain ⟨H1,hl1,h15⟩:=St.R4 [aK kh _,own 1 oI n cI vI,own 1 oT n cT vT,aG (M3 g ss B n)] (M:=[own 2 oL _ cL _,has H]) (h14.pick 6 [1,2,3,4,0,5])
  simp only [List.cons_append,Xd] at h15
  have rL:a_ H1 (cls g r.1.2) oL (cls g r.1.2).length:=AX rfl (fB 0 hl1)
  have gH1:sub H H1:=aU 1 hl1
  clear hl1 h14 hclo h10
  rw [<- hCe] at rL ⊢
  obtain ⟨N,eN⟩ : ∃ N,N = (bM g ss n).length:=⟨_,rfl⟩
  rw [<- eN] at rL hN ⊢
  refine ⟨_,_,_,rfl,g1014,λo k c z w'=>∃ (bs:List Nat),k = bs.length/\z = (bs.length:Int)/\bs.length<=N/\St w' (own 1 o k c (bs.map λb=>.slice (some (aM b)) g.T g.T) :: aG (bs.map λb=>aK b (bv (List.replicate g.T false))) :: [aK kh (x.cells ++ [.slice oA ss.length cA,.int .i64 ask,.int .i64 int,.slice oI n cI,.slice oT n cT,.pointer (some ⟨bp,0,none⟩)]),own 1 oI n cI vI,own 1 oT n cT vT,aG (M3 g ss B n),has H1]),λ_ _ _ z _=>N - z.toNat,⟨[],rfl,rfl,WC _,by simp only [List.map_nil]; exact az 1 ((St.flat (M:=[])).2 h15)⟩,?_⟩
  clear h15
  rintro _ o19 _ c19 _ w15 ⟨bs,rfl,rfl,hbs,h⟩
  have g715:Gr w7 w15:=sub.trans hH (sub.trans gH1 (aU 6 h.l))
  refine ae (λh2=>?_) λh2=>?_
  ·have h2:bs.length < N:=by have:=Wr h2; omega
   refine ⟨_,_,_,Bx.c0 ((g13.trans g37).trans g715),?_⟩
   rw [<- hTl]
   refine ⟨⟨by omega,rfl,by omega⟩,?_⟩
   rw [WQ,de,CC]
   refine ah h λk42 w16 h=>ah (h.pick 8 [1,0,2,3,4,5,6,7]) λk43 w17 h=>?_
   refine (aN (us:=bs.map λb=>.slice (some (aM b)) g.T g.T) aQ (rfl:aj Ty _ = .slice _) (rfl:aj Ty _ = .slice _) rfl rfl rfl h rfl (by simp [aV]) (by show (bs.length + 1) * 24<=_; omega) (by omega)).mono ?_
   rintro _ w18 ⟨o21,c21,rfl,h⟩
   have h:=St.snoc (h.pick 9 [2,3,0,4,5,6,7,8])
   refine ⟨_,_,_,rfl,⟨by omega,by omega⟩,⟨bs ++ [k42],by simp,by simp,by simp; omega,?_⟩,bx h2⟩
   rw [WZ,WZ]
   exact h.pick 7 [1,0,2,3,4,5,6]
  have h2:bs.length = N:=by have:=Ws h2; omega
  refine ⟨_,_,_,(ai 2 h.l:av (hp w15) (aM kh) _).cell (sub.refl _) (j:=8) rfl,ah h λk48 w19 h=>?_⟩
  refine (aN (us:=vI) aQ (rfl:aj Ty _ = .slice _) (rfl:aj Ty _ = .slice _) rfl rfl rfl (h.pick 8 [0,4,1,2,3,5,6,7]) rfl (by simp [aV]) (by show (n + 1) * 24<=_; omega) (by omega)).mono ?_
  rintro _ w20 ⟨o23,c23,rfl,h⟩
  refine ⟨_,_,_,rfl,?_⟩
  rw [aL]
  refine bj (h.pick 8 [4,0,1,2,3,5,6,7]) (by simp [GA.cells]) λw21 h=>?_
  have h:St w21 [aK kh (x.cells ++ [.slice oA ss.length cA,.int .i64 ask,.int .i64 int,.slice o23 (n + 1) c23,.slice oT n cT,.pointer (some ⟨bp,0,none⟩)]),own 1 o23 (n + 1) c23 (vI ++ [.slice oL N cL]),aK k48 [.slice oL N cL],own 1 o19 bs.length c19 (bs.map λb=>.slice (some (aM b)) g.T g.T),aG (bs.map λb=>aK b (bv (List.replicate g.T false))),own 1 oT n cT vT,aG (M3 g ss B n),has H1]:=h
  rw [h2] at h
  rw [h2]
  refine ⟨_,_,_,(ai 0 h.l:av (hp w21) (aM kh) _).cell (sub.refl _) (j:=9) rfl,ah h λk53 w22 h=>?_⟩
  refine (aN (us:=vT) aQ (rfl:aj Ty _ = .slice _) (rfl:aj Ty _ = .slice _) rfl rfl rfl (h.pick 9 [0,6,1,2,3,4,5,7,8]) rfl (by simp [aV]) (by show (n + 1) * 24<=_; omega) (by omega)).mono ?_
  rintro _ w23 ⟨o25,c25,rfl,h⟩
  refine ⟨_,_,_,rfl,?_⟩
  rw [aL]
  refine bj (h.pick 9 [2,0,1,3,4,5,6,7,8]) (by simp [GA.cells]) λw24 h=>?_
  have h:St w24 [aK kh (x.cells ++ [.slice oA ss.length cA,.int .i64 ask,.int .i64 int,.slice o23 (n + 1) c23,.slice o25 (n + 1) c25,.pointer (some ⟨bp,0,none⟩)]),own 1 o25 (n + 1) c25 (vT ++ [.slice o19 N c19]),aK k53 [.slice o19 N c19],own 1 o23 (n + 1) c23 (vI ++ [.slice oL N cL]),aK k48 [.slice oL N cL],own 1 o19 N c19 (bs.map λb=>.slice (some (aM b)) g.T g.T),aG (bs.map λb=>aK b (bv (List.replicate g.T false))),aG (M3 g ss B n),has H1]:=h
  have h:=R6 (h.pick 9 [7,6,0,3,1,5,8,2,4])
  have hbl:bs.length = (bM g ss n).length:=by rw [h2,eN]
  rw [PX hbl] at h
  obtain ⟨H2,hl2,h24⟩:=St.R4 [aK kh _,own 1 o23 (n + 1) c23 _,own 1 o25 (n + 1) c25 _,aG (M3 g ss (SK B n bs) (n + 1))] (M:=[own 1 o19 N c19 _,has H1]) (h.pick 8 [1,2,3,0,4,5])
  simp only [List.cons_append,Xd] at h24
  have r19:eJ o19 (bs.map λb=>Value.slice (some (aM b)) g.T g.T) H2:=fB 0 hl2
  have gH2:sub H1 H2:=aU 1 hl2
  refine ⟨⟨by omega,by omega⟩,⟨n + 1,SK B n bs,_,_,o23,o25,c23,c25,H2,by simp,h1,?_,sub.trans hH (sub.trans gH1 gH2),h24⟩,bx h1⟩
  rw [eN]
  rw [eN] at rL
  refine (hM.mono (sub.trans gH1 gH2)).snoc (rL.mono gH2) λi hi=>Gs r19 ?_
  rw [Wx,Ww,Wv (by omega)]; rfl
 have h1:n = ss.length:=by have:=Ws h1; omega
 subst h1
 refine ⟨_,_,_,Bx.c0 (g13.trans g39),?_⟩
 rw [<- hTl]
 refine ⟨⟨by omega,rfl,by omega⟩,?_⟩
 rw [WQ,de,CC]
 refine ah h λk58 w25 h=>mq rfl (by omega) (bj h (by rw [mM]; simp; omega) λw26 h=>?_)
 rw [AW] at h
 obtain ⟨l,el⟩ : ∃ l,l = (List.replicate g.T false).set 0 true:=⟨_,rfl⟩
 have hll:l.length = g.T:=by rw [el]; simp
 have hl0:∀ t,aO l t = true↔t = 0:=λt=>by
  rw [el,Fl (by simp; omega)]
  by_cases e:t = 0
  ·simp [e]
  ·rw [WB e]
   have:aO (List.replicate g.T false) t = false:=by
    unfold aO
    rw [Ww,XM]
    split <;> rfl
   simp [this,e]
 rw [<- el] at h
 obtain ⟨H2,hl2,h26⟩:=St.R4 [aG (M3 g ss B ss.length)] (M:=[aK k58 (bv l),aK kh _,own 1 oI ss.length cI vI,own 1 oT ss.length cT vT,has H]) (h.pick 6 [4,0,1,2,3,5])
 simp only [List.cons_append,Xd] at h26
 have rl:av H2 (aM k58) (bv l):=ai 0 hl2
 have rh:av H2 (aM kh) (x.cells ++ [.slice oA ss.length cA,.int .i64 ask,.int .i64 int,.slice oI ss.length cI,.slice oT ss.length cT,.pointer (some ⟨bp,0,none⟩)]):=ai 1 hl2
 have rI:eJ oI vI H2:=fB 2 hl2
 have rT:eJ oT vT H2:=fB 3 hl2
 have gH2:sub H H2:=aU 4 hl2
 have gA2:sub (hp w7) H2:=sub.trans hH gH2
 clear hl2 h
 obtain ⟨d,hd⟩ : ∃ d:PR,d = ⟨x,oA,cA,ask,int,oI,cI,oT,cT,bp,kh,B⟩:=⟨_,rfl⟩
 have hI:SI H2 g ns ss d:=by
  subst hd
  refine ⟨hg3.mono (sub.trans g37 gA2),rh,ha3.mono (sub.trans g37 gA2),λq hq=>?_,λq hq=>?_,⟨k4,o,c,ps,vs,tb.mono gA2,al,hpsl⟩⟩
  ·obtain ⟨a,c',e,r⟩:=hM.i q hq
   obtain ⟨ad,e2,r2⟩:=Gs rI e
   exact ⟨ad,a,c',e2,r2,r.mono gH2⟩
  ·obtain ⟨a,c',e,t⟩:=hM.t q hq
   obtain ⟨ad,e2,r2⟩:=Gs rT e
   refine ⟨ad,a,c',e2,r2,λi hi=>?_⟩
   obtain ⟨ad2,e3,r3⟩:=t i hi
   exact ⟨ad2,e3,r3.mono gH2⟩
 have hkh:d.kh = kh:=by rw [hd]
 have h26:St w26 [aG (qp g ss d λ_ _=>List.replicate g.T false),has H2]:=by subst hd; exact h26
 rw [<- hkh]
 have hgo:sub (hp w) H2:=sub.trans gw (sub.trans g13 (sub.trans g37 gA2))
 clear hd rh rI rT hM
 have hcl' : ∀ q,(bM g ss q).length<=4611686018427387904:=λq=>by have:=hcl q; omega
 refine (Gq (F:=λ_ _=>List.replicate g.T false) (q:=0) (y:=⟨0,0⟩) (l:=l) hI hpos (λ_ _=>by simp) hll sT (hcl' 0) h26 (λF' u H' g' _ hu=>kU hll (.inr ⟨_,rfl,rl.mono (sub.trans g' (aU 1 hu.l))⟩))).mono ?_
 rintro _ w27 ⟨b1,F1,rfl,hP,h27⟩
 have hV:=z8.first hl0 hll hP
 obtain ⟨D,eD⟩ : ∃ D,D = fJ g ss:=⟨_,rfl⟩
 refine ⟨_,rfl,λb w'=>∃ F:dY,(z8 g ss F/\(b = false->∀ q i,(q,i)∈fJ g ss->PQ g ss F q i))/\St w' [aG (qp g ss d F),has H2],λb w'=>if b = true then 1 + Sz (λ(F:dY) w=>z8 g ss F/\St w [aG (qp g ss d F),has H2]) (λF=>(fJ g ss).length * g.T - nr (fJ g ss) F) w' else 0,⟨F1,⟨hV,λh=>by cases h⟩,h27⟩,?_⟩
 clear h27 hV hP
 rintro _ b2 w28 ⟨F,⟨hV,hC⟩,h⟩
 refine ae (λh1=>?_) λh1=>?_
 rotate_left
 ·exact ⟨d,ns,F,H2,rfl,hns,hI,hgo,hV,hC h1,h⟩
 subst h1
 obtain ⟨F0,⟨hV0,h0⟩,hmin⟩:=Fv (P:=λ(F:dY) w=>z8 g ss F/\St w [aG (qp g ss d F),has H2]) (w:=w28) (f:=λF:dY=>(fJ g ss).length * g.T - nr (fJ g ss) F) ⟨F,hV,h⟩
 clear h hV hC
 refine ⟨λb z w'=>∃ (n:Nat) (F' : dY),z = n/\n<=ss.length/\z8 g ss F'/\lF (fJ g ss) F0 F' b/\(b = false->∀ q i,q < n->(q,i)∈fJ g ss->PQ g ss F0 q i)/\St w' [aG (qp g ss d F'),has H2],λ_ z _=>ss.length - z.toNat,⟨0,F0,rfl,WC _,hV0,.start,λ_ q i hq=>by omega,h0⟩,?_⟩
 clear h0
 rintro _ b3 _ w29 ⟨n,F',rfl,hn,hV',hG,hCn,h⟩
 have s29:sub H2 (hp w29):=aU 1 h.l
 refine ⟨_,_,_,hI.r.cell s29 (j:=8) rfl,ae (λh1=>?_) λh1=>?_⟩
 rotate_left
 ·have h1:n = ss.length:=by have:=Ws h1; omega
  subst h1
  refine ⟨⟨F',⟨hV',λhb q i hm=>?_⟩,h⟩,?_⟩
  ·rw [hG.no hb]
   exact hCn hb q i (iY.1 hm).1 hm
  ·cases b3 with
   | false=>simp; omega
   | true =>
    have h3:=hG.yes rfl
    have h4:=hV'.sum
    have h5:=B6 (P:=λ(F:dY) w=>z8 g ss F/\St w [aG (qp g ss d F),has H2]) (f:=λF:dY=>(fJ g ss).length * g.T - nr (fJ g ss) F) (w:=w29) ⟨hV',h⟩
    simp only [if_true]
    omega
 have h1:n < ss.length:=by have:=Wr h1; omega
 obtain ⟨adI,aI,cI2,eI,rI,rIt⟩:=hI.i n h1
 refine ⟨λb z w'=>∃ (i:Nat) (F' : dY),z = i/\i<=(bM g ss n).length/\z8 g ss F'/\lF (fJ g ss) F0 F' b/\(b = false->(∀ q i,q < n->(q,i)∈fJ g ss->PQ g ss F0 q i)/\∀ j,j < i->PQ g ss F0 n j)/\St w' [aG (qp g ss d F'),has H2],λ_ z _=>(bM g ss n).length - z.toNat,⟨0,F',rfl,WC _,hV',hG,λhb=>⟨hCn hb,λj hj=>by omega⟩,h⟩,?_⟩
 clear h hCn hG hV'
 rintro _ b4 _ w30 ⟨i,F2,rfl,hi,hV2,hG2,hC2,h⟩
 have s30:sub H2 (hp w30):=aU 1 h.l
 refine ⟨_,_,_,hI.r.cell s30 (j:=8) rfl,aw eI h1 ⟨_,_,_,rI.cell0 s30,ae (λh2=>?_) λh2=>?_⟩⟩
 rotate_left
 ·have h2:i = (bM g ss n).length:=by have:=Ws h2; omega
  refine ⟨⟨by omega,by omega⟩,⟨n + 1,F2,by simp,h1,hV2,hG2,λhb q j hq hm=>?_,h⟩,bx h1⟩
  by_cases e:q = n
  ·subst e
   exact (hC2 hb).2 j (by have:=(iY.1 hm).2; have:j < (bM g ss q).length:=this; omega)
  ·exact (hC2 hb).1 q j (by omega) hm
 have h2:i < (bM g ss n).length:=by have:=Wr h2; omega
 have hN:=hcl n
 refine (PW hc hA hb hns hI hV2 (iY.2 ⟨h1,h2⟩) hcl' h).mono ?_
 rintro _ w31 ⟨b5,F3,rfl,hV3,hG3,hC3,h31⟩
 have next:∀ b:Bool,b = (b4 || b5)->ax ((i:Int) + 1)/\(∃ (i' : Nat) (F' : dY),(i:Int) + 1 = i'/\i'<=(bM g ss n).length/\z8 g ss F'/\lF (fJ g ss) F0 F' b/\(b = false->(∀ q i,q < n->(q,i)∈fJ g ss->PQ g ss F0 q i)/\∀ j,j < i'->PQ g ss F0 n j)/\St w31 [aG (qp g ss d F'),has H2])/\(bM g ss n).length - ((i:Int) + 1).toNat < (bM g ss n).length - (i:Int).toNat:=λb hbb=>by
  refine ⟨⟨by omega,by omega⟩,⟨i + 1,F3,by simp,h2,hV3,by rw [hbb]; exact hG2.trans hG3,λhb=>?_,h31⟩,bx h2⟩
  rw [hbb,Yu] at hb
  obtain ⟨e1,e2⟩:=hC2 hb.1
  have e3:=(hC3 hb.2).2
  rw [hG2.no hb.1] at e3
  refine ⟨e1,λj hj=>?_⟩
  by_cases e:j = i
  ·subst e; exact e3
  ·exact e2 j (by omega)
 exact ⟨_,rfl,ae (λh3=>next true (by rw [h3]; rfl)) λh3=>next b5 (by rw [h3]; rfl)⟩
end Go.Proofs.YtndaepmjkbmjmaaGreatDoor
namespace Go.V
noncomputable section
variable {g:af} {ns:List Bool} {ss:List SQ} {F:dY} {q i:Nat}
def DL (g:af) (ns:List Bool) (ss:List SQ) (q:Nat) (z:Int):bG:=dV g (Dc g ns ss) ⟨(q:Int),z,bX (bm g ss).length (dw g ss q z.toNat)⟩
def MP (g:af) (ns:List Bool) (ss:List SQ) (q:Nat) (l:List ag):List bG:=((l.filter (tK g)).map (·.prod)).map (DL g ns ss q)
def R7 (g:af) (ns:List Bool) (ss:List SQ) (n:Nat):List bG:=(AA g ss n).map (dV g (Dc g ns ss))
theorem PY (q j:Nat):((dm g ss q j).map (·.prod)).map (DL g ns ss q) = (dm g ss q j).map (dV g (Dc g ns ss)):=by
 rw [X8]
 refine XJ λb hb=>?_
 obtain ⟨m,_,_,rfl⟩:=oG.1 hb
 show DL g ns ss q (m:Int) = _
 unfold DL
 rw [WQ]
theorem R8 (hc:ak g) (hA:bn g ss) {r:SQ} (hr:ss[q]? = some r):MP g ns ss q (bM g ss q) = (dm g ss q g.prods.length).map (dV g (Dc g ns ss)):=by
 unfold MP
 rw [LF hr,Pm hc hA hr,PY]
theorem PZ:R7 g ns ss (q + 1) = R7 g ns ss q ++ (dm g ss q g.prods.length).map (dV g (Dc g ns ss)):=by unfold R7; rw [uo,WZ]
theorem R9:R7 g ns ss ss.length = bq g ns ss:=rfl
theorem Uc {l:List ag} {y:ag} (h:tK g y = false):MP g ns ss q (l ++ [y]) = MP g ns ss q l:=by
 unfold MP
 rw [W5,XE,WB (by rw [h]; simp)]
 simp
theorem R_ {l:List ag} {y:ag} (h:tK g y = true):MP g ns ss q (l ++ [y]) = MP g ns ss q l ++ [DL g ns ss q y.prod]:=by
 unfold MP
 rw [W5,XE,WJ h]
 simp
theorem Sa (q:Nat) (l:List ag):(MP g ns ss q l).length<=l.length:=by
 unfold MP
 rw [WE,WE]
 exact W6 _ _
theorem Ud (hc:ak g) (hA:bn g ss) (hn:jb g ns) (hV:z8 g ss F) (hC:∀ q i,(q,i)∈fJ g ss->PQ g ss F q i) {m:Nat} {p:aH} (hp:g.prods[m]? = some p) (hm:m≠0) (hy:ib g ss q i = some ⟨(m:Int),(p.right.length:Int)⟩):DL g ns ss q (m:Int) = ⟨(q:Int),(m:Int),df (F q i)⟩:=by
 have e:(DL g ns ss q (m:Int)).tm = df (F q i):=by
  rw [F9,hV.ln q i (iZ hy)]
  unfold DL
  rw [WQ]
  refine pV λk hk=>?_
  have h1:=PO hc hA hn (q:=q) hp hm (z:=(k:Int))
  rw [Ih] at h1
  rw [Xh]
  have h2:(∃ x:Nat,(k:Int) = x/\x < g.T/\zI g ss q m p.right.length x)↔aO (F q i) k = true:=by
   constructor
   ·rintro ⟨x,e,hx,h⟩
    have:k = x:=by omega
    subst this
    obtain ⟨i',hi',h'⟩:=T9 hc hA hn hV hC h hx
    have:=yj hy hi'
    subst this
    exact h'
   ·intro h
    exact ⟨k,rfl,hk,by simpa using hV.sd q i _ k hy h⟩
  rw [<- h2,<- h1]
  constructor
  ·intro h
   exact ⟨k,rfl,hk,Wr h⟩
  ·rintro ⟨x,e,hx,h⟩
   have:k = x:=by omega
   subst this
   exact W4 h
 have e2:DL g ns ss q (m:Int) = ⟨(q:Int),(m:Int),(DL g ns ss q (m:Int)).tm⟩:=rfl
 rw [e2,e]
end
end Go.V
namespace Go.Proofs.YtndaepmjkbmjmaaGreatDoor
variable {w:YC} {g:af} {ns:List Bool} {ss:List SQ} {d:PR} {F:dY} {H:Hp}
theorem MQ (hc:ak g) (hA:bn g ss) (hn:jb g ns) (hI:SI H g ns ss d) (hV:z8 g ss F) (hC:∀ q i,(q,i)∈fJ g ss->PQ g ss F q i) (h:St w [aG (qp g ss d F),has H]) :
  aA Tryz.prog lG [.pointer (some (aM d.kh))] w λv w'=>∃ (o:YB) (c:Nat) (ds:List gW),v = .slice o ds.length c/\ds.map jd = bq g ns ss/\St w' [own 3 o ds.length c (cH ds),aG (ny ds),aG (qp g ss d F),has H]:=by
 obtain ⟨sT,sN,sP,sP2,_,_⟩:=hc.ct
 have hkl:=hA.yX hc
 have h256:=hA.dn.2.1
 have hcl:∀ q,(bM g ss q).length<=29197:=λq=>by
  unfold bM
  split
  ·rename_i r hr
   have h1:=xB g r.1.2
   have h2:=(hkl r (Wu hr)).1
   omega
  ·simp
 have hlenB:∀ q,q<=ss.length->(R7 g ns ss q).length<=24832:=λq hq=>by
  unfold R7
  rw [WE]
  have h1:=tC g ss q
  have h2:q * g.prods.length<=256 * 97:=Yg (by omega) sP
  omega
 refine j7 ⟨λo n c z w'=>∃ (q:Nat) (ds:List gW),z = q/\q<=ss.length/\n = ds.length/\ds.map jd = R7 g ns ss q/\St w' [own 3 o n c (cH ds),aG (ny ds),aG (qp g ss d F),has H],λ_ _ _ z _=>ss.length - z.toNat,⟨0,[],rfl,WC _,rfl,rfl,az 3 ((St.flat (M:=[])).2 h)⟩,?_⟩
 clear h
 rintro _ o1 _ c1 _ w1 ⟨q,ds,rfl,hq,rfl,hds,h⟩
 have s1:sub H (hp w1):=aU 3 h.l
 refine ⟨_,_,_,hI.r.cell s1 (j:=8) rfl,ae (λh1=>?_) λh1=>?_⟩
 rotate_left
 ·have h1:q = ss.length:=by have:=Ws h1; omega
  subst h1
  exact ⟨_,_,ds,rfl,by rw [hds,R9],h⟩
 have h1:q < ss.length:=by have:=Wr h1; omega
 have hBq:=hlenB q hq
 have hN:=hcl q
 obtain ⟨r,hr⟩ : ∃ r,ss[q]? = some r:=⟨_,Wv h1⟩
 have hall:=R8 (ns:=ns) hc hA hr
 obtain ⟨adI,aI,cI,eI,rI,rIt⟩:=hI.i q h1
 obtain ⟨adT,aT,cT,eT,rT,rTt⟩:=hI.t q h1
 refine ⟨λo n c z w'=>∃ (i:Nat) (ds:List gW),z = i/\i<=(bM g ss q).length/\n = ds.length/\ds.map jd = R7 g ns ss q ++ MP g ns ss q ((bM g ss q).take i)/\St w' [own 3 o n c (cH ds),aG (ny ds),aG (qp g ss d F),has H],λ_ _ _ z _=>(bM g ss q).length - z.toNat,⟨0,ds,rfl,WC _,rfl,by rw [hds]; simp [MP],h⟩,?_⟩
 clear h hds
 rintro _ o3 _ c3 _ w2 ⟨i,ds,rfl,hi,rfl,hds,h⟩
 have hbl:ds.length<=60000:=by
  have h3:=congrArg List.length hds
  have h4:=Sa (g:=g) (ns:=ns) (ss:=ss) q ((bM g ss q).take i)
  rw [WE,WA] at h3
  rw [WV] at h4
  omega
 have s2:sub H (hp w2):=aU 3 h.l
 refine ⟨_,_,_,hI.r.cell s2 (j:=8) rfl,aw eI h1 ⟨_,_,_,rI.cell0 s2,ae (λh2=>?_) λh2=>?_⟩⟩
 rotate_left
 ·have h2:i = (bM g ss q).length:=by have:=Ws h2; omega
  rw [h2,WT,hall,<- PZ] at hds
  exact ⟨⟨by omega,by omega⟩,⟨q + 1,ds,by simp,h1,rfl,hds,h⟩,bx h1⟩
 have h2:i < (bM g ss q).length:=by have:=Wr h2; omega
 obtain ⟨y,yad,hy,hya,ry⟩:=ot rIt h2
 have hyi:ib g ss q i = some y:=hy
 have hmi:=iZ hyi
 obtain ⟨ad2,eT2,rT2⟩:=rTt i h2
 obtain ⟨r',m,dt,p,hr',hcm,rfl,hpr,hdp,hfit,haf⟩:=SJ hc hA hyi
 have htk:(bM g ss q).take (i + 1) = (bM g ss q).take i ++ [⟨(m:Int),(dt:Int)⟩]:=by rw [Wz,hy]; rfl
 have skip:tK g ⟨(m:Int),(dt:Int)⟩ = false->∀ {u:YC},St u [own 3 o3 ds.length c3 (cH ds),aG (ny ds),aG (qp g ss d F),has H]->ax ((i:Int) + 1)/\(∃ (i' : Nat) (ds' : List gW),(i:Int) + 1 = i'/\i'<=(bM g ss q).length/\ds.length = ds'.length/\ds'.map jd = R7 g ns ss q ++ MP g ns ss q ((bM g ss q).take i')/\St u [own 3 o3 ds.length c3 (cH ds'),aG (ny ds'),aG (qp g ss d F),has H])/\(bM g ss q).length - ((i:Int) + 1).toNat < (bM g ss q).length - (i:Int).toNat:=λhno {u} hu=>by
  refine ⟨⟨by omega,by omega⟩,⟨i + 1,ds,by simp,h2,rfl,?_,hu⟩,bx h2⟩
  rw [htk,Uc hno]; exact hds
 refine ⟨_,_,_,hI.r.cell s2 (j:=8) rfl,aw eI h1 ⟨_,_,_,rI.cell0 s2,aq hya h2 ⟨_,_,ry.at s2 rfl,ah h λk15 w3 h=>bu h rfl (by simp [aV]) λw4 h=>λw5 hd=>?_⟩⟩⟩
 have h:=h.drawn hd
 obtain ⟨H1,hl1,h5⟩:=St.R4 [own 3 o3 ds.length c3 (cH ds),aG (ny ds),aG (qp g ss d F)] (M:=[aK k15 _,has H]) (h.pick 5 [1,2,3,0,4])
 simp only [List.cons_append,Xd] at h5
 have rk:av H1 (aM k15) [.int .i64 (m:Int),.int .i64 (dt:Int)]:=ai 0 hl1
 have g1:sub H H1:=aU 1 hl1
 clear h hl1
 have back:∀ {u:YC} {o:YB} {n c:Nat} {ds:List gW},St u [own 3 o n c (cH ds),aG (ny ds),aG (qp g ss d F),has H1]->St u [own 3 o n c (cH ds),aG (ny ds),aG (qp g ss d F),has H]:=λhu=>St.on (N:=[_,_,_]) hu (bC g1)
 have hI1:=hI.mono g1
 have rg:av H1 (aM d.kh) d.x.cells:=av.take (vs:=[.slice d.oA ss.length d.cA,.int .i64 d.ask,.int .i64 d.int,.slice d.oI ss.length d.cI,.slice d.oT ss.length d.cT,.pointer (some ⟨d.bp,0,none⟩)]) hI1.r
 have s5:sub H1 (hp w5):=aU 3 h5.l
 refine ⟨λu=>sub H1 (hp u),s5,_,λu s=>rk.cell0 s,ae (λh3=>?_) λh3=>?_⟩
 rotate_left
 ·refine skip ?_ (back h5)
  have h3:¬ (0:Int) < m:=Ws h3
  unfold tK
  rw [Xm (by show ¬ (1:Int)<=m; omega)]; rfl
 have h3:(0:Int) < m:=Wr h3
 refine ⟨_,_,_,_,_,_,_,_,_,_,_,_,_,λu s=>rg.at s rfl,_,_,λu s=>rk.at s rfl,(A0 (y:=⟨(m:Int),(dt:Int)⟩) (hI1.gr.mono s5) hfit).mono ?_⟩
 rintro _ w9 ⟨rfl,g59⟩
 have h9:=h5.gr g59
 have s9:sub H1 (hp w9):=aU 3 h9.l
 clear h5
 refine ⟨_,rfl,s9,ae (λh4=>?_) λh4=>?_⟩
 rotate_left
 ·refine skip ?_ (back h9)
  have h4:0<=cO g ⟨(m:Int),(dt:Int)⟩:=by have:=Ws h4; omega
  obtain ⟨_,hlt,_⟩:=haf h4
  unfold tK
  simp only [WQ,hpr]
  rw [Xm (show ¬ ((p.right.length:Nat):Int)<=(dt:Int) by omega)]
  simp
 have h4:cO g ⟨(m:Int),(dt:Int)⟩ < 0:=Wr h4
 have hdt:dt = p.right.length:=by
  refine Nat.le_antisymm hdp (X6 λhlt=>?_)
  have ea:cO g ⟨(m:Int),(dt:Int)⟩ = p.right.getD dt (-1):=by rw [jM (p:=p) (by simpa using hpr)]; simp
  rw [ea,Ww,Wv hlt] at h4
  have:=hc.sym (Wu hpr) (List.getElem_mem hlt)
  simp at h4
  omega
 have hcomp:tK g ⟨(m:Int),(dt:Int)⟩ = true:=(oF hfit).2 ⟨m,p,by omega,hpr,by rw [hdt]⟩
 have hrow:=Ud hc hA hn hV hC hpr (by omega:m≠0) (by rw [<- hdt]; exact hyi)
 intro w10 hd10
 have h10:=h9.drawn hd10
 have s10:sub H1 (hp w10):=aU 3 h10.l
 clear h9
 have rr:=Gn hmi (h10.pick 4 [2,0,1,3])
 have hFl:=hV.ln q i hmi
 refine ⟨λu=>sub H1 (hp u),s10,_,λu s=>rk.cell0 s,_,_,_,λu s=>hI1.r.cell s (j:=9) rfl,aw eT h1 ⟨_,_,_,λu s=>(rT.mono g1).cell0 s,aw eT2 h2 ⟨_,_,_,λu s=>(rT2.mono g1).cell0 s,(TJ (kU hFl (.inr ⟨_,rfl,rr⟩)) (by omega) (by omega)).mono ?_⟩⟩⟩
 rintro _ w15 ⟨o15,c15,rfl,hl⟩
 have h15:=hl.qk h10.l
 clear hl h10 rr
 rw [<- pn] at h15 ⊢
 refine ⟨_,_,_,rfl,aU 4 h15.l,ah h15 λk32 w16 h=>⟨aU 5 h.l,?_⟩⟩
 refine (aN (us:=cH ds) aQ (rfl:aj Ty _ = .slice _) (rfl:aj Ty _ = .slice _) rfl rfl rfl (h.pick 6 [0,2,1,3,4,5]) rfl (by simp [aV]) (by show (ds.length + 1) * 40<=_; omega) (by omega)).mono ?_
 rintro _ w17 ⟨o16,c16,rfl,h⟩
 refine ⟨_,_,_,rfl,aU 5 h.l,⟨by omega,by omega⟩,⟨i + 1,ds ++ [(((q:Int),(m:Int)),((o15,c15),df (F q i)))],by simp,h2,by simp,?_,?_⟩,bx h2⟩
 ·rw [WZ,hds,htk,R_ hcomp,hrow,WG]
  rfl
 ·rw [A9,show ny (ds ++ [(((q:Int),(m:Int)),((o15,c15),df (F q i)))]) = ny ds ++ [own 1 o15 (df (F q i)).length c15 (iv (df (F q i)))] by unfold ny; rw [WZ]; rfl]
  have h1:St w17 [own 1 o15 (df (F q i)).length c15 (iv (df (F q i))),aG (ny ds),own 3 o16 (ds.length + 1) c16 (cH ds ++ O2 (((q:Int),(m:Int)),((o15,c15),df (F q i)))),aG (qp g ss d F),has H1]:=h.pick 6 [2,3,0,4,5]
  have h2:=St.on (N:=[_,_,_]) (St.snoc h1).swap (bC g1)
  exact h2
end Go.Proofs.YtndaepmjkbmjmaaGreatDoor



namespace Go.V
section
variable {g:af} {nn:List Bool} {ss:List SQ}
def AJ (q t p:Nat) (l:bG):Bool:=decide (l.st = (q:Int)) && decide (l.prod = (p:Int)) && decide ((t:Int)∈l.tm)
def wz (ls:List bG) (q t p:Nat):List bS:=(ls.filter (AJ q t p)).map λ_=>⟨2,(p:Int)⟩
def yk (ls:List bG) (q t n:Nat):List bS:=(ls.filter λl=>decide (l.st = (q:Int)) && decide ((t:Int)∈l.tm) && decide (l.prod < (n:Int))).map λl=>⟨2,l.prod⟩
theorem ER {α : Type} {k:α->Int} {c:α->Bool} {n:Int}:∀ {l:List α},(l.Pairwise λx y=>k x < k y)->l.filter (λx=>c x && decide (k x < n + 1)) = l.filter (λx=>c x && decide (k x < n)) ++ l.filter (λx=>c x && decide (k x = n))
 | [],_=>rfl
 | a :: l,h=>by
  obtain ⟨h1,h2⟩:=Xu.1 h
  have ih:=ER (c:=c) (n:=n) h2
  rw [XE,XE,XE,ih]
  by_cases hc:c a = true
  ·rw [hc]
   rcases Int.lt_trichotomy (k a) n with h3 | h3 | h3
   ·simp [h3,show k a < n + 1 by omega,show k a≠n by omega]
   ·have e:l.filter (λx=>c x && decide (k x < n)) = []:=XQ.2 λx hx=>by
     have:=h1 x hx; simp; intro _; omega
    have h4:decide (k a < n + 1) = true:=W4 (by omega)
    have h5:decide (k a < n) = false:=Xm (by omega)
    have h6:decide (k a = n) = true:=W4 h3
    rw [e,h4,h5,h6]
    simp
   ·simp [show ¬ k a < n by omega,show ¬ k a < n + 1 by omega,show k a≠n by omega]
  ·simp [hc]
theorem MR {ls:List bG} {q t n:Nat} (h:ls.Pairwise λx y=>x.prod < y.prod):yk ls q t (n + 1) = yk ls q t n ++ wz ls q t n:=by
 unfold yk wz
 rw [show ((n + 1:Nat):Int) = (n:Int) + 1 by omega,ER (k:=bG.prod) (c:=λl:bG=>decide (l.st = (q:Int)) && decide ((t:Int)∈l.tm)) h,WZ]
 congr 1
 have e:ls.filter (λx=>decide (x.st = (q:Int)) && decide ((t:Int)∈x.tm) && decide (x.prod = (n:Int))) = ls.filter (AJ q t n):=XF λx _=>by
  unfold AJ
  rw [Bool.and_assoc,Bool.and_assoc,Bool.and_comm (decide ((t:Int)∈x.tm))]
 rw [e]
 refine XJ λx hx=>?_
 have:=(W9.1 hx).2
 unfold AJ at this
 simp at this
 rw [this.1.2]
theorem zJ {ls:List bG} {q t p:Nat} {l:bG}:wz (ls ++ [l]) q t p = if AJ q t p l = true then wz ls q t p ++ [⟨2,(p:Int)⟩] else wz ls q t p:=by
 unfold wz
 rw [W5,XE]
 by_cases h:AJ q t p l = true <;> simp [h]
theorem It {ls:List bG} {q t:Nat} (h:∀ l∈ls,0 < l.prod):yk ls q t 1 = []:=by
 unfold yk
 rw [XQ.2 λl hl=>by have:=h l hl; simp; intro _ _; omega]; rfl
theorem P0 {ls:List bG} {q t n:Nat} (h:∀ l∈ls,l.prod < (n:Int)):yk ls q t n = Gc ls q t:=by
 unfold yk Gc
 congr 1
 refine XF λl hl=>?_
 rw [W4 (h l hl),Bool.and_true]
def M4 (ls:List bG) (q:Nat):List bG:=ls.filter λl=>decide (l.st = (q:Int))
theorem Vd (ls:List bG) (q t:Nat):Gc (M4 ls q) q t = Gc ls q t:=by
 unfold Gc M4
 rw [List.filter_filter]
 congr 1
 refine XF λl _=>?_
 cases h:decide (l.st = (q:Int)) <;> simp
end
section
variable {g:af} {nn:List Bool} {ss:List SQ}
theorem P1 (hc:ak g) (hA:bn g ss) {q:Nat}:wE ss q 0 = []:=by
 unfold wE
 cases h:eW ss q ((0:Nat):Int) with
 | none=>rfl
 | some j =>
  obtain ⟨r,k,e,hr,he,e1,_⟩:=pG h
  have:=(fm hc hA hr he).1
  have e1:e.sym = 0:=e1
  omega
def Gu (K:List ag) (t i:Nat):List bS:=if t = 0 then ((K.take i).filter λx=>decide (x = ⟨0,1⟩)).map λ_=>⟨3,0⟩ else []
theorem Iu {K:List ag} {t:Nat}:Gu K t 0 = []:=by unfold Gu; split <;> simp
theorem ym {K:List ag} {t i:Nat} {y:ag} (h:K[i]? = some y):Gu K t (i + 1) = if t = 0/\y = ⟨0,1⟩ then Gu K t i ++ [⟨3,0⟩] else Gu K t i:=by
 unfold Gu
 rw [Wz,h,W5]
 by_cases h0:t = 0 <;> by_cases h1:y = ⟨0,1⟩ <;> simp [h0,h1]
theorem Kh {α : Type} [DecidableEq α] {a:α}:∀ {l:List α},l.Nodup->l.filter (λx=>decide (x = a)) = if a∈l then [a] else []
 | [],_=>by simp
 | b :: l,h=>by
  obtain ⟨h1,h2⟩:=Xp.1 h
  have ih:=Kh (a:=a) h2
  rw [XE,ih]
  by_cases e:b = a
  ·subst e
   rw [WJ (by simp),WB h1,WJ (by simp)]
  ·rw [WB (by simp [e])]
   have:(a∈b :: l)↔a∈l:=by rw [WM]; exact ⟨λh=>h.resolve_left (X2 e),.inr⟩
   by_cases h3:a∈l
   ·rw [WJ h3,WJ (this.2 h3)]
   ·rw [WB h3,WB λh=>h3 (this.1 h)]
theorem Sb {q t:Nat} {r:SQ} (hr:ss[q]? = some r) (hK:r.1.2.Nodup):Gu r.1.2 t r.1.2.length = Lt ss q t:=by
 unfold Gu Lt
 rw [hr,WT,Kh hK]
 by_cases h0:t = 0 <;> by_cases h1:(⟨0,1⟩ : ag)∈r.1.2 <;> simp [h0,h1]
def Ki (tm:List Int) (t p i:Nat):List bS:=((tm.take i).filter λx=>decide (x = (t:Int))).map λ_=>⟨2,(p:Int)⟩
theorem Iv {tm:List Int} {t p:Nat}:Ki tm t p 0 = []:=by unfold Ki; simp
theorem yn {tm:List Int} {t p i:Nat} {y:Int} (h:tm[i]? = some y):Ki tm t p (i + 1) = if y = (t:Int) then Ki tm t p i ++ [⟨2,(p:Int)⟩] else Ki tm t p i:=by
 unfold Ki
 rw [Wz,h,W5]
 by_cases h1:y = (t:Int) <;> simp [h1]
theorem Sd {l:bG} {q t p:Nat} (hr:jc l.tm) (h1:l.st = (q:Int)) (h2:l.prod = (p:Int)):Ki l.tm t p l.tm.length = if AJ q t p l = true then [⟨2,(p:Int)⟩] else []:=by
 unfold Ki AJ
 have hn:l.tm.Nodup:=Xi.2 (List.Pairwise.imp (λh e=>by omega) hr)
 rw [WT,Kh hn,h1,h2]
 by_cases h:(t:Int)∈l.tm <;> simp [h]
end
end Go.V
namespace Go.Proofs.YtndaepmjkbmjmaaGreatDoor
variable {w:YC} {g:af} {nn:List Bool} {ss:List SQ} {x:GA}
theorem MS {oA oL:YB} {cA cL q t:Nat} {ask int:Int} {ls:List bG} (hc:ak g) (hA:bn g ss) (hb:ik g) (hg:gR (hp w) g x) (ha:xE (hp w) ss oA) (hq:q < ss.length) (htT:t < g.T) (hL:a_ (hp w) ls oL ls.length) (hls:ls = M4 (bq g nn ss) q) :
    aA Tryz.prog qh [.agg ⟨x.cells⟩,.agg #[.slice oA ss.length cA,.int .i64 ask,.int .i64 int],.slice oL ls.length cL,.int .i64 (q:Int),.int .i64 (t:Int)] w λv w'=>∃ (o:YB) (c:Nat),v = .slice o (cP g nn ss q t).length c/\St w' (own 2 o (cP g nn ss q t).length c (ng (cP g nn ss q t)) :: all w):=by
  obtain ⟨sT,sN,sP,sP2,_,_⟩:=hc.ct
  have hkl:=hA.yX hc
  have hke:∀ q∈ss,q.2.2.length<=130:=λq hq=>(hkl q hq).2
  have h256:=hA.dn.2.1
  have hlr:=zv (g:=g) (nn:=nn) (ss:=ss) q
  have hlm:∀ l∈ls,l∈bq g nn ss/\l.st = (q:Int):=λl hl=>by
    rw [hls] at hl
    obtain ⟨h1,h2⟩:=W9.1 hl
    exact ⟨h1,Wr h2⟩
  have hlp:∀ l∈ls,0 < l.prod/\l.prod < (g.prods.length:Int)/\jc l.tm/\l.tm.length<=65:=λl hl=>by
    obtain ⟨q',m,_,hm,hm0,rfl⟩:=yc (hlm l hl).1
    exact ⟨by show (0:Int) < (m:Int); omega,by show (m:Int) < _; omega,EF,W0 Ii sT⟩
  have hsrt:ls.Pairwise λx y=>x.prod < y.prod:=by rw [hls]; exact hlr
  have hll:ls.length<=24832:=by
    rw [hls]
    have h1:=W6 (λl:bG=>decide (l.st = (q:Int))) (bq g nn ss)
    have h2:=(A_ hc hA).1
    rw [<- wq (nn:=nn)] at h2
    unfold M4
    omega
  have hfin:wE ss q t ++ Lt ss q t ++ yk ls q t g.prods.length = cP g nn ss q t:=by
    unfold cP
    rw [P0 λl hl=>(hlp l hl).2.1,hls,Vd]
  have htot:=CV (g:=g) (nn:=nn) (ss:=ss) (q:=q) (t:=t)
  have hs1:=Lu (ss:=ss) q t
  have ha1:=Lv (ss:=ss) q t
  have hrl:∀ n,(yk ls q t n).length<=24832:=λn=>by
    unfold yk
    rw [WE]
    exact W0 (W6 _ _) hll
  have hil:∀ n p,(wz (ls.take n) q t p).length<=24832:=λn p=>by
    unfold wz
    rw [WE]
    have h1:=W6 (AJ q t p) (ls.take n)
    rw [WV] at h1
    omega
  refine nq (cN hg λk1 w1 gw hg1 Bx=>ah (St.all w1) λk2 w2 h2=>?_)
  have rA:av (hp w2) (aM k2) [.slice oA ss.length cA,.int .i64 ask,.int .i64 int]:=ai 0 h2.l
  have g12:Gr w1 w2:=h2.aZ
  clear h2
  have gw2:=gw.trans g12
  refine ⟨_,_,_,_,_,rA.at (sub.refl _) rfl,(OE hA (ha.mono gw2) hq hke h256).mono ?_⟩
  rintro _ w3 ⟨rfl,g23⟩
  have gw3:=gw2.trans g23
  have rA:=rA.mono g23
  have ha:=ha.mono gw3
  have hL:=hL.mono gw3
  have Bx:=λ{u:YC} (s:Gr w3 u)=>Bx.c4 (w:=u) ((g12.trans g23).trans s)
  have fin:∀ {u:YC} {o:YB} {n c:Nat} {us:List Value},St u (own 2 o n c us :: all w3)->St u (own 2 o n c us :: all w):=λh=>St.qk h (bC gw3)
  refine ⟨_,rfl,λo n c w'=>n = (wE ss q t).length/\St w' (own 2 o n c (ng (wE ss q t)) :: all w3),?_,?_⟩
  · refine ae (λh1=>ae (λh2=>?_) λh2=>?_) λh1=>?_
    · have h2:0<=tk ss q (t:Int):=Wr h2
      cases hx:eW ss q (t:Int) with
      | none=>unfold tk at h2; rw [hx] at h2; simp at h2
      | some j =>
        have e1:wE ss q t = [⟨1,j⟩]:=by unfold wE; rw [hx]
        have e2:tk ss q (t:Int) = j:=by unfold tk; rw [hx]; rfl
        rw [e1,e2]
        refine ah (az 2 (St.all w3)) λk5 w4 h=>(aN (us:=[]) aQ (rfl:aj Ty _ = .slice _) (rfl:aj Ty _ = .slice _) rfl rfl rfl h rfl (by simp [aV]) (by show (0 + 1) * 16<=_; omega) (by omega)).mono ?_
        rintro _ w5 ⟨o',c',rfl,h⟩
        exact ⟨_,_,_,rfl,rfl,h.pick 2 [0]⟩
    · have h2:¬ 0<=tk ss q (t:Int):=Ws h2
      have e1:wE ss q t = []:=by
        unfold wE
        cases hx:eW ss q (t:Int) with
        | none=>rfl
        | some j =>
          have:=(iP hc hA hx).1
          unfold tk at h2; rw [hx] at h2; exact absurd this h2
      rw [e1]
      exact ⟨rfl,az 2 (St.all w3)⟩
    · have h1:t = 0:=by have:=Ws h1; omega
      rw [h1,P1 hc hA]
      exact ⟨rfl,az 2 (St.all w3)⟩
  rintro _ o3 _ c3 w6 ⟨rfl,h⟩
  obtain ⟨r,hr⟩ : ∃ r,ss[q]? = some r:=⟨_,Wv hq⟩
  obtain ⟨ad,eA,rs,rkk,_⟩:=ha q r hr
  have hrl0:=(hkl r (Wu hr)).1
  have hK:r.1.2.Nodup:=((di (g:=g) (by omega) q).PC _ (Wu (fl hA hr).1)).nodup
  have s6:Gr w3 w6:=aU 1 h.l
  refine ⟨_,_,_,rA.cell0 s6,aq eA hq ⟨_,_,_,rs.cell0 s6,λo n c z w'=>∃ i:Nat,z = i/\i<=r.1.2.length/\n = (wE ss q t ++ Gu r.1.2 t i).length/\St w' (own 2 o n c (ng (wE ss q t ++ Gu r.1.2 t i)) :: all w3),λ_ _ _ z _=>r.1.2.length - z.toNat,⟨0,rfl,WC _,by rw [Iu,W2],by rw [Iu,W2]; exact h⟩,?_⟩⟩
  clear h
  rintro _ o6 _ c6 _ w7 ⟨i,rfl,hi,rfl,h⟩
  have s7:Gr w3 w7:=aU 1 h.l
  refine ae (λh1=>?_) λh1=>?_
  · have h1:i < r.1.2.length:=by have:=Wr h1; omega
    obtain ⟨y,yad,hy,hya,ry⟩:=ot rkk h1
    have hlen:(wE ss q t ++ Gu r.1.2 t i).length<=30000:=by
      rw [WA]
      unfold Gu
      split
      · rw [WE]
        have:=W6 (λx:ag=>decide (x = ⟨0,1⟩)) (r.1.2.take i)
        rw [WV] at this
        omega
      · simp; omega
    have skip:¬ (t = 0/\y = ⟨0,1⟩)->ax ((i:Int) + 1)/\(∃ i' : Nat,(i:Int) + 1 = i'/\i'<=r.1.2.length/\(wE ss q t ++ Gu r.1.2 t i).length = (wE ss q t ++ Gu r.1.2 t i').length/\St w7 (own 2 o6 (wE ss q t ++ Gu r.1.2 t i).length c6 (ng (wE ss q t ++ Gu r.1.2 t i')) :: all w3))/\r.1.2.length - ((i:Int) + 1).toNat < r.1.2.length - (i:Int).toNat:=λhne=>by
      refine ⟨⟨by omega,by omega⟩,⟨i + 1,by simp,h1,?_,?_⟩,bx h1⟩
      · rw [ym hy,WB hne]
      · rw [ym hy,WB hne]; exact h
    refine ae (λh2=>aq hya h1 ⟨_,ry.cell0 s7,ae (λh3=>aq hya h1 ⟨_,ry.cell s7 (j:=1) rfl,ae (λh4=>?_) λh4=>skip λhh=>by rw [hh.2] at h4; simp at h4⟩) λh3=>skip λhh=>by rw [hh.2] at h3; simp at h3⟩) λh2=>skip λhh=>by rw [hh.1] at h2; simp at h2
    have h2 : t = 0 := by have : (t : Int) = 0 := by simpa using h2
                          omega
    have h3:y.prod = 0:=by simpa using h3
    have h4:y.dot = 1:=by simpa using h4
    have hy2:y = ⟨0,1⟩:=by cases y; simp at h3 h4; simp [h3,h4]
    refine ah h λk16 w8 h=>(aN (us:=ng (wE ss q t ++ Gu r.1.2 t i)) aQ (rfl:aj Ty _ = .slice _) (rfl:aj Ty _ = .slice _) rfl rfl rfl h rfl (by simp [aV]) (by show ((wE ss q t ++ Gu r.1.2 t i).length + 1) * 16<=_; omega) (by omega)).mono ?_
    rintro _ w9 ⟨o',c',rfl,h⟩
    refine ⟨_,_,_,rfl,⟨by omega,by omega⟩,⟨i + 1,by simp,h1,?_,?_⟩,bx h1⟩
    · rw [ym hy,WJ ⟨h2,hy2⟩]; simp; omega
    · rw [ym hy,WJ ⟨h2,hy2⟩,<- WG,Ge]
      exact h.pick 2 [0]
  have h1:i = r.1.2.length:=by have:=Ws h1; omega
  subst h1
  rw [Sb hr hK] at h ⊢
  obtain ⟨P,eP⟩ : ∃ P,P = wE ss q t ++ Lt ss q t:=⟨_,rfl⟩
  have hPl:P.length<=2:=by rw [eP,WA]; omega
  rw [<- eP] at h hfin ⊢
  have hpl:=hg1.p.1
  have hpos:1<=g.prods.length:=by
    obtain ⟨_,_,_,p0,hp0,_⟩:=hc
    have:=(Wt.1 hp0).1
    omega
  refine ⟨λo n c z w'=>∃ p:Nat,z = p/\1<=p/\p<=g.prods.length/\n = (P ++ yk ls q t p).length/\St w' (own 2 o n c (ng (P ++ yk ls q t p)) :: all w3),λ_ _ _ z _=>g.prods.length - z.toNat,⟨1,rfl,WO _,hpos,by rw [It λl hl=>(hlp l hl).1,W2],by rw [It λl hl=>(hlp l hl).1,W2]; exact h⟩,?_⟩
  clear h
  rintro _ o8 _ c8 _ w10 ⟨p,rfl,hp1,hp2,rfl,h⟩
  have s10:Gr w3 w10:=aU 1 h.l
  refine ⟨_,_,_,Bx s10,ae (λh1=>?_) λh1=>?_⟩
  rotate_left
  · have h1:p = g.prods.length:=by have:=Ws h1; omega
    subst h1
    rw [hfin] at h ⊢
    exact ⟨_,_,rfl,fin h⟩
  have h1:p < g.prods.length:=by have:=Wr h1; omega
  have hrp:=hrl p
  obtain ⟨Q,eQ⟩ : ∃ Q,Q = P ++ yk ls q t p:=⟨_,rfl⟩
  have hQl:Q.length<=25000:=by rw [eQ,WA]; omega
  have hQn:P ++ yk ls q t (p + 1) = Q ++ wz ls q t p:=by rw [MR hsrt,eQ,WG]
  rw [<- eQ] at h ⊢
  refine ⟨λo n c z w'=>∃ i:Nat,z = i/\i<=ls.length/\n = (Q ++ wz (ls.take i) q t p).length/\St w' (own 2 o n c (ng (Q ++ wz (ls.take i) q t p)) :: all w3),λ_ _ _ z _=>ls.length - z.toNat,⟨0,rfl,WC _,by simp [wz],by simpa [wz] using h⟩,?_⟩
  clear h
  rintro _ o10 _ c10 _ w11 ⟨i,rfl,hi,rfl,h⟩
  have s11:Gr w3 w11:=aU 1 h.l
  refine ae (λh2=>?_) λh2=>?_
  rotate_left
  · have h2:i = ls.length:=by have:=Ws h2; omega
    rw [h2,WT,<- hQn] at h ⊢
    exact ⟨⟨by omega,by omega⟩,⟨p + 1,by simp,by omega,h1,rfl,h⟩,bx h1⟩
  have h2:i < ls.length:=by have:=Wr h2; omega
  obtain ⟨l,lad,la,lc,hl,hla,rl,rlt⟩:=Pj hL h2
  have hlmem:=Wu hl
  obtain ⟨_,hlst⟩:=hlm l hlmem
  obtain ⟨_,_,hrise,htl⟩:=hlp l hlmem
  have htk:ls.take (i + 1) = ls.take i ++ [l]:=by rw [Wz,hl]; rfl
  have hiI:=hil i p
  refine aq hla h2 ⟨_,rl.cell0 s11,Ma (by rw [hlst]; simp) (aq hla h2 ⟨_,rl.cell s11 (j:=1) rfl,ae (λh3=>?_) λh3=>?_⟩)⟩
  · have h3:l.prod≠(p:Int):=by simpa using h3
    have hno:AJ q t p l = false:=by unfold AJ; rw [Xm h3]; simp
    refine ⟨⟨by omega,by omega⟩,⟨i + 1,by simp,h2,?_,?_⟩,bx h2⟩
    · rw [htk,zJ,hno]; rfl
    · rw [htk,zJ,hno]; exact h
  have h3:l.prod = (p:Int):=by simpa using h3
  obtain ⟨S,eS⟩ : ∃ S,S = Q ++ wz (ls.take i) q t p:=⟨_,rfl⟩
  have hSl:S.length<=50000:=by rw [eS,WA]; omega
  rw [<- eS] at h ⊢
  refine ⟨λo n c z w'=>∃ k:Nat,z = k/\k<=l.tm.length/\n = (S ++ Ki l.tm t p k).length/\St w' (own 2 o n c (ng (S ++ Ki l.tm t p k)) :: all w3),λ_ _ _ z _=>l.tm.length - z.toNat,⟨0,rfl,WC _,by rw [Iv,W2],by rw [Iv,W2]; exact h⟩,?_⟩
  clear h
  rintro _ o11 _ c11 _ w12 ⟨k,rfl,hk,rfl,h⟩
  have s12:Gr w3 w12:=aU 1 h.l
  refine aq hla h2 ⟨_,_,_,rl.cell s12 (j:=2) rfl,ae (λh4=>?_) λh4=>?_⟩
  rotate_left
  · have h4:k = l.tm.length:=by have:=Ws h4; omega
    have e:S ++ Ki l.tm t p l.tm.length = Q ++ wz (ls.take (i + 1)) q t p:=by
      rw [Sd hrise hlst h3,htk,zJ,eS]
      by_cases hh:AJ q t p l = true
      · rw [WJ hh,WJ hh,WG]
      · rw [WB hh,WB hh,W2]
    rw [h4,e] at h ⊢
    exact ⟨⟨by omega,by omega⟩,⟨i + 1,by simp,h2,rfl,h⟩,bx h2⟩
  have h4:k < l.tm.length:=by have:=Wr h4; omega
  obtain ⟨z,zad,hz,hza,rz⟩:=rlt.cF h4
  have htm:(S ++ Ki l.tm t p k).length<=60000:=by
    rw [WA]
    unfold Ki
    rw [WE]
    have:=W6 (λx:Int=>decide (x = (t:Int))) (l.tm.take k)
    rw [WV] at this
    omega
  refine aq hla h2 ⟨_,_,_,rl.cell s12 (j:=2) rfl,aw hza h4 ⟨_,rz _ s12,ae (λh5=>?_) λh5=>?_⟩⟩
  · have h5:z = (t:Int):=by simpa using h5
    refine ah h λk31 w13 h=>(aN (us:=ng (S ++ Ki l.tm t p k)) aQ (rfl:aj Ty _ = .slice _) (rfl:aj Ty _ = .slice _) rfl rfl rfl h rfl (by simp [aV]) (by show ((S ++ Ki l.tm t p k).length + 1) * 16<=_; omega) (by omega)).mono ?_
    rintro _ w14 ⟨o',c',rfl,h⟩
    refine ⟨_,_,_,rfl,⟨by omega,by omega⟩,⟨k + 1,by simp,h4,?_,?_⟩,bx h4⟩
    · rw [yn hz,WJ h5]; simp; omega
    · rw [yn hz,WJ h5,<- WG,Ge]
      exact h.pick 2 [0]
  · have h5:z≠(t:Int):=by simpa using h5
    refine ⟨⟨by omega,by omega⟩,⟨k + 1,by simp,h4,?_,?_⟩,bx h4⟩
    · rw [yn hz,WB h5]
    · rw [yn hz,WB h5]; exact h
end Go.Proofs.YtndaepmjkbmjmaaGreatDoor
namespace Go.V
theorem LI {h:Hp} {o:YB} {ds:List gW} (r:eJ o (cH ds) h) (hd:∀ d∈ds,a_ h d.2.2 d.2.1.1 d.2.2.length):a_ h (ds.map jd) o ds.length:=by
 refine ⟨by simp,λi x hi=>?_⟩
 rw [Wx] at hi
 cases hb:ds[i]? with
 | none=>rw [hb] at hi; cases hi
 | some p =>
  rw [hb] at hi
  simp only [Xw,Option.some.injEq] at hi
  subst hi
  rcases r with e | ⟨ad,e,hc⟩
  ·have h1:=congrArg List.length e
   rw [A8,Xk] at h1
   have:=(Wt.1 hb).1; omega
  ·exact ⟨ad,O2 p,e,bQ (n:=3) (λ_=>rfl) ds ad hc i p hb,p.2.1.1,p.2.1.2,rfl,hd p (Wu hb)⟩
def Se (bs:List gW) (q:Nat):List gW:=bs.filter λb=>decide (b.1.1 = (q:Int))
theorem Ue (bs:List gW) (q:Nat):(Se bs q).map jd = M4 (bs.map jd) q:=by
 unfold Se M4
 rw [List.filter_map]; rfl
theorem P3 {bs:List gW} {b:gW} {q:Nat}:Se (bs ++ [b]) q = if b.1.1 = (q:Int) then Se bs q ++ [b] else Se bs q:=by
 unfold Se
 rw [W5]
 by_cases h:b.1.1 = (q:Int) <;> simp [h]
end Go.V
namespace Go.Proofs.YtndaepmjkbmjmaaGreatDoor
variable {w:YC} {g:af} {nn:List Bool} {ss:List SQ} {x:GA}
theorem Uf {oA oL:YB} {cA cL:Nat} {ask int:Int} {bs:List gW} (hc:ak g) (hA:bn g ss) (hb:ik g) (hg:gR (hp w) g x) (ha:xE (hp w) ss oA) (hL:eJ oL (cH bs) (hp w)) (hLt:∀ b∈bs,a_ (hp w) b.2.2 b.2.1.1 b.2.2.length) (hbs:bs.map jd = bq g nn ss) :
  aA Tryz.prog yg [.agg ⟨x.cells⟩,.agg #[.slice oA ss.length cA,.int .i64 ask,.int .i64 int],.slice oL bs.length cL] w λv w'=>∃ (o:YB) (c:Nat) (ds:List rK),v = .slice o ds.length c/\ds.map rq = cE g nn ss 1/\St w' (own 3 o ds.length c (vg ds) :: aG (oQ ds) :: all w):=by
 obtain ⟨sT,sN,sP,sP2,_,_⟩:=hc.ct
 have h256:=hA.dn.2.1
 have hbl:bs.length<=24832:=by
  have e:=congrArg List.length hbs
  have h2:=(A_ hc hA).1
  rw [<- wq (nn:=nn)] at h2
  rw [WE] at e
  omega
 have hbq:∀ b∈bs,∃ q:Nat,b.1.1 = (q:Int)/\q < ss.length:=λb hb'=>by
  have hm:jd b∈bq g nn ss:=by rw [<- hbs]; exact List.mem_map_of_mem hb'
  obtain ⟨q,m,hq,_,_,e⟩:=yc hm
  exact ⟨q,congrArg bG.st e,hq⟩
 have hTl:g.T = x.tl:=hg.t.1
 refine vb (cN hg λk1 w1 gw hg1 Bx=>ah (St.all w1) λk2 w2 h2=>?_)
 have rA:av (hp w2) (aM k2) [.slice oA ss.length cA,.int .i64 ask,.int .i64 int]:=ai 0 h2.l
 have g12:Gr w1 w2:=h2.aZ
 clear h2
 have gw2:=gw.trans g12
 refine ⟨_,_,_,rA.cell0 (sub.refl _),⟨by omega,rfl,by omega⟩,?_⟩
 rw [WQ,de]
 refine ah (St.all w2) λk5 w3 h=>?_
 have hL2:=eJ.mono gw2 hL
 have hLt2:=λb hb'=>(hLt b hb').mono gw2
 have hg2:=hg1.mono g12
 have ha2:=ha.mono gw2
 have rLk:a_ (hp w2) (bs.map jd) oL bs.length:=LI hL2 hLt2
 refine ⟨λz w'=>∃ (i:Nat) (rows:List (Lq gW)),z = i/\i<=bs.length/\rows.length = ss.length/\(∀ (q:Nat) ro,rows[q]? = some ro->ro.2 = Se (bs.take i) q)/\St w' (aK k5 (rows.map dO) :: aG (rows.map (dp 3 cH)) :: all w2),λz _=>bs.length - z.toNat,⟨0,List.replicate ss.length ((none,0),[]),rfl,WC _,by simp,λq ro hro=>?_,?_⟩,?_⟩
 ·rw [XM] at hro
  split at hro
  ·cases hro; rfl
  ·cases hro
 ·rw [List.map_replicate,List.map_replicate]
  exact (xl (A:=own 3 none 0 0 []) (λw L h=>az 3 h) ss.length h).swap
 clear h
 rintro _ _ w4 ⟨i,rows,rfl,hi,hrl,hro,h⟩
 have s4:Gr w2 w4:=aU 2 h.l
 refine ae (λh1=>?_) λh1=>?_
 ·have h1:i < bs.length:=by have:=Wr h1; omega
  obtain ⟨b,hbi⟩ : ∃ b,bs[i]? = some b:=⟨_,Wv h1⟩
  obtain ⟨q,hbq1,hbq2⟩:=hbq b (Wu hbi)
  obtain ⟨oLa,eL,rb⟩ : ∃ ad,oL = some ad/\av (hp w2) (ad.add (cY i 3)) (O2 b):=by
   rcases hL2 with e | ⟨ad,e,hcc⟩
   ·have h3:=congrArg List.length e
    rw [A8,Xk] at h3; omega
   ·exact ⟨ad,e,bQ (n:=3) (λ_=>rfl) bs ad hcc i b hbi⟩
  obtain ⟨ro,hrq⟩ : ∃ ro,rows[q]? = some ro:=⟨_,Wv (by omega)⟩
  have hroq:=hro q ro hrq
  have hrol:ro.2.length<=24832:=by
   rw [hroq]
   unfold Se
   have h3:=W6 (λb:gW=>decide (b.1.1 = (q:Int))) (bs.take i)
   rw [WV] at h3
   omega
  intro w5 hd
  have h:=h.drawn hd
  have s5:Gr w2 w5:=aU 2 h.l
  have hsl:(rows.map dO)[q]? = some (dO ro):=by rw [Wx,hrq]; rfl
  have rb0:av (hp w2) (oLa.add (cY i 3)) [.int .i64 (q:Int),.int .i64 b.1.2,dO b.2]:=by rw [<- hbq1]; exact rb
  refine ⟨λu=>Gr w2 u/\av (hp u) (aM k5) (rows.map dO),⟨s5,ai 0 h.l⟩,aq eL h1 ⟨_,λu s=>rb0.cell0 s.1,aq eL h1 ⟨_,λu s=>rb0.cell0 s.1,aw rfl hbq2 ⟨_,_,_,λu s=>s.2.cell (sub.refl _) hsl,aq eL h1 ⟨_,_,_,_,_,λu s=>rb0.at s.1 rfl,ah h λk10 w10 h=>⟨⟨aU 3 h.l,ai 1 h.l⟩,?_⟩⟩⟩⟩⟩⟩
  have hmr:(rows.map (dp 3 cH))[q]? = some (dp 3 cH ro):=by rw [Wx,hrq]; rfl
  have h6:St w10 (own 3 ro.1.1 ro.2.length ro.1.2 (cH ro.2) :: aG ((rows.map (dp 3 cH)).take q ++ (rows.map (dp 3 cH)).drop (q + 1)) :: aK k10 [.int .i64 (q:Int),.int .i64 b.1.2,dO b.2] :: aK k5 (rows.map dO) :: all w2):=St.B7 (h.pick 3 [2,0,1]) hmr
  refine (aN (us:=cH ro.2) aQ (rfl:aj Ty _ = .slice _) (rfl:aj Ty _ = .slice _) rfl rfl rfl (h6.pick 4 [2,0,1,3]) rfl (by simp [aV,dO]) (by show (ro.2.length + 1) * 40<=_; omega) (by omega)).mono ?_
  rintro _ w11 ⟨o4,c4,rfl,h⟩
  have h7:=St.Fw (n:=q) (M:=rows.map (dp 3 cH)) (by rw [WE]; omega) (h.pick 4 [0,2,1,3])
  refine ⟨_,_,_,rfl,⟨aU 3 h7.l,ai 2 h7.l⟩,aw rfl hbq2 ?_⟩
  rw [aL]
  refine bj (h7.pick 3 [2,0]) (by rw [WE]; omega) λw12 h=>?_
  refine ⟨⟨by omega,by omega⟩,⟨i + 1,rows.set q ((o4,c4),ro.2 ++ [b]),by simp,h1,by simp [hrl],λq' ro' hro'=>?_,?_⟩,bx h1⟩
  ·rw [Wz,hbi]
   show ro'.2 = Se (bs.take i ++ [b]) q'
   rw [P3,hbq1]
   rw [XA] at hro'
   by_cases e:q = q'
   ·subst e
    rw [WJ rfl,WJ (by omega)] at hro'
    cases hro'
    rw [WJ rfl,hroq]
   ·rw [WB e] at hro'
    rw [WB (by omega)]
    exact hro q' ro' hro'
  ·rw [Xy,Xy]
   have e1:dO (((o4,c4),ro.2 ++ [b]):Lq gW) = .slice o4 (ro.2.length + 1) c4:=by unfold dO; simp
   have e2:dp 3 cH (((o4,c4),ro.2 ++ [b]):Lq gW) = own 3 o4 (ro.2.length + 1) c4 (cH ro.2 ++ [.int .i64 (q:Int),.int .i64 b.1.2,dO b.2]):=by
    unfold dp
    rw [A9]
    simp [cH,O2,hbq1]
   rw [e1,e2]
   exact h
 have h1:i = bs.length:=by have:=Ws h1; omega
 subst h1
 rw [WT] at hro
 obtain ⟨H,hl,h0⟩:=wy [] (M:=aK k5 (rows.map dO) :: aG (rows.map (dp 3 cH)) :: all w2) h.l
 have hH:sub H (hp w4):=h0.1
 have g2H:sub (hp w2) H:=aU 2 hl
 have r5:av H (aM k5) (rows.map dO):=ai 0 hl
 have rrow:∀ (q:Nat) ro,rows[q]? = some ro->a_ H (M4 (bq g nn ss) q) ro.1.1 (M4 (bq g nn ss) q).length/\ro.2.length = (M4 (bq g nn ss) q).length:=λq ro hrq=>by
  have hmr:(rows.map (dp 3 cH))[q]? = some (dp 3 cH ro):=by rw [Wx,hrq]; rfl
  obtain ⟨h3,hs3,ho3⟩:=uh (bw hl) hmr
  have hrv:eJ ro.1.1 (cH ro.2) H:=eJ.mono hs3 (fB 0 (yT ho3))
  have e:=hro q ro hrq
  have e2:ro.2.map jd = M4 (bq g nn ss) q:=by rw [e,Ue,hbs]
  have e3:ro.2.length = (M4 (bq g nn ss) q).length:=by rw [<- e2]; simp
  have hr3:=LI hrv λd hd=>(hLt2 d (by rw [e] at hd; exact (W9.1 hd).1)).mono g2H
  rw [e2,e3] at hr3
  exact ⟨hr3,e3⟩
 have gw4:=gw2.trans s4
 have hcn:∀ n,n<=ss.length->(iq g nn ss 1 n).length<=16640:=λn hn=>by
  have h1:=zy (g:=g) (nn:=nn) (ss:=ss) (least:=1) (n:=n)
  have h2:n * g.T<=256 * 65:=Yg (by omega) sT
  omega
 clear h hl h0
 refine ⟨λo n c z w'=>∃ (q:Nat) (ds:List rK),z = q/\q<=ss.length/\n = ds.length/\ds.map rq = iq g nn ss 1 q/\St w' (own 3 o n c (vg ds) :: aG (oQ ds) :: all w4),λ_ _ _ z _=>ss.length - z.toNat,⟨0,[],rfl,WC _,rfl,rfl,az 3 ((St.flat (M:=[])).2 (St.all w4))⟩,?_⟩
 rintro _ o5 _ c5 _ w13 ⟨q,ds,rfl,hq,rfl,hds,h⟩
 have s13:Gr w4 w13:=aU 2 h.l
 refine ⟨_,_,_,rA.cell0 (s4.trans s13),ae (λh1=>?_) λh1=>?_⟩
 rotate_left
 ·have h1:q = ss.length:=by have:=Ws h1; omega
  subst h1
  exact ⟨_,_,ds,rfl,hds,St.KM h (bC gw4)⟩
 have h1:q < ss.length:=by have:=Wr h1; omega
 have hcq:=hcn q hq
 obtain ⟨ro,hrq⟩ : ∃ ro,rows[q]? = some ro:=⟨_,Wv (by omega)⟩
 obtain ⟨rr,hrrl⟩:=rrow q ro hrq
 have hsl:(rows.map dO)[q]? = some (.slice ro.1.1 (M4 (bq g nn ss) q).length ro.1.2):=by rw [Wx,hrq,<- hrrl]; rfl
 refine ⟨λo n c z w'=>∃ (t:Nat) (ds:List rK),z = t/\t<=g.T/\n = ds.length/\ds.map rq = iq g nn ss 1 q ++ im g nn ss 1 q t/\St w' (own 3 o n c (vg ds) :: aG (oQ ds) :: all w4),λ_ _ _ z _=>g.T - z.toNat,⟨0,ds,rfl,WC _,rfl,by rw [hds]; simp [im],h⟩,?_⟩
 clear h hds
 rintro _ o7 _ c7 _ w14 ⟨t,ds,rfl,htle,rfl,hds,h⟩
 have hdl:ds.length<=17000:=by
  have e:=congrArg List.length hds
  rw [WE,WA] at e
  have:=zx (g:=g) (nn:=nn) (ss:=ss) (least:=1) (q:=q) (n:=t)
  omega
 have s14:Gr w4 w14:=aU 2 h.l
 refine ⟨_,_,_,Bx.c0 (g12.trans (s4.trans s14)),ae (λh2=>?_) λh2=>?_⟩
 rotate_left
 ·have h2:t = g.T:=by have:=Ws h2; omega
  subst h2
  rw [<- pX] at hds
  exact ⟨⟨by omega,by omega⟩,⟨q + 1,ds,by simp,h1,rfl,hds,h⟩,bx h1⟩
 have h2:t < g.T:=by have:=Wr h2; omega
 intro w15 hd
 have h:=h.drawn hd
 have s15:Gr w4 w15:=aU 2 h.l
 have s215:Gr w2 w15:=s4.trans s15
 have sH:sub H (hp w15):=sub.trans hH s15
 refine ⟨λu=>Gr w15 u,Gr.refl _,_,_,_,_,_,_,_,_,_,_,_,_,_,λu s=>Bx.row ((g12.trans s215).trans s),_,_,_,_,_,λu s=>rA.at (s215.trans s) rfl,aw rfl h1 ⟨_,_,_,λu s=>r5.cell (sub.trans sH s) hsl,(MS hc hA hb (hg2.mono s215) (ha2.mono s215) h1 h2 (rr.mono sH) rfl).mono ?_⟩⟩
 rintro _ w19 ⟨o15,c15,rfl,hac⟩
 have h19:=hac.qk h.l
 refine ⟨_,_,_,rfl,hac.aZ,?_⟩
 clear hac h
 have hel:1<=(cP g nn ss q t).length->im g nn ss 1 q (t + 1) = im g nn ss 1 q t ++ [⟨(q:Int),(t:Int),cP g nn ss q t⟩]:=λh3=>by
  rw [js]
  unfold cellAt
  rw [WJ h3]
 refine ae (λh3=>?_) λh3=>?_
 ·have h3:1<=(cP g nn ss q t).length:=by have:=Wr h3; omega
  refine ah h19 λk35 w20 h=>(aN (us:=vg ds) aQ (rfl:aj Ty _ = .slice _) (rfl:aj Ty _ = .slice _) rfl rfl rfl (h.pick 4 [0,2,1,3]) rfl (by simp [aV]) (by show (ds.length + 1) * 40<=_; omega) (by omega)).mono ?_
  rintro _ w21 ⟨o16,c16,rfl,h⟩
  refine ⟨_,_,_,rfl,⟨by omega,by omega⟩,⟨t + 1,ds ++ [(((q:Int),(t:Int)),((o15,c15),cP g nn ss q t))],by simp,h2,by simp,?_,?_⟩,bx h2⟩
  ·rw [WZ,hds,hel h3,WG]
   rfl
  ·rw [Gi,show oQ (ds ++ [(((q:Int),(t:Int)),((o15,c15),cP g nn ss q t))]) = oQ ds ++ [own 2 o15 (cP g nn ss q t).length c15 (ng (cP g nn ss q t))] by unfold oQ; rw [WZ]; rfl]
   have h4:St w21 (own 2 o15 (cP g nn ss q t).length c15 (ng (cP g nn ss q t)) :: aG (oQ ds) :: own 3 o16 (ds.length + 1) c16 (vg ds ++ Lx (((q:Int),(t:Int)),((o15,c15),cP g nn ss q t))) :: all w4):=h.pick 4 [2,3,0]
   exact (St.snoc h4).swap
 ·have h3:¬ 1<=(cP g nn ss q t).length:=by have:=Ws h3; omega
  refine ⟨⟨by omega,by omega⟩,⟨t + 1,ds,by simp,h2,rfl,?_,h19.tail⟩,bx h2⟩
  rw [js,show cellAt g nn ss 1 q t = [] by unfold cellAt; rw [WB h3],W2]
  exact hds
variable {w:YC} {L:List ay} {g:af} {x:GA}
/-- what lies there by itself,as it is read -/
theorem Ve {A B:ay} (h:St w (A :: B :: L)):∃ H,aC [A,B] H/\St w (has H :: L):=by
 obtain ⟨h1,h2,d,s1,s2,ha,hl⟩:=(St.flat (M:=[A,B])).2 h
 exact ⟨h1,ha,h1,h2,d,s1,s2,sub.refl _,hl⟩
def P4 (least:Nat) (g:af) (w:YC) (v:Value) (w' : YC):Prop:=∃ (ss:List SQ) (ask int f:Int) (nn:List Bool) (o:YB) (c:Nat) (H:Hp),v = .tuple #[.slice o (cE g nn ss least).length c,.int .i64 f]/\qY g ss ask int f/\(f = 0->jb g nn)/\a_ H (cE g nn ss least) o (cE g nn ss least).length/\St w' [has H,has (hp w)]
theorem Vf {h0:Hp} (s:sub h0 (hp w)):St w [has λ_=>none,has h0]:=⟨λ_=>none,hp w,λ_=>.inl rfl,λ_ _ h=>(nomatch h),sub.refl _,sub.refl _,bC s⟩
theorem C7 (hg:gR (hp w) g x) (hb:ik g):aA Tryz.prog rC [.agg ⟨x.cells⟩] w (P4 1 g w):=by
 refine oK (cN hg λk1 w1 gw hg1 B=>?_)
 refine ⟨_,_,_,_,_,_,_,_,_,_,_,_,_,B.row (sub.refl _),(Hm hg1 hb).mono ?_⟩
 rintro _ w2 ⟨⟨r,rfl,hr⟩,g12⟩
 refine ⟨_,rfl,ae (λh1=>?_) λh1=>?_⟩
 ·have hn:¬ ak g:=λh=>by rw [hr.2 h] at h1; cases h1
  exact ⟨[],0,0,1,[],none,0,_,rfl,.inl ⟨hn,rfl,rfl,rfl,rfl⟩,λh=>absurd h (by decide),a_.nil,Vf (gw.trans g12)⟩
 refine ⟨_,_,_,_,_,_,_,_,_,_,_,_,_,B.row g12,(HM (hg1.mono g12) hb).mono ?_⟩
 rintro _ w3 ⟨oA,cA,ss,ask,int,f,rfl,hR,h3⟩
 have g23:Gr w2 w3:=aU 3 h3.l
 have ha:xE (hp w3) ss oA:=ui h3.l
 clear h3
 refine ⟨_,_,_,_,_,_,rfl,ah (St.all w3) λk20 w4 h=>bu h rfl (by simp [aV]) λw5 h=>?_⟩
 have g35:Gr w3 w5:=h.aZ
 have r20:av (hp w5) (aM k20) [.slice oA ss.length cA,.int .i64 ask,.int .i64 int]:=ai 0 h.l
 clear h
 have g15:Gr w1 w5:=g12.trans (g23.trans g35)
 refine ae (λh1=>?_) λh1=>?_
 ·have h1:f≠0:=by simpa using h1
  have hz:=hR.nil h1
  subst hz
  exact ⟨[],ask,int,f,[],none,0,_,rfl,hR,λh=>absurd h h1,a_.nil,Vf (gw.trans g15)⟩
 have h1:f = 0:=by simpa using h1
 subst h1
 obtain ⟨hc,hA⟩:=hR.Mv rfl
 have hg5:=hg1.mono g15
 have ha5:=ha.mono g35
 intro w6 hd
 have g56:Gr w5 w6:=Gr.drawn hd
 refine ⟨λu=>Gr w5 u,g56,_,_,_,_,_,_,_,_,_,_,_,_,_,λu s=>B.row (g15.trans s),_,_,_,_,_,λu s=>r20.at s rfl,_,_,_,_,_,_,_,_,_,_,_,_,_,λu s=>B.row (g15.trans s),_,_,_,_,_,λu s=>r20.at s rfl,(Ub hc hA hb (hg5.mono g56) (ha5.mono g56)).mono ?_⟩
 rintro _ w7 ⟨d,ns,F,H,rfl,hns,hI,hH,hV,hC,h⟩
 have gH7:sub H (hp w7):=aU 1 h.l
 have g57:Gr w5 w7:=g56.trans (sub.trans hH gH7)
 refine ⟨_,rfl,g57,(MQ hc hA hns hI hV hC h).mono ?_⟩
 rintro _ w8 ⟨oL,cL,bs,rfl,hbs,h⟩
 have gH8:sub H (hp w8):=aU 3 h.l
 have g58:Gr w5 w8:=g56.trans (sub.trans hH gH8)
 have hL:eJ oL (cH bs) (hp w8):=fB 0 h.l
 have hLt:∀ b∈bs,a_ (hp w8) b.2.2 b.2.1.1 b.2.2.length:=λb hb'=>by
  obtain ⟨i,hi⟩:=W3 hb'
  exact V8 (h.pick 4 [1,0,2,3]) hi
 clear h
 refine ⟨_,_,_,rfl,g58,(Uf hc hA hb (hg5.mono g58) (ha5.mono g58) hL hLt hbs).mono ?_⟩
 rintro _ w9 ⟨o,c,ds,rfl,hds,h⟩
 have g59:Gr w5 w9:=g58.trans (aU 2 h.l)
 obtain ⟨H',hH',h⟩:=Ve h
 have r:a_ H' (ds.map rq) o ds.length:=Gk (fB 0 hH') λd hd=>by
  obtain ⟨i,hi⟩:=W3 hd
  have hA:(oQ ds)[i]? = some (dp 2 ng d.2):=by unfold oQ; rw [Wx,hi]; rfl
  obtain ⟨h3,hs3,ho3⟩:=uh (bw hH') hA
  exact (Bb rfl (fB 0 (yT ho3))).mono hs3
 have e:ds.length = (cE g ns ss 1).length:=by rw [<- hds]; simp
 rw [hds,e] at r
 exact ⟨_,_,_,rfl,g59,ss,ask,int,0,ns,o,c,H',by rw [e],hR,λ_=>hns,r,St.qk h (bC (gw.trans (g15.trans g58)))⟩
theorem Iw (hg:gR (hp w) g x) (hb:ik g):aA Tryz.prog qd [.agg ⟨x.cells⟩] w (P4 2 g w):=by
 refine nj (cN hg λk1 w1 gw hg1 B=>?_)
 refine ⟨_,_,_,_,_,_,_,_,_,_,_,_,_,B.row (sub.refl _),(C7 hg1 hb).mono ?_⟩
 rintro _ w2 ⟨ss,ask,int,f,nn,o,c,H,rfl,hR,hn,r,h⟩
 have hle:=Gl (l:=1) (nn:=nn) hR
 refine ⟨_,_,_,_,rfl,(PL r h.has (by omega)).mono ?_⟩
 rintro _ w3 ⟨o',c',ds,rfl,hds,hdr,h3⟩
 rw [Py] at hds
 have e:ds.length = (cE g nn ss 2).length:=by rw [<- hds]; simp
 obtain ⟨H',hH',h4⟩:=Ve (St.qk h3 h.l)
 have r2:a_ H' (ds.map rq) o' ds.length:=Gk (fB 0 hH') λd hd=>(hdr d hd).mono (jf (bw hH'))
 rw [hds,e] at r2
 exact ⟨_,_,_,rfl,ss,ask,int,f,nn,o',c',H',by rw [e],hR,hn,r2,St.qk h4 (bC gw)⟩
theorem Kj {q t:Int} (hg:gR (hp w) g x) (hb:ik g):aA Tryz.prog rD [.agg ⟨x.cells⟩,.int .i64 q,.int .i64 t] w λv w'=>∃ (ss:List SQ) (ask int f e:Int) (nn:List Bool) (o:YB) (c:Nat) (acts:List bS),v = .tuple #[.slice o acts.length c,.int .i64 e]/\qY g ss ask int f/\(f = 0->jb g nn)/\ML g nn ss f q t e acts/\a_ (hp w') acts o acts.length/\Gr w w':=by
 refine oN (cN hg λk1 w1 gw hg1 B=>?_)
 refine ⟨_,_,_,_,_,_,_,_,_,_,_,_,_,B.row (sub.refl _),(C7 hg1 hb).mono ?_⟩
 rintro _ w2 ⟨ss,ask,int,f,nn,o,c,H,rfl,hR,hn,rH,hH⟩
 have r:=rH.mono hH.has
 have g12:Gr w1 w2:=aU 1 hH.l
 clear rH hH
 refine ⟨_,_,_,_,rfl,ae (λh1=>?_) λh1=>?_⟩
 ·have h1:f≠0:=by simpa using h1
  exact ⟨ss,ask,int,f,f,nn,none,0,[],rfl,hR,hn,.inl ⟨h1,rfl,rfl⟩,a_.nil,gw.trans g12⟩
 have h1:f = 0:=by simpa using h1
 subst h1
 refine ⟨_,_,_,_,_,_,_,_,_,_,_,_,_,B.row g12,(HM (hg1.mono g12) hb).mono ?_⟩
 rintro _ w3 ⟨oA,cA,ss2,ask2,int2,f2,rfl,hR2,h3⟩
 have g23:Gr w2 w3:=aU 3 h3.l
 clear h3
 have hsl:ss2.length = ss.length:=(hR.one hR2).2.2.2.2.2.symm
 refine ⟨_,_,_,_,_,_,rfl,ah (St.all w3) λk22 w4 h=>bu h rfl (by simp [aV]) λw5 h=>?_⟩
 have g35:Gr w3 w5:=h.aZ
 have r22:av (hp w5) (aM k22) [.slice oA ss2.length cA,.int .i64 ask2,.int .i64 int2]:=ai 0 h.l
 clear h
 rw [hsl] at r22
 have g15:Gr w1 w5:=g12.trans (g23.trans g35)
 have tl:=hg1.t.1
 have eT:g.T = g.terms.length:=rfl
 have gw5:=gw.trans g15
 have r5:=r.mono (g23.trans g35)
 refine ⟨λb u=>u = w5/\b = decide (q < 0\/(ss.length:Int)<=q\/t < 0\/(g.T:Int)<=t),ae (λh1=>?_) λh1=>⟨_,_,_,r22.cell0 (sub.refl _),ae (λh2=>?_) λh2=>ae (λh3=>?_) λh3=>⟨_,_,_,B.c0 g15,?_⟩⟩,?_⟩
 ·exact ⟨rfl,(W4 (.inl (Wr h1))).symm⟩
 ·exact ⟨rfl,(W4 (.inr (.inl (Wr h2)))).symm⟩
 ·exact ⟨rfl,(W4 (.inr (.inr (.inl (Wr h3))))).symm⟩
 ·have h1:=Ws h1
  have h2:=Ws h2
  have h3:=Ws h3
  refine ⟨rfl,decide_eq_decide.2 ⟨λh=>.inr (.inr (.inr (by omega))),λh=>by omega⟩⟩
 rintro _ b u ⟨rfl,rfl⟩
 refine ae (λh1=>?_) λh1=>?_
 ·exact ⟨ss,ask,int,0,1,nn,none,0,[],rfl,hR,hn,.inr (.inl ⟨rfl,Wr h1,rfl,rfl⟩),a_.nil,gw5⟩
 have h1:=Ws h1
 obtain ⟨i,rfl⟩ : ∃ i:Nat,q = i:=⟨q.toNat,by omega⟩
 obtain ⟨j,rfl⟩ : ∃ j:Nat,t = j:=⟨t.toNat,by omega⟩
 have hi:i < ss.length:=by omega
 have hj:j < g.T:=by omega
 have hle:=Gl (l:=1) (nn:=nn) hR
 obtain ⟨C,hC⟩ : ∃ C,C = cE g nn ss 1:=⟨_,rfl⟩
 have hmem:∀ {z:fK},z∈C↔∃ q t:Nat,q < ss.length/\t < g.T/\1<=(cP g nn ss q t).length/\z = ⟨(q:Int),(t:Int),cP g nn ss q t⟩:=λ{z}=>by
  rw [hC]; exact zw
 rw [<- hC] at r5 hle ⊢
 refine ⟨λz w'=>∃ k:Nat,z = k/\k<=C.length/\(∀ y∈C.take k,¬(y.st = i/\y.tm = j))/\w' = u,λz _=>C.length - z.toNat,⟨0,rfl,WC _,λy hy=>by simp at hy,rfl⟩,?_⟩
 rintro _ _ w14 ⟨k,rfl,hk,hno,rfl⟩
 refine ae (λh2=>?_) λh2=>?_
 rotate_left
 ·have h2:k = C.length:=by have:=Ws h2; omega
  rw [h2,WT] at hno
  have:cP g nn ss i j = []:=by
   cases hh:cP g nn ss i j with
   | nil=>rfl
   | cons a l=>exact absurd ⟨rfl,rfl⟩ (hno _ (hmem.2 ⟨i,j,hi,hj,by rw [hh]; simp,rfl⟩))
  exact ⟨ss,ask,int,0,0,nn,none,0,[],rfl,hR,hn,.inr (.inr ⟨rfl,i,j,rfl,rfl,hi,hj,rfl,this.symm⟩),a_.nil,gw5⟩
 have h2:k < C.length:=by have:=Wr h2; omega
 obtain ⟨y,ad,b,d,hy,ha,ry,tt⟩:=yh r5 h2
 have next:¬(y.st = i/\y.tm = j)->ax ((k:Int) + 1)/\(∃ k' : Nat,(k:Int) + 1 = k'/\k'<=C.length/\(∀ y∈C.take k',¬(y.st = i/\y.tm = j))/\w14 = w14)/\C.length - ((k:Int) + 1).toNat < C.length - (k:Int).toNat:=λhne=>⟨⟨by omega,by omega⟩,⟨k + 1,by simp,h2,λz hz=>by
  rw [Wz,hy] at hz
  rcases Wy.1 hz with hz | hz
  ·exact hno z hz
  ·simp at hz; subst hz; exact hne,rfl⟩,bx h2⟩
 refine aq ha h2 ⟨_,ry.cell0 (sub.refl _),ae (λh3=>?_) λh3=>next λh=>by rw [h.1] at h3; simp at h3⟩
 refine aq ha h2 ⟨_,ry.cell (sub.refl _) (j:=1) rfl,ae (λh4=>?_) λh4=>next λh=>by rw [h.2] at h4; simp at h4⟩
 have h3:y.st = i:=by simpa using h3
 have h4:y.tm = j:=by simpa using h4
 obtain ⟨q',t',_,_,hlen,rfl⟩:=hmem.1 (Wu hy)
 have h3:(q' : Int) = i:=h3
 have h4:(t' : Int) = j:=h4
 obtain rfl:q' = i:=by omega
 obtain rfl:t' = j:=by omega
 exact aq ha h2 ⟨_,_,_,ry.cell (sub.refl _) (j:=2) rfl,ss,ask,int,0,0,nn,b,d,cP g nn ss q' t',rfl,hR,hn,.inr (.inr ⟨rfl,q',t',rfl,rfl,hi,hj,rfl,rfl⟩),tt,gw5⟩
end Go.Proofs.YtndaepmjkbmjmaaGreatDoor
namespace Go.V
theorem LK {ds:List rK} {i:Nat} {b:rK} (hb:ds[i]? = some b):(oQ ds)[i]? = some (dp 2 ng b.2):=by unfold oQ; rw [Wx,hb]; rfl
theorem LL {ds:List rK} {i:Nat} {b:rK}:(oQ ds).set i (dp 2 ng b.2) = oQ (ds.set i b):=by unfold oQ; rw [Xy]
theorem P5 {ds:List rK} {i:Nat} {b:rK} (hb:ds[i]? = some b) {xs:List bS} (hl:xs.length = b.2.2.length):vg (ds.set i (b.1,(b.2.1,xs))) = vg ds:=by
 have hi:=(Wt.1 hb).1
 unfold vg
 rw [<- C0 (f:=Lx) (n:=3) (λ_=>rfl) ds i _ hi]
 have e:Lx (b.1,(b.2.1,xs)) = Lx b:=by unfold Lx dO; rw [hl]
 rw [e,C0 (f:=Lx) (n:=3) (λ_=>rfl) ds i _ hi,xn hb]
theorem Vg {w:YC} {L:List ay} {n c i k:Nat} {o:YB} {ds:List rK} {b:rK} {y:bS} {X:YC->Prop} (hq:ds[i]? = some b) (hk:k < b.2.2.length) (h:St w (own 3 o n c (vg ds) :: aG (oQ ds) :: L))
  (hX:∀ w',St w' (own 3 o n c (vg (ds.set i (b.1,(b.2.1,b.2.2.set k y)))) :: aG (oQ (ds.set i (b.1,(b.2.1,b.2.2.set k y)))) :: L)->X w'):idx b.2.1.1 b.2.2.length (k:Int) 2 λa=>fL w a [.int .i64 y.kind,.int .i64 y.to] X:=by
 have hil:=(Wt.1 hq).1
 have h:=St.B7 (h.pick 2 [1,0]) (LK hq)
 have h:St w (own 2 b.2.1.1 b.2.2.length b.2.1.2 (ng b.2.2) :: aG ((oQ ds).take i ++ (oQ ds).drop (i + 1)) :: own 3 o n c (vg ds) :: L):=h
 obtain ⟨ad,ha⟩:=nR h (by rw [Gd]; omega)
 refine aq ha hk ?_
 rw [aJ]
 refine xt (i:=k * 2) h ha (by rw [Gd]; simp; omega) (by simp [aV]) (by simp) λw' h=>hX w' ?_
 have e:=C0 (f:=u_) (n:=2) (λ_=>rfl) b.2.2 k y hk
 have h:St w' (own 2 b.2.1.1 b.2.2.length b.2.1.2 ((b.2.2.flatMap u_).take (k * 2) ++ u_ y ++ (b.2.2.flatMap u_).drop (k * 2 + 2)) :: aG ((oQ ds).take i ++ (oQ ds).drop (i + 1)) :: own 3 o n c (vg ds) :: L):=h
 rw [e] at h
 rw [P5 hq (by simp),<- LL]
 have e3:dp 2 ng (b.2.1,b.2.2.set k y) = own 2 b.2.1.1 b.2.2.length b.2.1.2 ((b.2.2.set k y).flatMap u_):=by unfold dp; rw [W1]; rfl
 rw [<- e3] at h
 exact (St.Fw (M:=oQ ds) (n:=i) (by unfold oQ; rw [WE]; exact hil) h).swap
end Go.V
namespace Go.Proofs.YtndaepmjkbmjmaaGreatDoor
variable {w:YC} {L:List ay} {g:af} {x:GA}
theorem MT {o:YB} {c:Nat} {ds:List rK} (h:St w (own 3 o ds.length c (vg ds) :: aG (oQ ds) :: L)) (hn:ds.length<=100000) (hB:∀ d∈ds,d.2.2.length<=4611686018427387904) :
  aA Tryz.prog tP [.slice o ds.length c] w λv w'=>v = .tuple #[]/\St w' L:=by
 obtain ⟨n,hnl⟩ : ∃ n,n = ds.length:=⟨_,rfl⟩
 rw [<- hnl] at h hn ⊢
 refine pZ ⟨λz w'=>∃ (i:Nat) (ds:List rK),z = i/\i<=n/\ds.length = n/\(∀ d∈ds,d.2.2.length<=4611686018427387904)/\St w' (own 3 o n c (vg ds) :: aG (oQ ds) :: L),λz _=>n - z.toNat,⟨0,ds,rfl,WC _,hnl.symm,hB,h⟩,?_⟩
 clear h hB
 rintro _ _ w1 ⟨i,ds,rfl,hi,hl,hB,h⟩
 refine ae (λh1=>?_) λh1=>⟨rfl,h.pick 2 []⟩
 have h1:i < n:=by have:=Wr h1; omega
 obtain ⟨b0,hb0⟩ : ∃ b,ds[i]? = some b:=⟨_,Wv (by omega)⟩
 obtain ⟨m,hm⟩ : ∃ m,m = b0.2.2.length:=⟨_,rfl⟩
 refine ⟨λz w'=>∃ (k:Nat) (ds:List rK) (b:rK),z = k/\k<=m/\ds.length = n/\(∀ d∈ds,d.2.2.length<=4611686018427387904)/\ds[i]? = some b/\b.2.2.length = m/\St w' (own 3 o n c (vg ds) :: aG (oQ ds) :: L),λz _=>m - z.toNat,⟨0,ds,b0,rfl,WC _,hl,hB,hb0,hm.symm,h⟩,?_⟩
 have hm2:=hB b0 (Wu hb0)
 clear h hB hl hb0
 rintro _ _ w2 ⟨k,ds,b,rfl,hk,hl,hB,hb,hbm,h⟩
 obtain ⟨ad,rfl,r⟩:=T7 h hb
 refine aq rfl h1 ⟨_,_,_,r.cell (sub.refl _) (j:=2) rfl,ae (λh2=>?_) λh2=>?_⟩
 ·have h2:k < b.2.2.length:=by have:=Wr h2; omega
  refine aq rfl h1 ⟨_,_,_,r.cell (sub.refl _) (j:=2) rfl,Vg (y:=⟨-1,-1⟩) hb h2 h λw3 h=>?_⟩
  refine ⟨⟨by omega,by omega⟩,⟨k + 1,_,(b.1,(b.2.1,b.2.2.set k ⟨-1,-1⟩)),by simp,by omega,by rw [W1,hl],λd hd=>?_,X_ (Wt.1 hb).1,by simp [hbm],h⟩,bx (by omega)⟩
  rcases Yb hd with hd | rfl
  ·exact hB d hd
  ·simp only [W1]; omega
 ·refine aq rfl h1 ?_
  rw [aJ]
  have hil:=(Wt.1 hb).1
  refine xt (i:=i * 3) h rfl (by rw [Gh]; simp; omega) (by simp [aV]) (by simp) λw4 h=>?_
  have e:=C0 (f:=Lx) (n:=3) (λ_=>rfl) ds i ((-9,0),((none,0),[])) hil
  have h:St w4 (own 3 (some ad) n c ((ds.flatMap Lx).take (i * 3) ++ Lx ((-9,0),((none,0),[])) ++ (ds.flatMap Lx).drop (i * 3 + 3)) :: aG (oQ ds) :: L):=h
  rw [e] at h
  refine ⟨⟨by omega,by omega⟩,⟨i + 1,ds.set i ((-9,0),((none,0),[])),by simp,h1,by rw [W1,hl],λd hd=>?_,?_⟩,bx h1⟩
  ·rcases Yb hd with hd | rfl
   ·exact hB d hd
   ·simp
  ·have h:=St.B7 (h.pick 2 [1,0]) (LK hb)
   have h:=az 2 h.tail
   rw [<- LL]
   exact (St.Fw (M:=oQ ds) (n:=i) (A:=dp 2 ng ((none,0),[])) (by unfold oQ; rw [WE]; exact hil) h).swap
theorem P6 {ss ss' : List SQ} {nn nn' : List Bool} {a i f a' i' f' q t e e' : Int} {acts acts' : List bS} (hR:qY g ss a i f) (hn:f = 0->jb g nn) (hA:ML g nn ss f q t e acts) (hR' : qY g ss' a' i' f') (hn' : f' = 0->jb g nn') (hA' : ML g nn' ss' f' q t e' acts'):e' = e/\acts' = acts:=by
 obtain ⟨rfl,_,ha,hl⟩:=C3 hR hn hR' hn'
 rcases hA with ⟨h1,rfl,rfl⟩ | ⟨h1,h2,rfl,rfl⟩ | ⟨h1,i,j,hi,hj,h3,h4,rfl,rfl⟩ <;> rcases hA' with ⟨k1,rfl,rfl⟩ | ⟨k1,k2,rfl,rfl⟩ | ⟨k1,i',j',hi',hj',k3,k4,rfl,rfl⟩
 ·exact ⟨rfl,rfl⟩
 ·exact absurd k1 h1
 ·exact absurd k1 h1
 ·exact absurd h1 k1
 ·exact ⟨rfl,rfl⟩
 ·omega
 ·exact absurd h1 k1
 ·omega
 ·obtain rfl:i' = i:=by omega
  obtain rfl:j' = j:=by omega
  exact ⟨rfl,ha h1 _ _⟩
theorem C8 (hg:gR (hp w) g x) (hb:ik g) (hbT:g.terms.length * 24<=140737488355328) (hbN:g.nons.length * 16<=140737488355328) (ht:eF (hp w)):aA Tryz.prog kF [.agg ⟨x.cells⟩] w λv w'=>v = .bool true/\Gr w w':=by
 refine jS (cN hg λk1 w1 gw hg1 B=>?_)
 refine ⟨_,_,_,_,_,_,_,_,_,_,_,_,_,B.row (sub.refl _),(PM hg1 hb hbT hbN).mono ?_⟩
 rintro _ w2 ⟨y,rfl,hy,g12⟩
 refine ⟨_,_,_,_,_,_,_,_,_,_,_,_,_,rfl,ah (St.all w2) λk18 w3 h=>bu h rfl (by intro v hv; simp at hv; rcases hv with rfl | rfl | rfl | rfl | rfl <;> rfl) λw4 h=>?_⟩
 have g24:Gr w2 w4:=h.aZ
 have B2:GB (hp w4) k18 y:=KT (ai 0 h.l)
 clear h
 have g14:=g12.trans g24
 refine ⟨_,_,_,_,_,_,_,_,_,_,_,_,_,B2.row (sub.refl _),(EM (hy.mono g24) hb (eJ.mono (gw.trans g14) ht)).mono ?_⟩
 rintro _ w5 ⟨ss,ask,int,f,nn,o,c,ds,rfl,hR,hn,hds,h⟩
 have g45:Gr w4 w5:=aU 2 h.l
 refine ⟨_,_,_,_,rfl,_,_,_,_,_,_,_,_,_,_,_,_,_,B.row (g14.trans g45),(Iw (hg1.mono (g14.trans g45)) hb).mono ?_⟩
 rintro _ w6 ⟨ss2,ask2,int2,f2,nn2,o2,c2,H,rfl,hR2,hn2,r2,h6⟩
 obtain ⟨rfl,hc2,_,_⟩:=C3 hR hn hR2 hn2
 rw [hc2] at r2
 rw [hc2]
 have h:=St.qk h6 h.l
 have hle:=Gl (l:=2) (nn:=nn) hR
 have hdl:ds.length = (cE g nn ss 2).length:=by rw [<- hds]; simp
 have hac:=RY (nn:=nn) (ss:=ss) (l:=2) hb
 have hac' : ∀ d∈ds,d.2.2.length<=4611686018427387904:=λd hd=>hac (rq d) (by rw [<- hds]; exact List.mem_map_of_mem hd)
 refine ⟨_,_,_,_,rfl,λb u=>b = false/\St u (has H :: own 3 o ds.length c (vg ds) :: aG (oQ ds) :: all w4),Ma (by simp) ((LB (T6 (h.pick 3 [1,2])) (r2.mono h.has) (by omega) (by rw [hds]; exact hac)).mono ?_),?_⟩
 ·rintro _ w7 ⟨rfl,g67⟩
  exact ⟨_,rfl,by simp [hds],h.gr g67⟩
 clear h h6
 rintro _ _ w8 ⟨rfl,h⟩
 refine Ma rfl ((MT (h.pick 3 [1,2,0]) (by omega) hac').mono ?_)
 rintro _ w9 ⟨rfl,h9⟩
 have g49:Gr w4 w9:=aU 1 h9.l
 have r9:=r2.mono h9.has
 have hy9:=hy.mono (g24.trans g49)
 have g19:=g14.trans g49
 have hgy:=hg1.mono g19
 clear h h9
 refine ⟨rfl,_,_,_,_,_,_,_,_,_,_,_,_,_,B2.row g49,(EN hy9 hb (eJ.mono (gw.trans g19) ht)).mono ?_⟩
 rintro _ w10 ⟨ss3,ask3,int3,f3,nn3,o3,c3,rfl,hR3,hn3,r3,g90⟩
 obtain ⟨rfl,hc3,_,_⟩:=C3 hR hn hR3 hn3
 rw [hc3] at r3
 rw [hc3]
 refine ⟨_,_,_,_,rfl,yO (by simp) ((LB r3 (r9.mono g90) (by omega) hac).mono ?_)⟩
 rintro _ w11 ⟨rfl,g01⟩
 have g91:=g90.trans g01
 refine ⟨_,rfl,yO (by simp) ⟨_,_,_,_,_,_,_,_,_,_,_,_,_,B2.row (g49.trans g91),_,_,_,_,_,_,_,_,_,_,_,_,_,B.row (g19.trans g91),(N8 (hy9.mono g91) (hgy.mono g91) hb).mono ?_⟩⟩
 rintro _ w12 ⟨rfl,g12'⟩
 have gw12:=gw.trans (g19.trans (g91.trans g12'))
 refine ⟨_,rfl,yO rfl ((EO (eJ.mono gw12 ht)).mono ?_)⟩
 rintro _ w13 ⟨rfl,g13⟩
 exact ⟨_,rfl,rfl,gw12.trans g13⟩
theorem Ix {q t:Int} (hg:gR (hp w) g x) (hb:ik g) (hbT:g.terms.length * 24<=140737488355328) (hbN:g.nons.length * 16<=140737488355328) (ht:eF (hp w)):aA Tryz.prog nh [.agg ⟨x.cells⟩,.int .i64 q,.int .i64 t] w λv w'=>v = .bool true/\Gr w w':=by
 refine lE (cN hg λk1 w1 gw hg1 B=>?_)
 refine ⟨_,_,_,_,_,_,_,_,_,_,_,_,_,B.row (sub.refl _),(PM hg1 hb hbT hbN).mono ?_⟩
 rintro _ w2 ⟨y,rfl,hy,g12⟩
 refine ⟨_,_,_,_,_,_,_,_,_,_,_,_,_,rfl,ah (St.all w2) λk18 w3 h=>bu h rfl (by intro v hv; simp at hv; rcases hv with rfl | rfl | rfl | rfl | rfl <;> rfl) λw4 h=>?_⟩
 have g24:Gr w2 w4:=h.aZ
 have B2:GB (hp w4) k18 y:=KT (ai 0 h.l)
 clear h
 have g14:=g12.trans g24
 refine ⟨_,_,_,_,_,_,_,_,_,_,_,_,_,B2.row (sub.refl _),(Ir (q:=q) (t:=t) (hy.mono g24) hb (eJ.mono (gw.trans g14) ht)).mono ?_⟩
 rintro _ w5 ⟨ss,ask,int,f,e,nn,o,c,acts,rfl,hR,hn,hA,r,g45⟩
 refine ⟨_,_,_,_,rfl,_,_,_,_,_,_,_,_,_,_,_,_,_,B.row (g14.trans g45),(Kj (q:=q) (t:=t) (hg1.mono (g14.trans g45)) hb).mono ?_⟩
 rintro _ w6 ⟨ss2,ask2,int2,f2,e2,nn2,o2,c2,acts2,rfl,hR2,hn2,hA2,r2,g56⟩
 obtain ⟨rfl,rfl⟩:=P6 hR hn hA hR2 hn2 hA2
 have hal:acts2.length<=4611686018427387904:=by
  rcases hA with ⟨_,_,rfl⟩ | ⟨_,_,_,rfl⟩ | ⟨_,i,j,_,_,_,_,_,rfl⟩
  ·simp
  ·simp
  ·have:=CV (g:=g) (nn:=nn) (ss:=ss) (q:=i) (t:=j)
   have:=hb.2.2.2.1
   omega
 refine ⟨_,_,_,_,rfl,yO (by simp) ((zH (r.mono g56) r2 hal).mono ?_)⟩
 rintro _ w7 ⟨rfl,g67⟩
 have g47:=g45.trans (g56.trans g67)
 refine ⟨_,rfl,yO (by simp) ⟨_,_,_,_,_,_,_,_,_,_,_,_,_,B2.row g47,_,_,_,_,_,_,_,_,_,_,_,_,_,B.row (g14.trans g47),(N8 (hy.mono (g24.trans g47)) (hg1.mono (g14.trans g47)) hb).mono ?_⟩⟩
 rintro _ w8 ⟨rfl,g78⟩
 have gw8:=gw.trans (g14.trans (g47.trans g78))
 refine ⟨_,rfl,yO rfl ((EO (eJ.mono gw8 ht)).mono ?_)⟩
 rintro _ w13 ⟨rfl,g13⟩
 exact ⟨_,rfl,rfl,gw8.trans g13⟩
end Go.Proofs.YtndaepmjkbmjmaaGreatDoor
namespace Go.V
open Go.RowKit Go.WideShapes Go.ChangeShapes
theorem Iy {w:YC} {a:Addr} {v:Value} (h:w.cell? a = some v):sy (hp w) a = some v:=by
 unfold World.cell? at h
 unfold sy hp
 cases ho:w.heap[a.block]? with
 | none=>rw [ho] at h; cases h
 | some o=>rw [ho] at h; cases o <;> first | exact h | cases h
theorem ES {α β : Type} {f:α->Option β}:∀ {l:List α} {r:List β},l.mapM f = some r->r.length = l.length/\∀ (i:Nat) (a:α) (b:β),l[i]? = some a->r[i]? = some b->f a = some b
 | [],r,h=>by
  simp at h; subst h; exact ⟨rfl,λi a b ha=>by simp at ha⟩
 | x :: l,r,h=>by
  simp only [List.mapM_cons,Option.bind_eq_bind,Option.bind_eq_some_iff,Option.pure_def,Option.some.injEq] at h
  obtain ⟨b,hb,r',hr',rfl⟩:=h
  obtain ⟨h1,h2⟩:=ES hr'
  refine ⟨by simp [h1],λi a b' ha hb'=>?_⟩
  cases i with
  | zero=>simp at ha hb'; subst ha; subst hb'; exact hb
  | succ i=>exact h2 i a b' (by simpa using ha) (by simpa using hb')
theorem MU {w:YC} {base n:Nat} {a:Addr} {vs:List Value} (h:w.cells? base a n = some vs):av (hp w) a vs:=by
 unfold World.cells? at h
 split at h
 ·obtain ⟨h1,h2⟩:=ES h
  intro j v hj
  have hlt:=(Wt.1 hj).1
  rw [h1,XN] at hlt
  exact Iy (h2 j j v (by simp [hlt]) hj)
 ·cases h
theorem tT {H:Type} {P:Program} {e:TypeId} {N:Nat}:∀ {l:List (DataW H)},(DataW.weightsAll P e l).all (·<=N) = true->∀ d∈l,(d.weights P e).all (·<=N) = true
 | [],_,d,hd=>by simp at hd
 | x :: l,h,d,hd=>by
  rw [DataW.weightsAll,List.all_append,WL] at h
  rcases WM.1 hd with rfl | hd
  ·exact h.1
  ·exact tT h.2 d hd
theorem gJ {H:Type} {P:Program} {N:Nat}:∀ {ts:List TypeId} {l:List (DataW H)},(DataW.weightsEach P ts l).all (·<=N) = true->∀ (i:Nat) t d,ts[i]? = some t->l[i]? = some d->(d.weights P t).all (·<=N) = true
 | [],l,_,i,t,d,ht,_=>by simp at ht
 | _ :: _,[],_,i,t,d,_,hd=>by simp at hd
 | t0 :: ts,x :: l,h,i,t,d,ht,hd=>by
  rw [DataW.weightsEach,List.all_append,WL] at h
  cases i with
  | zero=>simp at ht hd; subst ht; subst hd; exact h.1
  | succ i=>exact gJ h.2 i t d (by simpa using ht) (by simpa using hd)
def Kk (P:Program) (α : Type) [oP α] (bd:α->Prop) (t:TypeId):Prop :=
 ∀ {H:Type} (enc:TypeId × Value->H) (W:YC) (n:Nat) (cs:List Value) (x:DataW H × List MemPlace),DataW.trod enc P W 0 (λ_=>true) true n t cs = some x->(x.1.weights P t).all (·<=reachBytes) = true->∃ y:α,rd (hp W) y cs/\bd y
def anyS:ByteArray->Prop:=λs=>s.size<=reachBytes
def Kl {α : Type} (bytes:Nat) (bd:α->Prop):List α->Prop:=λxs=>xs.length * bytes<=reachBytes/\∀ x∈xs,bd x
section
variable {P:Program} {t e:TypeId}
theorem Sf (ht:P.underlying t = some (.int .i64)):Kk P Int anyI t:=by
 intro H enc W n cs x h hw
 obtain ⟨z,rfl,_,hwf⟩:=DataW.trod_int ht h
 refine ⟨z,rfl,?_⟩
 have:IntKind.i64.min<=z/\z<=IntKind.i64.max:=by simpa [Lit.wf] using hwf
 exact this
theorem Sg (ht:P.underlying t = some .string):Kk P ByteArray anyS t:=by
 intro H enc W n cs x h hw
 obtain ⟨z,rfl,rfl,_⟩:=DataW.trod_string ht h
 refine ⟨z,rfl,?_⟩
 simpa [DataW.weights,anyS] using hw
theorem uu {α : Type} [oP α] {bd:α->Prop} {bb:Nat} (ht:P.underlying t = some (.slice e)) (hc:P.cellsOf e = oP.n α) (hb:P.bytesOf e = bb) (he:Kk P α bd e):Kk P (List α) (Kl bb bd) t:=by
 intro H enc W n cs x h hw
 rcases DataW.trod_slice ht h with ⟨rfl,rfl⟩ | ⟨a,len,cap,elems,rest,m,rfl,rfl,rfl,_,hlc,hcm,hel,hg,_,_⟩
 ·exact ⟨[],⟨none,0,0,rfl,WO _,a_.nil⟩,by simp [reachBytes],λx hx=>by simp at hx⟩
 ·simp only [DataW.weights,ht,List.all_cons,List.all_append,WL,WH,WE] at hw
  obtain ⟨hw1,hw2,_⟩:=hw
  have key:∀ k,k<=len->∃ ys:List α,ys.length = k/\(∀ i y,ys[i]? = some y->∃ vs,av (hp W) (a.add (cY i (oP.n α))) vs/\rd (hp W) y vs)/\∀ y∈ys,bd y:=by
   intro k
   induction k with
   | zero=>exact λ_=>⟨[],rfl,λi y hy=>by simp at hy,λy hy=>by simp at hy⟩
   | succ k ih =>
    intro hk
    obtain ⟨ys,h1,h2,h3⟩:=ih (by omega)
    have hgk:=hg k (by omega)
    obtain ⟨d,hd⟩ : ∃ d,elems[k]? = some d:=⟨elems[k]'(by omega),Wv _⟩
    rw [hd,Option.bind_eq_some_iff] at hgk
    obtain ⟨vs,hv1,hv2⟩:=hgk
    obtain ⟨y,hy1,hy2⟩:=he enc W m vs d hv2 (tT hw2 _ (by
     have:=Wu hd
     exact List.mem_map_of_mem this))
    refine ⟨ys ++ [y],by simp [h1],λi z hz=>?_,λz hz=>?_⟩
    ·by_cases hi:i < k
     ·rw [WI (by omega)] at hz
      exact h2 i z hz
     ·have:i = k:=by
       have:=(Wt.1 hz).1
       simp at this; omega
      subst this
      rw [WK (by omega),h1,Xz] at hz
      cases hz
      refine ⟨vs,?_,hy1⟩
      rw [aJ,<- hc]
      exact MU hv1
    ·rcases Wy.1 hz with hz | hz
     ·exact h3 z hz
     ·simp at hz; subst hz; exact hy2
  obtain ⟨ys,h1,h2,h3⟩:=key len (WO _)
  refine ⟨ys,⟨some a,len,cap,rfl,hlc,h1,λi y hy=>?_⟩,?_,h3⟩
  ·obtain ⟨vs,h4,h5⟩:=h2 i y hy
   exact ⟨a,vs,rfl,h4,h5⟩
  ·rw [h1,<- hb,<- hel]
   exact W0 (X7 _ (Nat.le_add_right _ _)) hw1
theorem wA {fs:Array Field} (ht:P.underlying t = some (.struct fs)) {H:Type} {enc:TypeId × Value->H} {W:YC} {n:Nat} {cs:List Value} {x:DataW H × List MemPlace} (h:DataW.trod enc P W 0 (λ_=>true) true n t cs = some x) (hw:(x.1.weights P t).all (·<=reachBytes) = true) :
  cs.length = P.cellsOf t/\∀ (i:Nat) (f:Field) (ty k o:Nat),fs[i]? = some f->P.cellsOf ty = k->f.type = ty->f.offset = o->∃ (m:Nat) (d:DataW H × List MemPlace),DataW.trod enc P W 0 (λ_=>true) true m ty ((cs.drop o).take k) = some d/\(d.1.weights P ty).all (·<=reachBytes) = true:=by
 obtain ⟨xs,m,rfl,rfl,hl,hxs,hf⟩:=DataW.trod_struct ht h
 refine ⟨hl,?_⟩
 rintro i f _ _ _ hi rfl rfl rfl
 have hlt:=(Xg.1 hi).1
 obtain ⟨d,hd⟩ : ∃ d,xs[i]? = some d:=⟨xs[i]'(by omega),Wv _⟩
 refine ⟨m,d,by rw [hf i f hi,hd],?_⟩
 simp only [DataW.weights,ht] at hw
 exact gJ hw i f.type d.1 (by simp [hi]) (by simp [hd])
theorem Si {α : Type} [oP α] {bd:α->Prop} (ho:Kk P α bd t) {H:Type} {enc:TypeId × Value->H} {W:YC} {v:Value} {d:DataW H} {ps:List MemPlace} (h:DataW.Trod enc P W 0 (λ_=>true) true t v d ps)
  (hw:(d.weights P t).all (·<=reachBytes) = true):∃ y:α,rd (hp W) y v.cells.toList/\bd y:=by
 obtain ⟨n,h⟩:=h
 exact ho enc W n _ _ h hw
theorem LM {H:Type} {enc:TypeId × Value->H} {W:YC} {b:Nat} {v:Value} {d:DataW H} {ps:List MemPlace} (ht:P.underlying t = some (.int .i64)) (hval:Value.okWide P W .any b t v) (h:DataW.Trod enc P W 0 (λ_=>true) true t v d ps):∃ x:Int,v = .int .i64 x/\anyI x:=by
 obtain ⟨n,rfl,_,_,hwf⟩:=open_int ht hval h
 refine ⟨n,rfl,?_⟩
 have:IntKind.i64.min<=n/\n<=IntKind.i64.max:=by simpa [Lit.wf] using hwf
 exact this
theorem C9 {α : Type} [oP α] {bd:α->Prop} {fs:Array Field} (ho:Kk P α bd t) (ht:P.underlying t = some (.struct fs)) {H:Type} {enc:TypeId × Value->H} {W:YC} {b:Nat} {v:Value} {d:DataW H} {ps:List MemPlace}
  (hval:Value.okWide P W .any b t v) (h:DataW.Trod enc P W 0 (λ_=>true) true t v d ps) (hw:(d.weights P t).all (·<=reachBytes) = true):∃ (x:α) (cs:List Value),v = .agg ⟨cs⟩/\rd (hp W) x cs/\bd x:=by
 obtain ⟨x,hr,hb⟩:=Si ho h hw
 simp only [Value.okWide,ht] at hval
 obtain ⟨cs,rfl,_⟩:=hval
 exact ⟨x,cs.toList,rfl,hr,hb⟩
theorem P7 {w w' : YC} (h:Ev w w') (g:Gr w w'):Below w.heap.size w w':=by
 refine ⟨h.os,h.tape,h.output,h.size,λk hk=>?_⟩
 cases ho:w.heap[k]? with
 | none=>rw [Array.getElem?_eq_none_iff] at ho; omega
 | some o =>
  by_cases hd:Gw o = true
  ·have:hp w k = some o:=by unfold hp; rw [ho,Bh hd]
   exact nA (g k o this)
  ·cases o <;> first | exact absurd rfl hd | exact h.dfr _ _ ho
theorem vh (hl:laidOutB P = true) {H:Type} {enc:TypeId × Value->H} {W W' : YC} (hb:Below W.heap.size W W') {sp:Nat->Bool}:∀ {ts:List TypeId} {vs:List Value} {ds:List (DataW H)} {ps:List MemPlace},
  (ts.all λt=>P.readableRec t && decide (t < P.types.size)) = true->DataW.TrodAll enc P W 0 (λ_=>true) true ts vs ds ps->(∀ x∈ps,x.block < W.heap.size)->(∀ x∈ps,sp x.block = true) ->
  DataW.TrodAll enc P W' 0 sp true ts vs ds ps
 | [],[],[],ps,_,h,_,_=>h
 | [],_ :: _,_,_,_,h,_,_=>h.elim
 | [],[],_ :: _,_,_,h,_,_=>h.elim
 | _ :: _,[],_,_,_,h,_,_=>h.elim
 | _ :: _,_ :: _,[],_,_,h,_,_=>h.elim
 | t :: ts,v :: vs,d :: ds,ps,ht,h,hlt,hsp=>by
  obtain ⟨p,q,h1,h2,rfl⟩:=h
  rw [List.all_cons,WL,WL,WH] at ht
  exact ⟨p,q,WideElems.Trod_stays hl ht.1.1 ht.1.2 h1 (λx hx=>hb.same (hlt x (by simp [hx]))) (λx hx=>hsp x (by simp [hx])),vh hl hb ht.2 h2 (λx hx=>hlt x (by simp [hx])) (λx hx=>hsp x (by simp [hx])),rfl⟩
theorem Iz {H:Type} {enc:TypeId × Value->H} {s:ChangeSpec} {f:Func} {W W' : YC} {args:Array Value} {ds gs:List (DataW H)} {before:List MemPlace} {tb:TypeId} (hv:s.vars = []) (hrt:f.resultTypes = #[tb]) (htb:P.underlying tb = some .bool)
  (hsp:s.fn H (ds ++ gs) = { results:=[.lit (.bool true)],args:=ds }) (hl:laidOutB P = true) (hrd:(f.params.toList.all λt=>P.readableRec t && decide (t < P.types.size)) = true)
  (hW:DataW.Whole enc P f.params.toList s.vars false W args.toList ds gs before) (hE:Ev W W') (hg:Gr W W'):s.post enc P f false true false false W args (.bool true) W':=by
 have hb:=P7 hE hg
 have hlt:∀ p∈before,p.block < W.heap.size:=λp hp=>hW.lt p hp
 have hold:∀ p∈before,(λb=>decide (b < W.heap.size)) p.block = true:=λp hp=>by simpa using hlt p hp
 have hW':=hW
 obtain ⟨p,q,h1,h2,rfl,h3,h4⟩:=hW
 have hq:q = []:=by
  rw [hv] at h2
  cases gs with
  | nil=>exact h2
  | cons _ _=>exact h2.elim
 subst hq
 rw [W2] at *
 have hargs:∀ sp:Nat->Bool,(∀ x∈p,sp x.block = true)->DataW.TrodAll enc P W' 0 sp true f.params.toList args.toList (s.fn H (ds ++ gs)).args p:=λsp hs=>by
  rw [hsp]; exact vh hl hb hrd h1 hlt hs
 have hvars:∀ sp:Nat->Bool,DataW.TrodVars enc P W' sp s.vars (s.fn H (ds ++ gs)).vars []:=λsp=>by
  rw [hsp,hv]; exact rfl
 have hres:∀ (b:Nat) (sp:Nat->Bool) (hd:Bool),DataW.TrodAll enc P W' b sp hd f.resultTypes.toList ((Value.bool true).resultList f.resultTypes.size) (s.fn H (ds ++ gs)).results []:=λb sp hd=>by
  rw [hsp,hrt]; exact trodAll_cons_mk (shut_bool htb _) trodAll_mk0
 have hok:∀ (j:Nat) (t:TypeId) (r:Value),f.resultTypes[j]? = some t->((Value.bool true).resultList f.resultTypes.size)[j]? = some r->Value.okWide P W' .any 0 t r:=ok_one hrt rfl (okWide_bool_mk htb _)
 refine ⟨ds,gs,p,[],p,[],hW',hres _ _ _,hargs _ hold,hvars _,World.keptBut_mono (λx hx=>⟨hx,?_⟩) (hb.frame (·∈p)),λ_=>?_⟩
 ·exact Or.inr (by simpa using hx)
 ·refine ⟨hok,_,_,([] ++ p) ++ [],⟨[] ++ p,[],trodAll_append (hargs _ (λ_ _=>rfl)) (hres _ _ _),hvars _,rfl,?_,?_⟩,?_⟩
  ·intro b off hp
   have hin:MemPlace.cell b off∈p:=by simpa using hp
   rw [hb.frozen (hlt _ hin)]
   exact h3 b off hin
  ·intro ha; cases ha
  ·intro x hx _
   simpa using hx
end
end Go.V
namespace Go.Proofs.YtndaepmjkbmjmaaGreatDoor
open Go.V Go.RowKit Go.WideShapes Go.ChangeShapes Go.ChangeAt
theorem Vh:ownKnob Tryz.prog.godebug = none:=by kernel_rfl
theorem ET:Tryz.pinned.checked.prog.mayEnter = true:=by kernel_rfl
theorem IA:Tryz.pinned.checked.prog.liftsFinal = Rows.tableOneRow.lifted:=by kernel_rfl
theorem IB:Tryz.pinned.checked.prog.make = some Rows.tableOneRow.make:=by kernel_rfl
theorem SL:laidOutB Tryz.prog = true:=by kernel_rfl
theorem C_:Tryz.prog.cellsOf 3 = 1:=by kernel_rfl
theorem Ug:Tryz.prog.bytesOf 3 = 8:=by kernel_rfl
theorem IC:Tryz.prog.cellsOf 9 = 1:=by kernel_rfl
theorem P8:Tryz.prog.bytesOf 9 = 16:=by kernel_rfl
theorem ID:Tryz.prog.cellsOf 24 = 1:=by kernel_rfl
theorem P9:Tryz.prog.cellsOf 22 = 1:=by kernel_rfl
theorem P_:Tryz.prog.cellsOf 23 = 1:=by kernel_rfl
theorem Qa:Tryz.prog.cellsOf 25 = 1:=by kernel_rfl
theorem Qb:Tryz.prog.cellsOf 83 = 2:=by kernel_rfl
theorem Uh:Tryz.prog.bytesOf 83 = 24:=by kernel_rfl
theorem Qc:Tryz.prog.cellsOf 81 = 3:=by kernel_rfl
theorem Ui:Tryz.prog.bytesOf 81 = 40:=by kernel_rfl
theorem Uj:Tryz.prog.cellsOf 27 = 5:=by kernel_rfl
theorem Qd:Kk Tryz.prog Int anyI 3:=Sf Tryz.underlying3
theorem SM:Kk Tryz.prog (List Int) (Kl 8 anyI) 24:=uu Tryz.underlying24 C_ Ug Qd
theorem Vi:Kk Tryz.prog ByteArray anyS 9:=Sg Tryz.underlying9
theorem Vj:Kk Tryz.prog (List ByteArray) (Kl 16 anyS) 23:=uu Tryz.underlying23 IC P8 Vi
theorem Vk:Kk Tryz.prog jL (λt=>anyS t.name/\anyI t.level) 83:=by
 intro H enc W n cs x h hw
 obtain ⟨hl,hf⟩:=wA Tryz.underlying83 h hw
 rw [Qb] at hl
 obtain ⟨_,_,t0,w0⟩:=hf 0 _ 9 1 0 rfl IC rfl rfl
 obtain ⟨_,_,t1,w1⟩:=hf 1 _ 3 1 1 rfl C_ rfl rfl
 obtain ⟨y0,r0,b0⟩:=Vi enc W _ _ _ t0 w0
 obtain ⟨y1,r1,b1⟩:=Qd enc W _ _ _ t1 w1
 match cs,hl with
 | [c0,c1],_ =>
  have e0:[c0] = [.string y0]:=r0
  have e1:[c1] = [.int .i64 y1]:=r1
  cases e0; cases e1
  exact ⟨⟨y0,y1⟩,rfl,b0,b1⟩
theorem Uk:Kk Tryz.prog (List jL) (Kl 24 λt=>anyS t.name/\anyI t.level) 22:=uu Tryz.underlying22 Qb Uh Vk
theorem Vl:Kk Tryz.prog aH (λp=>anyI p.left/\Kl 8 anyI p.right/\anyI p.level) 81:=by
 intro H enc W n cs x h hw
 obtain ⟨hl,hf⟩:=wA Tryz.underlying81 h hw
 rw [Qc] at hl
 obtain ⟨_,_,t0,w0⟩:=hf 0 _ 3 1 0 rfl C_ rfl rfl
 obtain ⟨_,_,t1,w1⟩:=hf 1 _ 24 1 1 rfl ID rfl rfl
 obtain ⟨_,_,t2,w2⟩:=hf 2 _ 3 1 2 rfl C_ rfl rfl
 obtain ⟨y0,r0,b0⟩:=Qd enc W _ _ _ t0 w0
 obtain ⟨y1,⟨a,l,c,r1,hlc,r1'⟩,b1⟩:=SM enc W _ _ _ t1 w1
 obtain ⟨y2,r2,b2⟩:=Qd enc W _ _ _ t2 w2
 match cs,hl with
 | [c0,c1,c2],_ =>
  have e0:[c0] = [.int .i64 y0]:=r0
  have e1:[c1] = [.slice a l c]:=r1
  have e2:[c2] = [.int .i64 y2]:=r2
  cases e0; cases e1; cases e2
  exact ⟨⟨y0,y1,y2⟩,⟨a,l,c,rfl,hlc,r1'⟩,b0,b1,b2⟩
theorem Ul:Kk Tryz.prog (List aH) (Kl 40 λp=>anyI p.left/\Kl 8 anyI p.right/\anyI p.level) 25:=uu Tryz.underlying25 Qc Ui Vl
def V0 (g:af):Prop:=ik g/\g.terms.length * 24<=140737488355328/\g.nons.length * 16<=140737488355328
theorem SN:Kk Tryz.prog af V0 27:=by
 intro H enc W n cs x h hw
 obtain ⟨hl,hf⟩:=wA Tryz.underlying27 h hw
 rw [Uj] at hl
 obtain ⟨_,_,t0,w0⟩:=hf 0 _ 22 1 0 rfl P9 rfl rfl
 obtain ⟨_,_,t1,w1⟩:=hf 1 _ 23 1 1 rfl P_ rfl rfl
 obtain ⟨_,_,t2,w2⟩:=hf 2 _ 24 1 2 rfl ID rfl rfl
 obtain ⟨_,_,t3,w3⟩:=hf 3 _ 3 1 3 rfl C_ rfl rfl
 obtain ⟨_,_,t4,w4⟩:=hf 4 _ 25 1 4 rfl Qa rfl rfl
 obtain ⟨y0,⟨a0,l0,c0',r0,k0,q0⟩,b0⟩:=Uk enc W _ _ _ t0 w0
 obtain ⟨y1,⟨a1,l1,c1',r1,k1,q1⟩,b1⟩:=Vj enc W _ _ _ t1 w1
 obtain ⟨y2,⟨a2,l2,c2',r2,k2,q2⟩,b2⟩:=SM enc W _ _ _ t2 w2
 obtain ⟨y3,r3,b3⟩:=Qd enc W _ _ _ t3 w3
 obtain ⟨y4,⟨a4,l4,c4',r4,k4,q4⟩,b4⟩:=Ul enc W _ _ _ t4 w4
 match cs,hl with
 | [c0,c1,c2,c3,c4],_ =>
  have e0:[c0] = [.slice a0 l0 c0']:=r0
  have e1:[c1] = [.slice a1 l1 c1']:=r1
  have e2:[c2] = [.slice a2 l2 c2']:=r2
  have e3:[c3] = [.int .i64 y3]:=r3
  have e4:[c4] = [.slice a4 l4 c4']:=r4
  cases e0; cases e1; cases e2; cases e3; cases e4
  refine ⟨⟨y0,y1,y2,y3,y4⟩,⟨⟨a0,l0,c0',a1,l1,c1',a2,l2,c2',y3,a4,l4,c4'⟩,rfl,q0,q1,q2,rfl,q4,k0,k1,k2,k4⟩,?_⟩
  have z0:=b0.1
  have z1:=b1.1
  have z2:=b2.1
  have z4:=b4.1
  unfold reachBytes at z0 z1 z2 z4
  refine ⟨⟨by show y0.length<=_; omega,by show y1.length<=_; omega,by show y2.length<=_; omega,by show y4.length * 40<=_; omega,λt ht=>⟨?_,(b0.2 t ht).2⟩,λs hs=>?_,λp hp=>?_⟩,by show y0.length * 24<=_; omega,by show y1.length * 16<=_; omega⟩
  ·have:=(b0.2 t ht).1; unfold anyS reachBytes at this; omega
  ·have:=b1.2 s hs; unfold anyS reachBytes at this; omega
  ·have:=(b4.2 p hp).2.1.1; unfold reachBytes at this; omega

theorem Vm : Tryz.prog.globalNamed "math/bits.deBruijn64tab" = some 0 := by kernel_rfl
theorem Qe:(Tryz.prog.globals[0]?).map (·.type) = some 294:=by kernel_rfl
theorem Qf:Tryz.prog.cellsOf 294 = 64:=by kernel_rfl
theorem MV:Tryz.prog.cellsOf 5 = 1:=by kernel_rfl
theorem table {W : YC} (h : laidMetH Tryz.prog [("math/bits.deBruijn64tab", Rows.laid_math_bits_deBruijn64tab)] W) : eF (hp W) := by
 have ht : Lib.TabIs Tryz.prog W "math/bits.deBruijn64tab" .u8 (Lib.deBruijn64tab.map λ(k : Nat) => (k : Int)) :=
  Lib.tabIs_of_head (rest:=[]) Vm Qe Tryz.underlying294 Tryz.underlying5 MV Qf h
 refine .inr ⟨_,rfl,λj v hj=>?_⟩
 have hlt:=(Wt.1 hj).1
 have hc:=ht.cell Vm j (by simpa [QJ] using hlt)
 rw [aL]
 refine Iy (hc.trans ?_)
 rw [<- hj]
 simp only [QJ,Wx,WE] at hj hlt ⊢
 rw [Wv hlt]
 simp [hlt]
noncomputable def kL (os:Os):YC :=
  { World.holding Tryz.prog os ⟨#[],#[],[]⟩ with heap:=(World.holding Tryz.prog os ⟨#[],#[],[]⟩).heap.modify 0 fun
      | .cells _ t frozen=>.cells ⟨QJ⟩ t frozen
      | o=>o }
end Go.Proofs.YtndaepmjkbmjmaaGreatDoor
