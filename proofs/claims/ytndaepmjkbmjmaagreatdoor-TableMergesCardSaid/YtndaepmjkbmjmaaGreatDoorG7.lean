/- Texts of this claim, one behind the other. -/
import Derived.Test.YtndaepmjkbmjmaaGreatDoorG6
import Derived.Test.YtndaepmjkbmjmaaGreatDoorG5
import Derived.Test.YtndaepmjkbmjmaaGreatDoorG2
import Derived.Test.YtndaepmjkbmjmaaGreatDoorCards
import Derived.Test.YtndaepmjkbmjmaaGreatDoorTie
import Derived.WalkKit
import Derived.ProofKit
import Derived.OpenShut
import Derived.Carry
import Derived.OpenVars
import Derived.Deep.DeepHandedRow
import Derived.Lib.LaidTab
set_option linter.unusedVariables false
set_option linter.unusedSectionVars false
set_option maxRecDepth 100000
set_option maxHeartbeats 16000000
namespace Go.Proofs.YtndaepmjkbmjmaaGreatDoor
open Go.V
variable {w:World} {g:af} {ss:List SQ} {x:GA}
theorem RF {L A B:List ay} (h:St w (aG A :: aG B :: L)):St w (aG (A ++ B) :: L):=by
 have h2:=(St.flat.1 h).perm (W4:(A ++ aG B :: L).Perm (aG B :: (A ++ L)))
 have h3:=St.flat.1 h2
 exact St.flat.2 (h3.perm (by rw [<- Wj]; exact List.perm_append_comm.append_right _))
theorem FX {h:Hp} {o:Yg} {vs:List Value} {i:Nat} {v:Value} (r:eR o vs h) (hv:vs[i]? = some v):∃ ad,o = some ad/\av h (ad.add i) [v]:=by
 rcases r with e | ⟨ad,e,hc⟩
 ·rw [e] at hv; simp at hv
 ·exact ⟨ad,e,row_one hc hv⟩
theorem TN {oA:Yg} {cA:Nat} {ask int:Int} (hc:ak g) (hA:bm g ss) (hb:iE g) (hg:gR (hp w) g x) (ha:xl (hp w) ss oA):aA Tryz.prog uT [.agg ⟨x.cells⟩,.agg #[.slice oA ss.length cA,.int .i64 ask,.int .i64 int]] w λv w'=>∃ (d:Pp) (ns:List Bool) (F:dY) (H:Hp),v = .pointer (some (aM d.kh))/\ju g ns/\Sg H g ns ss d/\sub (hp w) H/\zK g ss F/\(∀ q i,(q,i)∈fI g ss->Po g ss F q i)/\St w' [aG (qb g ss d F),has H]:=by
 obtain ⟨sT,sN,sP,sP2,hT1,_⟩:=hc.ct
 obtain ⟨iG,bT,bN,pN,pT,bP⟩:=Q6 (.inr hc:gH g)
 have hkl:=hA.yG hc
 have h256:=hA.dn.2.1
 have hpos:=hA.pos
 have hTl:g.T = x.tl:=hg.t.1
 have hcl:∀ q,(bQ g ss q).length<=29197:=λq=>by
  unfold bQ
  split
  ·rename_i r hr
   have h1:=xi g r.1.2
   have h2:=(hkl r (V_ hr)).1
   omega
  ·simp
 refine qU (cW hg λk1 w1 gw hg1 Bx=>ah (St.all w1) λk2 w2 h2=>λw3 hd=>?_)
 have rA2:av (hp w2) (aM k2) [.slice oA ss.length cA,.int .i64 ask,.int .i64 int]:=ai 0 h2.l
 have g13:Gr w1 w3:=h2.aZ.trans (Gr.drawn hd)
 have rA:=rA2.mono (Gr.drawn hd)
 have hg3:=hg1.mono g13
 have ha3:=ha.mono (gw.trans g13)
 clear h2 hd
 refine ⟨λu=>Gr w3 u,Gr.refl _,_,_,_,_,_,_,_,_,_,_,_,_,_,λu s=>Bx.row (g13.trans s),_,_,_,_,_,λu s=>rA.at s rfl,_,_,_,_,_,_,_,_,_,_,_,_,_,λu s=>Bx.row (g13.trans s),(Q7 hg3 hb (.inr hc)).mono ?_⟩
 rintro _ w7 ⟨bp,k4,o,c,ns,ps,vs,rfl,hns,al,hpsl,ht⟩
 have g37:Gr w3 w7:=aU 4 ht.l
 have hlv:=al.lv
 have tb:Ju (hp w7) g x bp k4 o c ns ps vs:=Q8 (by omega) pN ht.l
 clear ht
 refine ⟨_,rfl,g37,ah (St.all w7) λkh w8 h8=>⟨g37.trans h8.aZ,?_⟩⟩
 refine ⟨λz w'=>∃ (n:Nat) (B:Nat->Nat->Nat) (vI vT:List Value) (oI oT:Yg) (cI cT:Nat) (H:Hp),z = n/\n<=ss.length/\RE H g ss B vI vT n/\sub (hp w7) H/\St w' [aK kh (x.cells ++ [.slice oA ss.length cA,.int .i64 ask,.int .i64 int,.slice oI n cI,.slice oT n cT,.pointer (some ⟨bp,0,none⟩)]),own 1 oI n cI vI,own 1 oT n cT vT,aG (ME g ss B n),has H],λz _=>ss.length - z.toNat,⟨0,λ_ _=>0,[],[],none,none,0,0,hp w7,rfl,Wi _,.zero,sub.refl _,by
  rw [show ME g ss (λ_ _=>0) 0 = [] by simp [ME,Dm]]
  exact (az 1 (az 1 ((St.flat (M:=[])).2 h8))).pick 5 [3,0,1,2,4]⟩,?_⟩
 clear h8
 rintro _ _ w9 ⟨n,B,vI,vT,oI,oT,cI,cT,H,rfl,hn,hM,hH,h⟩
 have g79:Gr w7 w9:=sub.trans hH (aU 4 h.l)
 have g39:Gr w3 w9:=g37.trans g79
 refine ⟨_,_,_,rA.cell0 g39,ae (λh1=>?_) λh1=>?_⟩
 ·have h1:n < ss.length:=by have:=V7 h1; omega
  obtain ⟨r,hr⟩ : ∃ r,ss[n]? = some r:=⟨_,Wa h1⟩
  have hKf:xh g r.1.2:=(dg (g:=g) (by omega) n).fit _ (V_ (fl hA hr).1)
  have hrl:=(hkl r (V_ hr)).1
  have hN:=hcl n
  have hCe:=Lc (g:=g) hr
  obtain ⟨ad,eA,rs,rkk,_⟩:=ha3 n r hr
  intro w10 hd10
  have h10:=h.drawn hd10
  have g310:=g39.trans (Gr.drawn hd10)
  refine ⟨λu=>Gr w10 u,Gr.refl _,_,_,_,_,_,_,_,_,_,_,_,_,_,λu s=>Bx.row ((g13.trans g310).trans s),_,_,_,λu s=>rA.cell0 (g310.trans s),au eA h1 ⟨_,_,_,λu s=>rs.cell0 (g310.trans s),(D0 (hg3.mono g310) hb hc (rkk.mono g310) hKf (by omega)).mono ?_⟩⟩
  rintro _ w14 ⟨oL,cL,rfl,hclo⟩
  have g1014:Gr w10 w14:=hclo.aZ
  have h14:=hclo.qV h10.l
  obtain ⟨H1,hl1,h15⟩:=St.RD [aK kh _,own 1 oI n cI vI,own 1 oT n cT vT,aG (ME g ss B n)] (M:=[own 2 oL _ cL _,has H]) (h14.pick 6 [1,2,3,4,0,5])
  simp only [List.cons_append,WT] at h15
  have rL:a_ H1 (cls g r.1.2) oL (cls g r.1.2).length:=AB rfl (fN 0 hl1)
  have gH1:sub H H1:=aU 1 hl1
  clear hl1 h14 hclo h10
  rw [<- hCe] at rL ⊢
  obtain ⟨N,eN⟩ : ∃ N,N = (bQ g ss n).length:=⟨_,rfl⟩
  rw [<- eN] at rL hN ⊢
  refine ⟨_,_,_,rfl,g1014,λo k c z w'=>∃ (bs:List Nat),k = bs.length/\z = (bs.length:Int)/\bs.length<=N/\St w' (own 1 o k c (bs.map λb=>.slice (some (aM b)) g.T g.T) :: aG (bs.map λb=>aK b (bv (List.replicate g.T false))) :: [aK kh (x.cells ++ [.slice oA ss.length cA,.int .i64 ask,.int .i64 int,.slice oI n cI,.slice oT n cT,.pointer (some ⟨bp,0,none⟩)]),own 1 oI n cI vI,own 1 oT n cT vT,aG (ME g ss B n),has H1]),λ_ _ _ z _=>N - z.toNat,⟨[],rfl,rfl,Wi _,by simp only [List.map_nil]; exact az 1 ((St.flat (M:=[])).2 h15)⟩,?_⟩
  clear h15
  rintro _ o19 _ c19 _ w15 ⟨bs,rfl,rfl,hbs,h⟩
  have g715:Gr w7 w15:=sub.trans hH (sub.trans gH1 (aU 6 h.l))
  refine ae (λh2=>?_) λh2=>?_
  ·have h2:bs.length < N:=by have:=V7 h2; omega
   refine ⟨_,_,_,Bx.c0 ((g13.trans g37).trans g715),?_⟩
   rw [<- hTl]
   refine ⟨⟨by omega,rfl,by omega⟩,?_⟩
   rw [Ws,db,Ci]
   refine ah h λk42 w16 h=>ah (h.pick 8 [1,0,2,3,4,5,6,7]) λk43 w17 h=>?_
   refine (aP (us:=bs.map λb=>.slice (some (aM b)) g.T g.T) aQ (rfl:aj Ty _ = .slice _) (rfl:aj Ty _ = .slice _) rfl rfl rfl h rfl (by simp [aV]) (by show (bs.length + 1) * 24<=_; omega) (by omega)).mono ?_
   rintro _ w18 ⟨o21,c21,rfl,h⟩
   have h:=St.snoc (h.pick 9 [2,3,0,4,5,6,7,8])
   refine ⟨_,_,_,rfl,⟨by omega,by omega⟩,⟨bs ++ [k42],by simp,by simp,by simp; omega,?_⟩,bw h2⟩
   rw [WB,WB]
   exact h.pick 7 [1,0,2,3,4,5,6]
  have h2:bs.length = N:=by have:=V8 h2; omega
  refine ⟨_,_,_,(ai 2 h.l:av (hp w15) (aM kh) _).cell (sub.refl _) (j:=8) rfl,ah h λk48 w19 h=>?_⟩
  refine (aP (us:=vI) aQ (rfl:aj Ty _ = .slice _) (rfl:aj Ty _ = .slice _) rfl rfl rfl (h.pick 8 [0,4,1,2,3,5,6,7]) rfl (by simp [aV]) (by show (n + 1) * 24<=_; omega) (by omega)).mono ?_
  rintro _ w20 ⟨o23,c23,rfl,h⟩
  refine ⟨_,_,_,rfl,?_⟩
  rw [aL]
  refine bh (h.pick 8 [4,0,1,2,3,5,6,7]) (by simp [GA.cells]) λw21 h=>?_
  have h:St w21 [aK kh (x.cells ++ [.slice oA ss.length cA,.int .i64 ask,.int .i64 int,.slice o23 (n + 1) c23,.slice oT n cT,.pointer (some ⟨bp,0,none⟩)]),own 1 o23 (n + 1) c23 (vI ++ [.slice oL N cL]),aK k48 [.slice oL N cL],own 1 o19 bs.length c19 (bs.map λb=>.slice (some (aM b)) g.T g.T),aG (bs.map λb=>aK b (bv (List.replicate g.T false))),own 1 oT n cT vT,aG (ME g ss B n),has H1]:=h
  rw [h2] at h
  rw [h2]
  refine ⟨_,_,_,(ai 0 h.l:av (hp w21) (aM kh) _).cell (sub.refl _) (j:=9) rfl,ah h λk53 w22 h=>?_⟩
  refine (aP (us:=vT) aQ (rfl:aj Ty _ = .slice _) (rfl:aj Ty _ = .slice _) rfl rfl rfl (h.pick 9 [0,6,1,2,3,4,5,7,8]) rfl (by simp [aV]) (by show (n + 1) * 24<=_; omega) (by omega)).mono ?_
  rintro _ w23 ⟨o25,c25,rfl,h⟩
  refine ⟨_,_,_,rfl,?_⟩
  rw [aL]
  refine bh (h.pick 9 [2,0,1,3,4,5,6,7,8]) (by simp [GA.cells]) λw24 h=>?_
  have h:St w24 [aK kh (x.cells ++ [.slice oA ss.length cA,.int .i64 ask,.int .i64 int,.slice o23 (n + 1) c23,.slice o25 (n + 1) c25,.pointer (some ⟨bp,0,none⟩)]),own 1 o25 (n + 1) c25 (vT ++ [.slice o19 N c19]),aK k53 [.slice o19 N c19],own 1 o23 (n + 1) c23 (vI ++ [.slice oL N cL]),aK k48 [.slice oL N cL],own 1 o19 N c19 (bs.map λb=>.slice (some (aM b)) g.T g.T),aG (bs.map λb=>aK b (bv (List.replicate g.T false))),aG (ME g ss B n),has H1]:=h
  have h:=RF (h.pick 9 [7,6,0,3,1,5,8,2,4])
  have hbl:bs.length = (bQ g ss n).length:=by rw [h2,eN]
  rw [Pv hbl] at h
  obtain ⟨H2,hl2,h24⟩:=St.RD [aK kh _,own 1 o23 (n + 1) c23 _,own 1 o25 (n + 1) c25 _,aG (ME g ss (Sj B n bs) (n + 1))] (M:=[own 1 o19 N c19 _,has H1]) (h.pick 8 [1,2,3,0,4,5])
  simp only [List.cons_append,WT] at h24
  have r19:eR o19 (bs.map λb=>Value.slice (some (aM b)) g.T g.T) H2:=fN 0 hl2
  have gH2:sub H1 H2:=aU 1 hl2
  refine ⟨⟨by omega,by omega⟩,⟨n + 1,Sj B n bs,_,_,o23,o25,c23,c25,H2,by simp,h1,?_,sub.trans hH (sub.trans gH1 gH2),h24⟩,bw h1⟩
  rw [eN]
  rw [eN] at rL
  refine (hM.mono (sub.trans gH1 gH2)).snoc (rL.mono gH2) λi hi=>FX r19 ?_
  rw [Wc,Wb,Wa (by omega)]; rfl
 have h1:n = ss.length:=by have:=V8 h1; omega
 subst h1
 refine ⟨_,_,_,Bx.c0 (g13.trans g39),?_⟩
 rw [<- hTl]
 refine ⟨⟨by omega,rfl,by omega⟩,?_⟩
 rw [Ws,db,Ci]
 refine ah h λk58 w25 h=>ml rfl (by omega) (bh h (by rw [mH]; simp; omega) λw26 h=>?_)
 rw [AA] at h
 obtain ⟨l,el⟩ : ∃ l,l = (List.replicate g.T false).set 0 true:=⟨_,rfl⟩
 have hll:l.length = g.T:=by rw [el]; simp
 have hl0:∀ t,aN l t = true↔t = 0:=λt=>by
  rw [el,EY (by simp; omega)]
  by_cases e:t = 0
  ·simp [e]
  ·rw [Wg e]
   have:aN (List.replicate g.T false) t = false:=by
    unfold aN
    rw [Wb,Xr]
    split <;> rfl
   simp [this,e]
 rw [<- el] at h
 obtain ⟨H2,hl2,h26⟩:=St.RD [aG (ME g ss B ss.length)] (M:=[aK k58 (bv l),aK kh _,own 1 oI ss.length cI vI,own 1 oT ss.length cT vT,has H]) (h.pick 6 [4,0,1,2,3,5])
 simp only [List.cons_append,WT] at h26
 have rl:av H2 (aM k58) (bv l):=ai 0 hl2
 have rh:av H2 (aM kh) (x.cells ++ [.slice oA ss.length cA,.int .i64 ask,.int .i64 int,.slice oI ss.length cI,.slice oT ss.length cT,.pointer (some ⟨bp,0,none⟩)]):=ai 1 hl2
 have rI:eR oI vI H2:=fN 2 hl2
 have rT:eR oT vT H2:=fN 3 hl2
 have gH2:sub H H2:=aU 4 hl2
 have gA2:sub (hp w7) H2:=sub.trans hH gH2
 clear hl2 h
 obtain ⟨d,hd⟩ : ∃ d:Pp,d = ⟨x,oA,cA,ask,int,oI,cI,oT,cT,bp,kh,B⟩:=⟨_,rfl⟩
 have hI:Sg H2 g ns ss d:=by
  subst hd
  refine ⟨hg3.mono (sub.trans g37 gA2),rh,ha3.mono (sub.trans g37 gA2),λq hq=>?_,λq hq=>?_,⟨k4,o,c,ps,vs,tb.mono gA2,al,hpsl⟩⟩
  ·obtain ⟨a,c',e,r⟩:=hM.i q hq
   obtain ⟨ad,e2,r2⟩:=FX rI e
   exact ⟨ad,a,c',e2,r2,r.mono gH2⟩
  ·obtain ⟨a,c',e,t⟩:=hM.t q hq
   obtain ⟨ad,e2,r2⟩:=FX rT e
   refine ⟨ad,a,c',e2,r2,λi hi=>?_⟩
   obtain ⟨ad2,e3,r3⟩:=t i hi
   exact ⟨ad2,e3,r3.mono gH2⟩
 have hkh:d.kh = kh:=by rw [hd]
 have h26:St w26 [aG (qb g ss d λ_ _=>List.replicate g.T false),has H2]:=by subst hd; exact h26
 rw [<- hkh]
 have hgo:sub (hp w) H2:=sub.trans gw (sub.trans g13 (sub.trans g37 gA2))
 clear hd rh rI rT hM
 have hcl' : ∀ q,(bQ g ss q).length<=4611686018427387904:=λq=>by have:=hcl q; omega
 refine (FW (F:=λ_ _=>List.replicate g.T false) (q:=0) (y:=⟨0,0⟩) (l:=l) hI hpos (λ_ _=>by simp) hll sT (hcl' 0) h26 (λF' u H' g' _ hu=>kS hll (.inr ⟨_,rfl,rl.mono (sub.trans g' (aU 1 hu.l))⟩))).mono ?_
 rintro _ w27 ⟨b1,F1,rfl,hP,h27⟩
 have hV:=zK.first hl0 hll hP
 obtain ⟨D,eD⟩ : ∃ D,D = fI g ss:=⟨_,rfl⟩
 refine ⟨_,rfl,λb w'=>∃ F:dY,(zK g ss F/\(b = false->∀ q i,(q,i)∈fI g ss->Po g ss F q i))/\St w' [aG (qb g ss d F),has H2],λb w'=>if b = true then 1 + R7 (λ(F:dY) w=>zK g ss F/\St w [aG (qb g ss d F),has H2]) (λF=>(fI g ss).length * g.T - nh (fI g ss) F) w' else 0,⟨F1,⟨hV,λh=>by cases h⟩,h27⟩,?_⟩
 clear h27 hV hP
 rintro _ b2 w28 ⟨F,⟨hV,hC⟩,h⟩
 refine ae (λh1=>?_) λh1=>?_
 rotate_left
 ·exact ⟨d,ns,F,H2,rfl,hns,hI,hgo,hV,hC h1,h⟩
 subst h1
 obtain ⟨F0,⟨hV0,h0⟩,hmin⟩:=E6 (P:=λ(F:dY) w=>zK g ss F/\St w [aG (qb g ss d F),has H2]) (w:=w28) (f:=λF:dY=>(fI g ss).length * g.T - nh (fI g ss) F) ⟨F,hV,h⟩
 clear h hV hC
 refine ⟨λb z w'=>∃ (n:Nat) (F' : dY),z = n/\n<=ss.length/\zK g ss F'/\lC (fI g ss) F0 F' b/\(b = false->∀ q i,q < n->(q,i)∈fI g ss->Po g ss F0 q i)/\St w' [aG (qb g ss d F'),has H2],λ_ z _=>ss.length - z.toNat,⟨0,F0,rfl,Wi _,hV0,.start,λ_ q i hq=>by omega,h0⟩,?_⟩
 clear h0
 rintro _ b3 _ w29 ⟨n,F',rfl,hn,hV',hG,hCn,h⟩
 have s29:sub H2 (hp w29):=aU 1 h.l
 refine ⟨_,_,_,hI.r.cell s29 (j:=8) rfl,ae (λh1=>?_) λh1=>?_⟩
 rotate_left
 ·have h1:n = ss.length:=by have:=V8 h1; omega
  subst h1
  refine ⟨⟨F',⟨hV',λhb q i hm=>?_⟩,h⟩,?_⟩
  ·rw [hG.no hb]
   exact hCn hb q i (iX.1 hm).1 hm
  ·cases b3 with
   | false=>simp; omega
   | true =>
    have h3:=hG.yes rfl
    have h4:=hV'.sum
    have h5:=BJ (P:=λ(F:dY) w=>zK g ss F/\St w [aG (qb g ss d F),has H2]) (f:=λF:dY=>(fI g ss).length * g.T - nh (fI g ss) F) (w:=w29) ⟨hV',h⟩
    simp only [if_true]
    omega
 have h1:n < ss.length:=by have:=V7 h1; omega
 obtain ⟨adI,aI,cI2,eI,rI,rIt⟩:=hI.i n h1
 refine ⟨λb z w'=>∃ (i:Nat) (F' : dY),z = i/\i<=(bQ g ss n).length/\zK g ss F'/\lC (fI g ss) F0 F' b/\(b = false->(∀ q i,q < n->(q,i)∈fI g ss->Po g ss F0 q i)/\∀ j,j < i->Po g ss F0 n j)/\St w' [aG (qb g ss d F'),has H2],λ_ z _=>(bQ g ss n).length - z.toNat,⟨0,F',rfl,Wi _,hV',hG,λhb=>⟨hCn hb,λj hj=>by omega⟩,h⟩,?_⟩
 clear h hCn hG hV'
 rintro _ b4 _ w30 ⟨i,F2,rfl,hi,hV2,hG2,hC2,h⟩
 have s30:sub H2 (hp w30):=aU 1 h.l
 refine ⟨_,_,_,hI.r.cell s30 (j:=8) rfl,aw eI h1 ⟨_,_,_,rI.cell0 s30,ae (λh2=>?_) λh2=>?_⟩⟩
 rotate_left
 ·have h2:i = (bQ g ss n).length:=by have:=V8 h2; omega
  refine ⟨⟨by omega,by omega⟩,⟨n + 1,F2,by simp,h1,hV2,hG2,λhb q j hq hm=>?_,h⟩,bw h1⟩
  by_cases e:q = n
  ·subst e
   exact (hC2 hb).2 j (by have:=(iX.1 hm).2; have:j < (bQ g ss q).length:=this; omega)
  ·exact (hC2 hb).1 q j (by omega) hm
 have h2:i < (bQ g ss n).length:=by have:=V7 h2; omega
 have hN:=hcl n
 refine (Pu hc hA hb hns hI hV2 (iX.2 ⟨h1,h2⟩) hcl' h).mono ?_
 rintro _ w31 ⟨b5,F3,rfl,hV3,hG3,hC3,h31⟩
 have next:∀ b:Bool,b = (b4 || b5)->ax ((i:Int) + 1)/\(∃ (i' : Nat) (F' : dY),(i:Int) + 1 = i'/\i'<=(bQ g ss n).length/\zK g ss F'/\lC (fI g ss) F0 F' b/\(b = false->(∀ q i,q < n->(q,i)∈fI g ss->Po g ss F0 q i)/\∀ j,j < i'->Po g ss F0 n j)/\St w31 [aG (qb g ss d F'),has H2])/\(bQ g ss n).length - ((i:Int) + 1).toNat < (bQ g ss n).length - (i:Int).toNat:=λb hbb=>by
  refine ⟨⟨by omega,by omega⟩,⟨i + 1,F3,by simp,h2,hV3,by rw [hbb]; exact hG2.trans hG3,λhb=>?_,h31⟩,bw h2⟩
  rw [hbb,X8] at hb
  obtain ⟨e1,e2⟩:=hC2 hb.1
  have e3:=(hC3 hb.2).2
  rw [hG2.no hb.1] at e3
  refine ⟨e1,λj hj=>?_⟩
  by_cases e:j = i
  ·subst e; exact e3
  ·exact e2 j (by omega)
 exact ⟨_,rfl,ae (λh3=>next true (by rw [h3]; rfl)) λh3=>next b5 (by rw [h3]; rfl)⟩
end Go.Proofs.YtndaepmjkbmjmaaGreatDoor
namespace Go.V
open Go.Proofs.YtndaepmjkbmjmaaGreatDoor
noncomputable section
variable {g:af} {ns:List Bool} {ss:List SQ} {F:dY} {q i:Nat}
def Dn (g:af) (ns:List Bool) (ss:List SQ) (q:Nat) (z:Int):bG:=dV g (CO g ns ss) ⟨(q:Int),z,bX (bj g ss).length (dv g ss q z.toNat)⟩
def Mq (g:af) (ns:List Bool) (ss:List SQ) (q:Nat) (l:List ag):List bG:=((l.filter (tp g)).map (·.prod)).map (Dn g ns ss q)
def RG (g:af) (ns:List Bool) (ss:List SQ) (n:Nat):List bG:=(Ah g ss n).map (dV g (CO g ns ss))
theorem Pw (q j:Nat):((di g ss q j).map (·.prod)).map (Dn g ns ss q) = (di g ss q j).map (dV g (CO g ns ss)):=by
 rw [XK]
 refine Xo λb hb=>?_
 obtain ⟨m,_,_,rfl⟩:=oy.1 hb
 show Dn g ns ss q (m:Int) = _
 unfold Dn
 rw [Ws]
theorem RH (hc:ak g) (hA:bm g ss) {r:SQ} (hr:ss[q]? = some r):Mq g ns ss q (bQ g ss q) = (di g ss q g.prods.length).map (dV g (CO g ns ss)):=by
 unfold Mq
 rw [Lc hr,OZ hc hA hr,Pw]
theorem Px:RG g ns ss (q + 1) = RG g ns ss q ++ (di g ss q g.prods.length).map (dV g (CO g ns ss)):=by unfold RG; rw [tX,WB]
theorem RI:RG g ns ss ss.length = bq g ns ss:=rfl
theorem TO {l:List ag} {y:ag} (h:tp g y = false):Mq g ns ss q (l ++ [y]) = Mq g ns ss q l:=by
 unfold Mq
 rw [WK,Xj,Wg (by rw [h]; simp)]
 simp
theorem RJ {l:List ag} {y:ag} (h:tp g y = true):Mq g ns ss q (l ++ [y]) = Mq g ns ss q l ++ [Dn g ns ss q y.prod]:=by
 unfold Mq
 rw [WK,Xj,Wn h]
 simp
theorem RK (q:Nat) (l:List ag):(Mq g ns ss q l).length<=l.length:=by
 unfold Mq
 rw [Wh,Wh]
 exact WM _ _
theorem TP (hc:ak g) (hA:bm g ss) (hn:ju g ns) (hV:zK g ss F) (hC:∀ q i,(q,i)∈fI g ss->Po g ss F q i) {m:Nat} {p:aH} (hp:g.prods[m]? = some p) (hm:m≠0) (hy:h_ g ss q i = some ⟨(m:Int),(p.right.length:Int)⟩):Dn g ns ss q (m:Int) = ⟨(q:Int),(m:Int),dc (F q i)⟩:=by
 have e:(Dn g ns ss q (m:Int)).tm = dc (F q i):=by
  rw [FH,hV.ln q i (iY hy)]
  unfold Dn
  rw [Ws]
  refine pJ λk hk=>?_
  have h1:=Pn hc hA hn (q:=q) hp hm (z:=(k:Int))
  rw [HN] at h1
  rw [WX]
  have h2:(∃ x:Nat,(k:Int) = x/\x < g.T/\zo g ss q m p.right.length x)↔aN (F q i) k = true:=by
   constructor
   ·rintro ⟨x,e,hx,h⟩
    have:k = x:=by omega
    subst this
    obtain ⟨i',hi',h'⟩:=TK hc hA hn hV hC h hx
    have:=xU hy hi'
    subst this
    exact h'
   ·intro h
    exact ⟨k,rfl,hk,by simpa using hV.sd q i _ k hy h⟩
  rw [<- h2,<- h1]
  constructor
  ·intro h
   exact ⟨k,rfl,hk,V7 h⟩
  ·rintro ⟨x,e,hx,h⟩
   have:k = x:=by omega
   subst this
   exact WI h
 have e2:Dn g ns ss q (m:Int) = ⟨(q:Int),(m:Int),(Dn g ns ss q (m:Int)).tm⟩:=rfl
 rw [e2,e]
end
end Go.V
namespace Go.Proofs.YtndaepmjkbmjmaaGreatDoor
open Go.V
variable {w:World} {g:af} {ns:List Bool} {ss:List SQ} {d:Pp} {F:dY} {H:Hp}
theorem Mr (hc:ak g) (hA:bm g ss) (hn:ju g ns) (hI:Sg H g ns ss d) (hV:zK g ss F) (hC:∀ q i,(q,i)∈fI g ss->Po g ss F q i) (h:St w [aG (qb g ss d F),has H]) :
  aA Tryz.prog lD [.pointer (some (aM d.kh))] w λv w'=>∃ (o:Yg) (c:Nat) (ds:List gU),v = .slice o ds.length c/\ds.map jb = bq g ns ss/\St w' [own 3 o ds.length c (cG ds),aG (np ds),aG (qb g ss d F),has H]:=by
 obtain ⟨sT,sN,sP,sP2,_,_⟩:=hc.ct
 have hkl:=hA.yG hc
 have h256:=hA.dn.2.1
 have hcl:∀ q,(bQ g ss q).length<=29197:=λq=>by
  unfold bQ
  split
  ·rename_i r hr
   have h1:=xi g r.1.2
   have h2:=(hkl r (V_ hr)).1
   omega
  ·simp
 have hlenB:∀ q,q<=ss.length->(RG g ns ss q).length<=24832:=λq hq=>by
  unfold RG
  rw [Wh]
  have h1:=td g ss q
  have h2:q * g.prods.length<=256 * 97:=XT (by omega) sP
  omega
 refine j5 ⟨λo n c z w'=>∃ (q:Nat) (ds:List gU),z = q/\q<=ss.length/\n = ds.length/\ds.map jb = RG g ns ss q/\St w' [own 3 o n c (cG ds),aG (np ds),aG (qb g ss d F),has H],λ_ _ _ z _=>ss.length - z.toNat,⟨0,[],rfl,Wi _,rfl,rfl,az 3 ((St.flat (M:=[])).2 h)⟩,?_⟩
 clear h
 rintro _ o1 _ c1 _ w1 ⟨q,ds,rfl,hq,rfl,hds,h⟩
 have s1:sub H (hp w1):=aU 3 h.l
 refine ⟨_,_,_,hI.r.cell s1 (j:=8) rfl,ae (λh1=>?_) λh1=>?_⟩
 rotate_left
 ·have h1:q = ss.length:=by have:=V8 h1; omega
  subst h1
  exact ⟨_,_,ds,rfl,by rw [hds,RI],h⟩
 have h1:q < ss.length:=by have:=V7 h1; omega
 have hBq:=hlenB q hq
 have hN:=hcl q
 obtain ⟨r,hr⟩ : ∃ r,ss[q]? = some r:=⟨_,Wa h1⟩
 have hall:=RH (ns:=ns) hc hA hr
 obtain ⟨adI,aI,cI,eI,rI,rIt⟩:=hI.i q h1
 obtain ⟨adT,aT,cT,eT,rT,rTt⟩:=hI.t q h1
 refine ⟨λo n c z w'=>∃ (i:Nat) (ds:List gU),z = i/\i<=(bQ g ss q).length/\n = ds.length/\ds.map jb = RG g ns ss q ++ Mq g ns ss q ((bQ g ss q).take i)/\St w' [own 3 o n c (cG ds),aG (np ds),aG (qb g ss d F),has H],λ_ _ _ z _=>(bQ g ss q).length - z.toNat,⟨0,ds,rfl,Wi _,rfl,by rw [hds]; simp [Mq],h⟩,?_⟩
 clear h hds
 rintro _ o3 _ c3 _ w2 ⟨i,ds,rfl,hi,rfl,hds,h⟩
 have hbl:ds.length<=60000:=by
  have h3:=congrArg List.length hds
  have h4:=RK (g:=g) (ns:=ns) (ss:=ss) q ((bQ g ss q).take i)
  rw [Wh,We] at h3
  rw [Wx] at h4
  omega
 have s2:sub H (hp w2):=aU 3 h.l
 refine ⟨_,_,_,hI.r.cell s2 (j:=8) rfl,aw eI h1 ⟨_,_,_,rI.cell0 s2,ae (λh2=>?_) λh2=>?_⟩⟩
 rotate_left
 ·have h2:i = (bQ g ss q).length:=by have:=V8 h2; omega
  rw [h2,Ww,hall,<- Px] at hds
  exact ⟨⟨by omega,by omega⟩,⟨q + 1,ds,by simp,h1,rfl,hds,h⟩,bw h1⟩
 have h2:i < (bQ g ss q).length:=by have:=V7 h2; omega
 obtain ⟨y,yad,hy,hya,ry⟩:=od rIt h2
 have hyi:h_ g ss q i = some y:=hy
 have hmi:=iY hyi
 obtain ⟨ad2,eT2,rT2⟩:=rTt i h2
 obtain ⟨r',m,dt,p,hr',hcm,rfl,hpr,hdp,hfit,haf⟩:=Si hc hA hyi
 have htk:(bQ g ss q).take (i + 1) = (bQ g ss q).take i ++ [⟨(m:Int),(dt:Int)⟩]:=by rw [Wf,hy]; rfl
 have skip:tp g ⟨(m:Int),(dt:Int)⟩ = false->∀ {u:World},St u [own 3 o3 ds.length c3 (cG ds),aG (np ds),aG (qb g ss d F),has H]->ax ((i:Int) + 1)/\(∃ (i' : Nat) (ds' : List gU),(i:Int) + 1 = i'/\i'<=(bQ g ss q).length/\ds.length = ds'.length/\ds'.map jb = RG g ns ss q ++ Mq g ns ss q ((bQ g ss q).take i')/\St u [own 3 o3 ds.length c3 (cG ds'),aG (np ds'),aG (qb g ss d F),has H])/\(bQ g ss q).length - ((i:Int) + 1).toNat < (bQ g ss q).length - (i:Int).toNat:=λhno {u} hu=>by
  refine ⟨⟨by omega,by omega⟩,⟨i + 1,ds,by simp,h2,rfl,?_,hu⟩,bw h2⟩
  rw [htk,TO hno]; exact hds
 refine ⟨_,_,_,hI.r.cell s2 (j:=8) rfl,aw eI h1 ⟨_,_,_,rI.cell0 s2,au hya h2 ⟨_,_,ry.at s2 rfl,ah h λk15 w3 h=>bx h rfl (by simp [aV]) λw4 h=>λw5 hd=>?_⟩⟩⟩
 have h:=h.drawn hd
 obtain ⟨H1,hl1,h5⟩:=St.RD [own 3 o3 ds.length c3 (cG ds),aG (np ds),aG (qb g ss d F)] (M:=[aK k15 _,has H]) (h.pick 5 [1,2,3,0,4])
 simp only [List.cons_append,WT] at h5
 have rk:av H1 (aM k15) [.int .i64 (m:Int),.int .i64 (dt:Int)]:=ai 0 hl1
 have g1:sub H H1:=aU 1 hl1
 clear h hl1
 have back:∀ {u:World} {o:Yg} {n c:Nat} {ds:List gU},St u [own 3 o n c (cG ds),aG (np ds),aG (qb g ss d F),has H1]->St u [own 3 o n c (cG ds),aG (np ds),aG (qb g ss d F),has H]:=λhu=>St.on (N:=[_,_,_]) hu (bD g1)
 have hI1:=hI.mono g1
 have rg:av H1 (aM d.kh) d.x.cells:=av.take (vs:=[.slice d.oA ss.length d.cA,.int .i64 d.ask,.int .i64 d.int,.slice d.oI ss.length d.cI,.slice d.oT ss.length d.cT,.pointer (some ⟨d.bp,0,none⟩)]) hI1.r
 have s5:sub H1 (hp w5):=aU 3 h5.l
 refine ⟨λu=>sub H1 (hp u),s5,_,λu s=>rk.cell0 s,ae (λh3=>?_) λh3=>?_⟩
 rotate_left
 ·refine skip ?_ (back h5)
  have h3:¬ (0:Int) < m:=V8 h3
  unfold tp
  rw [W2 (by show ¬ (1:Int)<=m; omega)]; rfl
 have h3:(0:Int) < m:=V7 h3
 refine ⟨_,_,_,_,_,_,_,_,_,_,_,_,_,λu s=>rg.at s rfl,_,_,λu s=>rk.at s rfl,(AF (y:=⟨(m:Int),(dt:Int)⟩) (hI1.gr.mono s5) hfit).mono ?_⟩
 rintro _ w9 ⟨rfl,g59⟩
 have h9:=h5.gr g59
 have s9:sub H1 (hp w9):=aU 3 h9.l
 clear h5
 refine ⟨_,rfl,s9,ae (λh4=>?_) λh4=>?_⟩
 rotate_left
 ·refine skip ?_ (back h9)
  have h4:0<=cM g ⟨(m:Int),(dt:Int)⟩:=by have:=V8 h4; omega
  obtain ⟨_,hlt,_⟩:=haf h4
  unfold tp
  simp only [Ws,hpr]
  rw [W2 (show ¬ ((p.right.length:Nat):Int)<=(dt:Int) by omega)]
  simp
 have h4:cM g ⟨(m:Int),(dt:Int)⟩ < 0:=V7 h4
 have hdt:dt = p.right.length:=by
  refine Nat.le_antisymm hdp (XI λhlt=>?_)
  have ea:cM g ⟨(m:Int),(dt:Int)⟩ = p.right.getD dt (-1):=by rw [jK (p:=p) (by simpa using hpr)]; simp
  rw [ea,Wb,Wa hlt] at h4
  have:=hc.sym (V_ hpr) (List.getElem_mem hlt)
  simp at h4
  omega
 have hcomp:tp g ⟨(m:Int),(dt:Int)⟩ = true:=(ox hfit).2 ⟨m,p,by omega,hpr,by rw [hdt]⟩
 have hrow:=TP hc hA hn hV hC hpr (by omega:m≠0) (by rw [<- hdt]; exact hyi)
 intro w10 hd10
 have h10:=h9.drawn hd10
 have s10:sub H1 (hp w10):=aU 3 h10.l
 clear h9
 have rr:=FU hmi (h10.pick 4 [2,0,1,3])
 have hFl:=hV.ln q i hmi
 refine ⟨λu=>sub H1 (hp u),s10,_,λu s=>rk.cell0 s,_,_,_,λu s=>hI1.r.cell s (j:=9) rfl,aw eT h1 ⟨_,_,_,λu s=>(rT.mono g1).cell0 s,aw eT2 h2 ⟨_,_,_,λu s=>(rT2.mono g1).cell0 s,(Ti (kS hFl (.inr ⟨_,rfl,rr⟩)) (by omega) (by omega)).mono ?_⟩⟩⟩
 rintro _ w15 ⟨o15,c15,rfl,hl⟩
 have h15:=hl.qV h10.l
 clear hl h10 rr
 rw [<- oZ] at h15 ⊢
 refine ⟨_,_,_,rfl,aU 4 h15.l,ah h15 λk32 w16 h=>⟨aU 5 h.l,?_⟩⟩
 refine (aP (us:=cG ds) aQ (rfl:aj Ty _ = .slice _) (rfl:aj Ty _ = .slice _) rfl rfl rfl (h.pick 6 [0,2,1,3,4,5]) rfl (by simp [aV]) (by show (ds.length + 1) * 40<=_; omega) (by omega)).mono ?_
 rintro _ w17 ⟨o16,c16,rfl,h⟩
 refine ⟨_,_,_,rfl,aU 5 h.l,⟨by omega,by omega⟩,⟨i + 1,ds ++ [(((q:Int),(m:Int)),((o15,c15),dc (F q i)))],by simp,h2,by simp,?_,?_⟩,bw h2⟩
 ·rw [WB,hds,htk,RJ hcomp,hrow,Wj]
  rfl
 ·rw [AO,show np (ds ++ [(((q:Int),(m:Int)),((o15,c15),dc (F q i)))]) = np ds ++ [own 1 o15 (dc (F q i)).length c15 (iv (dc (F q i)))] by unfold np; rw [WB]; rfl]
  have h1:St w17 [own 1 o15 (dc (F q i)).length c15 (iv (dc (F q i))),aG (np ds),own 3 o16 (ds.length + 1) c16 (cG ds ++ OD (((q:Int),(m:Int)),((o15,c15),dc (F q i)))),aG (qb g ss d F),has H1]:=h.pick 6 [2,3,0,4,5]
  have h2:=St.on (N:=[_,_,_]) (St.snoc h1).swap (bD g1)
  exact h2
end Go.Proofs.YtndaepmjkbmjmaaGreatDoor



namespace Go.V
open Go.Proofs.YtndaepmjkbmjmaaGreatDoor
section
variable {g:af} {nn:List Bool} {ss:List SQ}
def Ao (q t p:Nat) (l:bG):Bool:=decide (l.st = (q:Int)) && decide (l.prod = (p:Int)) && decide ((t:Int)∈l.tm)
def vY (ls:List bG) (q t p:Nat):List bV:=(ls.filter (Ao q t p)).map λ_=>⟨2,(p:Int)⟩
def xV (ls:List bG) (q t n:Nat):List bV:=(ls.filter λl=>decide (l.st = (q:Int)) && decide ((t:Int)∈l.tm) && decide (l.prod < (n:Int))).map λl=>⟨2,l.prod⟩
theorem Et {α : Type} {k:α->Int} {c:α->Bool} {n:Int}:∀ {l:List α},(l.Pairwise λx y=>k x < k y)->l.filter (λx=>c x && decide (k x < n + 1)) = l.filter (λx=>c x && decide (k x < n)) ++ l.filter (λx=>c x && decide (k x = n))
 | [],_=>rfl
 | a :: l,h=>by
  obtain ⟨h1,h2⟩:=W_.1 h
  have ih:=Et (c:=c) (n:=n) h2
  rw [Xj,Xj,Xj,ih]
  by_cases hc:c a = true
  ·rw [hc]
   rcases Int.lt_trichotomy (k a) n with h3 | h3 | h3
   ·simp [h3,show k a < n + 1 by omega,show k a≠n by omega]
   ·have e:l.filter (λx=>c x && decide (k x < n)) = []:=Xv.2 λx hx=>by
     have:=h1 x hx; simp; intro _; omega
    have h4:decide (k a < n + 1) = true:=WI (by omega)
    have h5:decide (k a < n) = false:=W2 (by omega)
    have h6:decide (k a = n) = true:=WI h3
    rw [e,h4,h5,h6]
    simp
   ·simp [show ¬ k a < n by omega,show ¬ k a < n + 1 by omega,show k a≠n by omega]
  ·simp [hc]
theorem Ms {ls:List bG} {q t n:Nat} (h:ls.Pairwise λx y=>x.prod < y.prod):xV ls q t (n + 1) = xV ls q t n ++ vY ls q t n:=by
 unfold xV vY
 rw [show ((n + 1:Nat):Int) = (n:Int) + 1 by omega,Et (k:=bG.prod) (c:=λl:bG=>decide (l.st = (q:Int)) && decide ((t:Int)∈l.tm)) h,WB]
 congr 1
 have e:ls.filter (λx=>decide (x.st = (q:Int)) && decide ((t:Int)∈x.tm) && decide (x.prod = (n:Int))) = ls.filter (Ao q t n):=Xk λx _=>by
  unfold Ao
  rw [Bool.and_assoc,Bool.and_assoc,Bool.and_comm (decide ((t:Int)∈x.tm))]
 rw [e]
 refine Xo λx hx=>?_
 have:=(WN.1 hx).2
 unfold Ao at this
 simp at this
 rw [this.1.2]
theorem zp {ls:List bG} {q t p:Nat} {l:bG}:vY (ls ++ [l]) q t p = if Ao q t p l = true then vY ls q t p ++ [⟨2,(p:Int)⟩] else vY ls q t p:=by
 unfold vY
 rw [WK,Xj]
 by_cases h:Ao q t p l = true <;> simp [h]
theorem H4 {ls:List bG} {q t:Nat} (h:∀ l∈ls,0 < l.prod):xV ls q t 1 = []:=by
 unfold xV
 rw [Xv.2 λl hl=>by have:=h l hl; simp; intro _ _; omega]; rfl
theorem Py {ls:List bG} {q t n:Nat} (h:∀ l∈ls,l.prod < (n:Int)):xV ls q t n = FL ls q t:=by
 unfold xV FL
 congr 1
 refine Xk λl hl=>?_
 rw [WI (h l hl),Bool.and_true]
def MF (ls:List bG) (q:Nat):List bG:=ls.filter λl=>decide (l.st = (q:Int))
theorem UQ (ls:List bG) (q t:Nat):FL (MF ls q) q t = FL ls q t:=by
 unfold FL MF
 rw [List.filter_filter]
 congr 1
 refine Xk λl _=>?_
 cases h:decide (l.st = (q:Int)) <;> simp
end
end Go.V
namespace Go.V
open Go.Proofs.YtndaepmjkbmjmaaGreatDoor
section
variable {g:af} {nn:List Bool} {ss:List SQ}
theorem Pz (hc:ak g) (hA:bm g ss) {q:Nat}:wg ss q 0 = []:=by
 unfold wg
 cases h:eW ss q ((0:Nat):Int) with
 | none=>rfl
 | some j =>
  obtain ⟨r,k,e,hr,he,e1,_⟩:=py h
  have:=(fm hc hA hr he).1
  have e1:e.sym = 0:=e1
  omega
def FZ (K:List ag) (t i:Nat):List bV:=if t = 0 then ((K.take i).filter λx=>decide (x = ⟨0,1⟩)).map λ_=>⟨3,0⟩ else []
theorem H5 {K:List ag} {t:Nat}:FZ K t 0 = []:=by unfold FZ; split <;> simp
theorem xW {K:List ag} {t i:Nat} {y:ag} (h:K[i]? = some y):FZ K t (i + 1) = if t = 0/\y = ⟨0,1⟩ then FZ K t i ++ [⟨3,0⟩] else FZ K t i:=by
 unfold FZ
 rw [Wf,h,WK]
 by_cases h0:t = 0 <;> by_cases h1:y = ⟨0,1⟩ <;> simp [h0,h1]
theorem JP {α : Type} [DecidableEq α] {a:α}:∀ {l:List α},l.Nodup->l.filter (λx=>decide (x = a)) = if a∈l then [a] else []
 | [],_=>by simp
 | b :: l,h=>by
  obtain ⟨h1,h2⟩:=W5.1 h
  have ih:=JP (a:=a) h2
  rw [Xj,ih]
  by_cases e:b = a
  ·subst e
   rw [Wn (by simp),Wg h1,Wn (by simp)]
  ·rw [Wg (by simp [e])]
   have:(a∈b :: l)↔a∈l:=by rw [Wp]; exact ⟨λh=>h.resolve_left (XG e),.inr⟩
   by_cases h3:a∈l
   ·rw [Wn h3,Wn (this.2 h3)]
   ·rw [Wg h3,Wg λh=>h3 (this.1 h)]
theorem RL {q t:Nat} {r:SQ} (hr:ss[q]? = some r) (hK:r.1.2.Nodup):FZ r.1.2 t r.1.2.length = KZ ss q t:=by
 unfold FZ KZ
 rw [hr,Ww,JP hK]
 by_cases h0:t = 0 <;> by_cases h1:(⟨0,1⟩ : ag)∈r.1.2 <;> simp [h0,h1]
def JQ (tm:List Int) (t p i:Nat):List bV:=((tm.take i).filter λx=>decide (x = (t:Int))).map λ_=>⟨2,(p:Int)⟩
theorem H6 {tm:List Int} {t p:Nat}:JQ tm t p 0 = []:=by unfold JQ; simp
theorem xX {tm:List Int} {t p i:Nat} {y:Int} (h:tm[i]? = some y):JQ tm t p (i + 1) = if y = (t:Int) then JQ tm t p i ++ [⟨2,(p:Int)⟩] else JQ tm t p i:=by
 unfold JQ
 rw [Wf,h,WK]
 by_cases h1:y = (t:Int) <;> simp [h1]
theorem RM {l:bG} {q t p:Nat} (hr:ja l.tm) (h1:l.st = (q:Int)) (h2:l.prod = (p:Int)):JQ l.tm t p l.tm.length = if Ao q t p l = true then [⟨2,(p:Int)⟩] else []:=by
 unfold JQ Ao
 have hn:l.tm.Nodup:=WY.2 (List.Pairwise.imp (λh e=>by omega) hr)
 rw [Ww,JP hn,h1,h2]
 by_cases h:(t:Int)∈l.tm <;> simp [h]
end
end Go.V
namespace Go.Proofs.YtndaepmjkbmjmaaGreatDoor
open Go.V
variable {w:World} {g:af} {nn:List Bool} {ss:List SQ} {x:GA}
theorem Mt {oA oL:Yg} {cA cL q t:Nat} {ask int:Int} {ls:List bG} (hc:ak g) (hA:bm g ss) (hb:iE g) (hg:gR (hp w) g x) (ha:xl (hp w) ss oA) (hq:q < ss.length) (htT:t < g.T) (hL:a_ (hp w) ls oL ls.length) (hls:ls = MF (bq g nn ss) q) :
    aA Tryz.prog pX [.agg ⟨x.cells⟩,.agg #[.slice oA ss.length cA,.int .i64 ask,.int .i64 int],.slice oL ls.length cL,.int .i64 (q:Int),.int .i64 (t:Int)] w λv w'=>∃ (o:Yg) (c:Nat),v = .slice o (dM g nn ss q t).length c/\St w' (own 2 o (dM g nn ss q t).length c (mZ (dM g nn ss q t)) :: all w):=by
  obtain ⟨sT,sN,sP,sP2,_,_⟩:=hc.ct
  have hkl:=hA.yG hc
  have hke:∀ q∈ss,q.2.2.length<=130:=λq hq=>(hkl q hq).2
  have h256:=hA.dn.2.1
  have hlr:=zd (g:=g) (nn:=nn) (ss:=ss) q
  have hlm:∀ l∈ls,l∈bq g nn ss/\l.st = (q:Int):=λl hl=>by
    rw [hls] at hl
    obtain ⟨h1,h2⟩:=WN.1 hl
    exact ⟨h1,V7 h2⟩
  have hlp:∀ l∈ls,0 < l.prod/\l.prod < (g.prods.length:Int)/\ja l.tm/\l.tm.length<=65:=λl hl=>by
    obtain ⟨q',m,_,hm,hm0,rfl⟩:=xN (hlm l hl).1
    exact ⟨by show (0:Int) < (m:Int); omega,by show (m:Int) < _; omega,Eh,WC HO sT⟩
  have hsrt:ls.Pairwise λx y=>x.prod < y.prod:=by rw [hls]; exact hlr
  have hll:ls.length<=24832:=by
    rw [hls]
    have h1:=WM (λl:bG=>decide (l.st = (q:Int))) (bq g nn ss)
    have h2:=(AP hc hA).1
    rw [<- vQ (nn:=nn)] at h2
    unfold MF
    omega
  have hfin:wg ss q t ++ KZ ss q t ++ xV ls q t g.prods.length = dM g nn ss q t:=by
    unfold dM
    rw [Py λl hl=>(hlp l hl).2.1,hls,UQ]
  have htot:=HS (g:=g) (nn:=nn) (ss:=ss) (q:=q) (t:=t)
  have hs1:=K1 (ss:=ss) q t
  have ha1:=K2 (ss:=ss) q t
  have hrl:∀ n,(xV ls q t n).length<=24832:=λn=>by
    unfold xV
    rw [Wh]
    exact WC (WM _ _) hll
  have hil:∀ n p,(vY (ls.take n) q t p).length<=24832:=λn p=>by
    unfold vY
    rw [Wh]
    have h1:=WM (Ao q t p) (ls.take n)
    rw [Wx] at h1
    omega
  refine ng (cW hg λk1 w1 gw hg1 Bx=>ah (St.all w1) λk2 w2 h2=>?_)
  have rA:av (hp w2) (aM k2) [.slice oA ss.length cA,.int .i64 ask,.int .i64 int]:=ai 0 h2.l
  have g12:Gr w1 w2:=h2.aZ
  clear h2
  have gw2:=gw.trans g12
  refine ⟨_,_,_,_,_,rA.at (sub.refl _) rfl,(Oc hA (ha.mono gw2) hq hke h256).mono ?_⟩
  rintro _ w3 ⟨rfl,g23⟩
  have gw3:=gw2.trans g23
  have rA:=rA.mono g23
  have ha:=ha.mono gw3
  have hL:=hL.mono gw3
  have Bx:=λ{u:World} (s:Gr w3 u)=>Bx.c4 (w:=u) ((g12.trans g23).trans s)
  have fin:∀ {u:World} {o:Yg} {n c:Nat} {us:List Value},St u (own 2 o n c us :: all w3)->St u (own 2 o n c us :: all w):=λh=>St.qV h (bD gw3)
  refine ⟨_,rfl,λo n c w'=>n = (wg ss q t).length/\St w' (own 2 o n c (mZ (wg ss q t)) :: all w3),?_,?_⟩
  · refine ae (λh1=>ae (λh2=>?_) λh2=>?_) λh1=>?_
    · have h2:0<=sO ss q (t:Int):=V7 h2
      cases hx:eW ss q (t:Int) with
      | none=>unfold sO at h2; rw [hx] at h2; simp at h2
      | some j =>
        have e1:wg ss q t = [⟨1,j⟩]:=by unfold wg; rw [hx]
        have e2:sO ss q (t:Int) = j:=by unfold sO; rw [hx]; rfl
        rw [e1,e2]
        refine ah (az 2 (St.all w3)) λk5 w4 h=>(aP (us:=[]) aQ (rfl:aj Ty _ = .slice _) (rfl:aj Ty _ = .slice _) rfl rfl rfl h rfl (by simp [aV]) (by show (0 + 1) * 16<=_; omega) (by omega)).mono ?_
        rintro _ w5 ⟨o',c',rfl,h⟩
        exact ⟨_,_,_,rfl,rfl,h.pick 2 [0]⟩
    · have h2:¬ 0<=sO ss q (t:Int):=V8 h2
      have e1:wg ss q t = []:=by
        unfold wg
        cases hx:eW ss q (t:Int) with
        | none=>rfl
        | some j =>
          have:=(iL hc hA hx).1
          unfold sO at h2; rw [hx] at h2; exact absurd this h2
      rw [e1]
      exact ⟨rfl,az 2 (St.all w3)⟩
    · have h1:t = 0:=by have:=V8 h1; omega
      rw [h1,Pz hc hA]
      exact ⟨rfl,az 2 (St.all w3)⟩
  rintro _ o3 _ c3 w6 ⟨rfl,h⟩
  obtain ⟨r,hr⟩ : ∃ r,ss[q]? = some r:=⟨_,Wa hq⟩
  obtain ⟨ad,eA,rs,rkk,_⟩:=ha q r hr
  have hrl0:=(hkl r (V_ hr)).1
  have hK:r.1.2.Nodup:=((dg (g:=g) (by omega) q).Pd _ (V_ (fl hA hr).1)).nodup
  have s6:Gr w3 w6:=aU 1 h.l
  refine ⟨_,_,_,rA.cell0 s6,au eA hq ⟨_,_,_,rs.cell0 s6,λo n c z w'=>∃ i:Nat,z = i/\i<=r.1.2.length/\n = (wg ss q t ++ FZ r.1.2 t i).length/\St w' (own 2 o n c (mZ (wg ss q t ++ FZ r.1.2 t i)) :: all w3),λ_ _ _ z _=>r.1.2.length - z.toNat,⟨0,rfl,Wi _,by rw [H5,WG],by rw [H5,WG]; exact h⟩,?_⟩⟩
  clear h
  rintro _ o6 _ c6 _ w7 ⟨i,rfl,hi,rfl,h⟩
  have s7:Gr w3 w7:=aU 1 h.l
  refine ae (λh1=>?_) λh1=>?_
  · have h1:i < r.1.2.length:=by have:=V7 h1; omega
    obtain ⟨y,yad,hy,hya,ry⟩:=od rkk h1
    have hlen:(wg ss q t ++ FZ r.1.2 t i).length<=30000:=by
      rw [We]
      unfold FZ
      split
      · rw [Wh]
        have:=WM (λx:ag=>decide (x = ⟨0,1⟩)) (r.1.2.take i)
        rw [Wx] at this
        omega
      · simp; omega
    have skip:¬ (t = 0/\y = ⟨0,1⟩)->ax ((i:Int) + 1)/\(∃ i' : Nat,(i:Int) + 1 = i'/\i'<=r.1.2.length/\(wg ss q t ++ FZ r.1.2 t i).length = (wg ss q t ++ FZ r.1.2 t i').length/\St w7 (own 2 o6 (wg ss q t ++ FZ r.1.2 t i).length c6 (mZ (wg ss q t ++ FZ r.1.2 t i')) :: all w3))/\r.1.2.length - ((i:Int) + 1).toNat < r.1.2.length - (i:Int).toNat:=λhne=>by
      refine ⟨⟨by omega,by omega⟩,⟨i + 1,by simp,h1,?_,?_⟩,bw h1⟩
      · rw [xW hy,Wg hne]
      · rw [xW hy,Wg hne]; exact h
    refine ae (λh2=>au hya h1 ⟨_,ry.cell0 s7,ae (λh3=>au hya h1 ⟨_,ry.cell s7 (j:=1) rfl,ae (λh4=>?_) λh4=>skip λhh=>by rw [hh.2] at h4; simp at h4⟩) λh3=>skip λhh=>by rw [hh.2] at h3; simp at h3⟩) λh2=>skip λhh=>by rw [hh.1] at h2; simp at h2
    have h2 : t = 0 := by have : (t : Int) = 0 := by simpa using h2
                          omega
    have h3:y.prod = 0:=by simpa using h3
    have h4:y.dot = 1:=by simpa using h4
    have hy2:y = ⟨0,1⟩:=by cases y; simp at h3 h4; simp [h3,h4]
    refine ah h λk16 w8 h=>(aP (us:=mZ (wg ss q t ++ FZ r.1.2 t i)) aQ (rfl:aj Ty _ = .slice _) (rfl:aj Ty _ = .slice _) rfl rfl rfl h rfl (by simp [aV]) (by show ((wg ss q t ++ FZ r.1.2 t i).length + 1) * 16<=_; omega) (by omega)).mono ?_
    rintro _ w9 ⟨o',c',rfl,h⟩
    refine ⟨_,_,_,rfl,⟨by omega,by omega⟩,⟨i + 1,by simp,h1,?_,?_⟩,bw h1⟩
    · rw [xW hy,Wn ⟨h2,hy2⟩]; simp; omega
    · rw [xW hy,Wn ⟨h2,hy2⟩,<- Wj,FN]
      exact h.pick 2 [0]
  have h1:i = r.1.2.length:=by have:=V8 h1; omega
  subst h1
  rw [RL hr hK] at h ⊢
  obtain ⟨P,eP⟩ : ∃ P,P = wg ss q t ++ KZ ss q t:=⟨_,rfl⟩
  have hPl:P.length<=2:=by rw [eP,We]; omega
  rw [<- eP] at h hfin ⊢
  have hpl:=hg1.p.1
  have hpos:1<=g.prods.length:=by
    obtain ⟨_,_,_,p0,hp0,_⟩:=hc
    have:=(V9.1 hp0).1
    omega
  refine ⟨λo n c z w'=>∃ p:Nat,z = p/\1<=p/\p<=g.prods.length/\n = (P ++ xV ls q t p).length/\St w' (own 2 o n c (mZ (P ++ xV ls q t p)) :: all w3),λ_ _ _ z _=>g.prods.length - z.toNat,⟨1,rfl,Wr _,hpos,by rw [H4 λl hl=>(hlp l hl).1,WG],by rw [H4 λl hl=>(hlp l hl).1,WG]; exact h⟩,?_⟩
  clear h
  rintro _ o8 _ c8 _ w10 ⟨p,rfl,hp1,hp2,rfl,h⟩
  have s10:Gr w3 w10:=aU 1 h.l
  refine ⟨_,_,_,Bx s10,ae (λh1=>?_) λh1=>?_⟩
  rotate_left
  · have h1:p = g.prods.length:=by have:=V8 h1; omega
    subst h1
    rw [hfin] at h ⊢
    exact ⟨_,_,rfl,fin h⟩
  have h1:p < g.prods.length:=by have:=V7 h1; omega
  have hrp:=hrl p
  obtain ⟨Q,eQ⟩ : ∃ Q,Q = P ++ xV ls q t p:=⟨_,rfl⟩
  have hQl:Q.length<=25000:=by rw [eQ,We]; omega
  have hQn:P ++ xV ls q t (p + 1) = Q ++ vY ls q t p:=by rw [Ms hsrt,eQ,Wj]
  rw [<- eQ] at h ⊢
  refine ⟨λo n c z w'=>∃ i:Nat,z = i/\i<=ls.length/\n = (Q ++ vY (ls.take i) q t p).length/\St w' (own 2 o n c (mZ (Q ++ vY (ls.take i) q t p)) :: all w3),λ_ _ _ z _=>ls.length - z.toNat,⟨0,rfl,Wi _,by simp [vY],by simpa [vY] using h⟩,?_⟩
  clear h
  rintro _ o10 _ c10 _ w11 ⟨i,rfl,hi,rfl,h⟩
  have s11:Gr w3 w11:=aU 1 h.l
  refine ae (λh2=>?_) λh2=>?_
  rotate_left
  · have h2:i = ls.length:=by have:=V8 h2; omega
    rw [h2,Ww,<- hQn] at h ⊢
    exact ⟨⟨by omega,by omega⟩,⟨p + 1,by simp,by omega,h1,rfl,h⟩,bw h1⟩
  have h2:i < ls.length:=by have:=V7 h2; omega
  obtain ⟨l,lad,la,lc,hl,hla,rl,rlt⟩:=OW hL h2
  have hlmem:=V_ hl
  obtain ⟨_,hlst⟩:=hlm l hlmem
  obtain ⟨_,_,hrise,htl⟩:=hlp l hlmem
  have htk:ls.take (i + 1) = ls.take i ++ [l]:=by rw [Wf,hl]; rfl
  have hiI:=hil i p
  refine au hla h2 ⟨_,rl.cell0 s11,LG (by rw [hlst]; simp) (au hla h2 ⟨_,rl.cell s11 (j:=1) rfl,ae (λh3=>?_) λh3=>?_⟩)⟩
  · have h3:l.prod≠(p:Int):=by simpa using h3
    have hno:Ao q t p l = false:=by unfold Ao; rw [W2 h3]; simp
    refine ⟨⟨by omega,by omega⟩,⟨i + 1,by simp,h2,?_,?_⟩,bw h2⟩
    · rw [htk,zp,hno]; rfl
    · rw [htk,zp,hno]; exact h
  have h3:l.prod = (p:Int):=by simpa using h3
  obtain ⟨S,eS⟩ : ∃ S,S = Q ++ vY (ls.take i) q t p:=⟨_,rfl⟩
  have hSl:S.length<=50000:=by rw [eS,We]; omega
  rw [<- eS] at h ⊢
  refine ⟨λo n c z w'=>∃ k:Nat,z = k/\k<=l.tm.length/\n = (S ++ JQ l.tm t p k).length/\St w' (own 2 o n c (mZ (S ++ JQ l.tm t p k)) :: all w3),λ_ _ _ z _=>l.tm.length - z.toNat,⟨0,rfl,Wi _,by rw [H6,WG],by rw [H6,WG]; exact h⟩,?_⟩
  clear h
  rintro _ o11 _ c11 _ w12 ⟨k,rfl,hk,rfl,h⟩
  have s12:Gr w3 w12:=aU 1 h.l
  refine au hla h2 ⟨_,_,_,rl.cell s12 (j:=2) rfl,ae (λh4=>?_) λh4=>?_⟩
  rotate_left
  · have h4:k = l.tm.length:=by have:=V8 h4; omega
    have e:S ++ JQ l.tm t p l.tm.length = Q ++ vY (ls.take (i + 1)) q t p:=by
      rw [RM hrise hlst h3,htk,zp,eS]
      by_cases hh:Ao q t p l = true
      · rw [Wn hh,Wn hh,Wj]
      · rw [Wg hh,Wg hh,WG]
    rw [h4,e] at h ⊢
    exact ⟨⟨by omega,by omega⟩,⟨i + 1,by simp,h2,rfl,h⟩,bw h2⟩
  have h4:k < l.tm.length:=by have:=V7 h4; omega
  obtain ⟨z,zad,hz,hza,rz⟩:=rlt.cE h4
  have htm:(S ++ JQ l.tm t p k).length<=60000:=by
    rw [We]
    unfold JQ
    rw [Wh]
    have:=WM (λx:Int=>decide (x = (t:Int))) (l.tm.take k)
    rw [Wx] at this
    omega
  refine au hla h2 ⟨_,_,_,rl.cell s12 (j:=2) rfl,aw hza h4 ⟨_,rz _ s12,ae (λh5=>?_) λh5=>?_⟩⟩
  · have h5:z = (t:Int):=by simpa using h5
    refine ah h λk31 w13 h=>(aP (us:=mZ (S ++ JQ l.tm t p k)) aQ (rfl:aj Ty _ = .slice _) (rfl:aj Ty _ = .slice _) rfl rfl rfl h rfl (by simp [aV]) (by show ((S ++ JQ l.tm t p k).length + 1) * 16<=_; omega) (by omega)).mono ?_
    rintro _ w14 ⟨o',c',rfl,h⟩
    refine ⟨_,_,_,rfl,⟨by omega,by omega⟩,⟨k + 1,by simp,h4,?_,?_⟩,bw h4⟩
    · rw [xX hz,Wn h5]; simp; omega
    · rw [xX hz,Wn h5,<- Wj,FN]
      exact h.pick 2 [0]
  · have h5:z≠(t:Int):=by simpa using h5
    refine ⟨⟨by omega,by omega⟩,⟨k + 1,by simp,h4,?_,?_⟩,bw h4⟩
    · rw [xX hz,Wg h5]
    · rw [xX hz,Wg h5]; exact h
end Go.Proofs.YtndaepmjkbmjmaaGreatDoor
namespace Go.V
open Go.Proofs.YtndaepmjkbmjmaaGreatDoor
theorem Lf {h:Hp} {o:Yg} {ds:List gU} (r:eR o (cG ds) h) (hd:∀ d∈ds,a_ h d.2.2 d.2.1.1 d.2.2.length):a_ h (ds.map jb) o ds.length:=by
 refine ⟨by simp,λi x hi=>?_⟩
 rw [Wc] at hi
 cases hb:ds[i]? with
 | none=>rw [hb] at hi; cases hi
 | some p =>
  rw [hb] at hi
  simp only [Xb,Option.some.injEq] at hi
  subst hi
  rcases r with e | ⟨ad,e,hc⟩
  ·have h1:=congrArg List.length e
   rw [AN,W0] at h1
   have:=(V9.1 hb).1; omega
  ·exact ⟨ad,OD p,e,bR (n:=3) (λ_=>rfl) ds ad hc i p hb,p.2.1.1,p.2.1.2,rfl,hd p (V_ hb)⟩
def RN (bs:List gU) (q:Nat):List gU:=bs.filter λb=>decide (b.1.1 = (q:Int))
theorem TQ (bs:List gU) (q:Nat):(RN bs q).map jb = MF (bs.map jb) q:=by
 unfold RN MF
 rw [List.filter_map]; rfl
theorem PA {bs:List gU} {b:gU} {q:Nat}:RN (bs ++ [b]) q = if b.1.1 = (q:Int) then RN bs q ++ [b] else RN bs q:=by
 unfold RN
 rw [WK]
 by_cases h:b.1.1 = (q:Int) <;> simp [h]
end Go.V
namespace Go.Proofs.YtndaepmjkbmjmaaGreatDoor
open Go.V
variable {w:World} {g:af} {nn:List Bool} {ss:List SQ} {x:GA}
theorem TR {oA oL:Yg} {cA cL:Nat} {ask int:Int} {bs:List gU} (hc:ak g) (hA:bm g ss) (hb:iE g) (hg:gR (hp w) g x) (ha:xl (hp w) ss oA) (hL:eR oL (cG bs) (hp w)) (hLt:∀ b∈bs,a_ (hp w) b.2.2 b.2.1.1 b.2.2.length) (hbs:bs.map jb = bq g nn ss) :
  aA Tryz.prog xS [.agg ⟨x.cells⟩,.agg #[.slice oA ss.length cA,.int .i64 ask,.int .i64 int],.slice oL bs.length cL] w λv w'=>∃ (o:Yg) (c:Nat) (ds:List t_),v = .slice o ds.length c/\ds.map vV = dj g nn ss 1/\St w' (own 3 o ds.length c (xR ds) :: aG (oG ds) :: all w):=by
 obtain ⟨sT,sN,sP,sP2,_,_⟩:=hc.ct
 have h256:=hA.dn.2.1
 have hbl:bs.length<=24832:=by
  have e:=congrArg List.length hbs
  have h2:=(AP hc hA).1
  rw [<- vQ (nn:=nn)] at h2
  rw [Wh] at e
  omega
 have hbq:∀ b∈bs,∃ q:Nat,b.1.1 = (q:Int)/\q < ss.length:=λb hb'=>by
  have hm:jb b∈bq g nn ss:=by rw [<- hbs]; exact List.mem_map_of_mem hb'
  obtain ⟨q,m,hq,_,_,e⟩:=xN hm
  exact ⟨q,congrArg bG.st e,hq⟩
 have hTl:g.T = x.tl:=hg.t.1
 refine uS (cW hg λk1 w1 gw hg1 Bx=>ah (St.all w1) λk2 w2 h2=>?_)
 have rA:av (hp w2) (aM k2) [.slice oA ss.length cA,.int .i64 ask,.int .i64 int]:=ai 0 h2.l
 have g12:Gr w1 w2:=h2.aZ
 clear h2
 have gw2:=gw.trans g12
 refine ⟨_,_,_,rA.cell0 (sub.refl _),⟨by omega,rfl,by omega⟩,?_⟩
 rw [Ws,db]
 refine ah (St.all w2) λk5 w3 h=>?_
 have hL2:=eR.mono gw2 hL
 have hLt2:=λb hb'=>(hLt b hb').mono gw2
 have hg2:=hg1.mono g12
 have ha2:=ha.mono gw2
 have rLk:a_ (hp w2) (bs.map jb) oL bs.length:=Lf hL2 hLt2
 refine ⟨λz w'=>∃ (i:Nat) (rows:List (Lq gU)),z = i/\i<=bs.length/\rows.length = ss.length/\(∀ (q:Nat) ro,rows[q]? = some ro->ro.2 = RN (bs.take i) q)/\St w' (aK k5 (rows.map dO) :: aG (rows.map (dm 3 cG)) :: all w2),λz _=>bs.length - z.toNat,⟨0,List.replicate ss.length ((none,0),[]),rfl,Wi _,by simp,λq ro hro=>?_,?_⟩,?_⟩
 ·rw [Xr] at hro
  split at hro
  ·cases hro; rfl
  ·cases hro
 ·rw [List.map_replicate,List.map_replicate]
  exact (wV (A:=own 3 none 0 0 []) (λw L h=>az 3 h) ss.length h).swap
 clear h
 rintro _ _ w4 ⟨i,rows,rfl,hi,hrl,hro,h⟩
 have s4:Gr w2 w4:=aU 2 h.l
 refine ae (λh1=>?_) λh1=>?_
 ·have h1:i < bs.length:=by have:=V7 h1; omega
  obtain ⟨b,hbi⟩ : ∃ b,bs[i]? = some b:=⟨_,Wa h1⟩
  obtain ⟨q,hbq1,hbq2⟩:=hbq b (V_ hbi)
  obtain ⟨oLa,eL,rb⟩ : ∃ ad,oL = some ad/\av (hp w2) (ad.add (cV i 3)) (OD b):=by
   rcases hL2 with e | ⟨ad,e,hcc⟩
   ·have h3:=congrArg List.length e
    rw [AN,W0] at h3; omega
   ·exact ⟨ad,e,bR (n:=3) (λ_=>rfl) bs ad hcc i b hbi⟩
  obtain ⟨ro,hrq⟩ : ∃ ro,rows[q]? = some ro:=⟨_,Wa (by omega)⟩
  have hroq:=hro q ro hrq
  have hrol:ro.2.length<=24832:=by
   rw [hroq]
   unfold RN
   have h3:=WM (λb:gU=>decide (b.1.1 = (q:Int))) (bs.take i)
   rw [Wx] at h3
   omega
  intro w5 hd
  have h:=h.drawn hd
  have s5:Gr w2 w5:=aU 2 h.l
  have hsl:(rows.map dO)[q]? = some (dO ro):=by rw [Wc,hrq]; rfl
  have rb0:av (hp w2) (oLa.add (cV i 3)) [.int .i64 (q:Int),.int .i64 b.1.2,dO b.2]:=by rw [<- hbq1]; exact rb
  refine ⟨λu=>Gr w2 u/\av (hp u) (aM k5) (rows.map dO),⟨s5,ai 0 h.l⟩,au eL h1 ⟨_,λu s=>rb0.cell0 s.1,au eL h1 ⟨_,λu s=>rb0.cell0 s.1,aw rfl hbq2 ⟨_,_,_,λu s=>s.2.cell (sub.refl _) hsl,au eL h1 ⟨_,_,_,_,_,λu s=>rb0.at s.1 rfl,ah h λk10 w10 h=>⟨⟨aU 3 h.l,ai 1 h.l⟩,?_⟩⟩⟩⟩⟩⟩
  have hmr:(rows.map (dm 3 cG))[q]? = some (dm 3 cG ro):=by rw [Wc,hrq]; rfl
  have h6:St w10 (own 3 ro.1.1 ro.2.length ro.1.2 (cG ro.2) :: aG ((rows.map (dm 3 cG)).take q ++ (rows.map (dm 3 cG)).drop (q + 1)) :: aK k10 [.int .i64 (q:Int),.int .i64 b.1.2,dO b.2] :: aK k5 (rows.map dO) :: all w2):=St.BK (h.pick 3 [2,0,1]) hmr
  refine (aP (us:=cG ro.2) aQ (rfl:aj Ty _ = .slice _) (rfl:aj Ty _ = .slice _) rfl rfl rfl (h6.pick 4 [2,0,1,3]) rfl (by simp [aV,dO]) (by show (ro.2.length + 1) * 40<=_; omega) (by omega)).mono ?_
  rintro _ w11 ⟨o4,c4,rfl,h⟩
  have h7:=St.E7 (n:=q) (M:=rows.map (dm 3 cG)) (by rw [Wh]; omega) (h.pick 4 [0,2,1,3])
  refine ⟨_,_,_,rfl,⟨aU 3 h7.l,ai 2 h7.l⟩,aw rfl hbq2 ?_⟩
  rw [aL]
  refine bh (h7.pick 3 [2,0]) (by rw [Wh]; omega) λw12 h=>?_
  refine ⟨⟨by omega,by omega⟩,⟨i + 1,rows.set q ((o4,c4),ro.2 ++ [b]),by simp,h1,by simp [hrl],λq' ro' hro'=>?_,?_⟩,bw h1⟩
  ·rw [Wf,hbi]
   show ro'.2 = RN (bs.take i ++ [b]) q'
   rw [PA,hbq1]
   rw [Xf] at hro'
   by_cases e:q = q'
   ·subst e
    rw [Wn rfl,Wn (by omega)] at hro'
    cases hro'
    rw [Wn rfl,hroq]
   ·rw [Wg e] at hro'
    rw [Wg (by omega)]
    exact hro q' ro' hro'
  ·rw [Xd,Xd]
   have e1:dO (((o4,c4),ro.2 ++ [b]):Lq gU) = .slice o4 (ro.2.length + 1) c4:=by unfold dO; simp
   have e2:dm 3 cG (((o4,c4),ro.2 ++ [b]):Lq gU) = own 3 o4 (ro.2.length + 1) c4 (cG ro.2 ++ [.int .i64 (q:Int),.int .i64 b.1.2,dO b.2]):=by
    unfold dm
    rw [AO]
    simp [cG,OD,hbq1]
   rw [e1,e2]
   exact h
 have h1:i = bs.length:=by have:=V8 h1; omega
 subst h1
 rw [Ww] at hro
 obtain ⟨H,hl,h0⟩:=vX [] (M:=aK k5 (rows.map dO) :: aG (rows.map (dm 3 cG)) :: all w2) h.l
 have hH:sub H (hp w4):=h0.1
 have g2H:sub (hp w2) H:=aU 2 hl
 have r5:av H (aM k5) (rows.map dO):=ai 0 hl
 have rrow:∀ (q:Nat) ro,rows[q]? = some ro->a_ H (MF (bq g nn ss) q) ro.1.1 (MF (bq g nn ss) q).length/\ro.2.length = (MF (bq g nn ss) q).length:=λq ro hrq=>by
  have hmr:(rows.map (dm 3 cG))[q]? = some (dm 3 cG ro):=by rw [Wc,hrq]; rfl
  obtain ⟨h3,hs3,ho3⟩:=tR (bz hl) hmr
  have hrv:eR ro.1.1 (cG ro.2) H:=eR.mono hs3 (fN 0 (yC ho3))
  have e:=hro q ro hrq
  have e2:ro.2.map jb = MF (bq g nn ss) q:=by rw [e,TQ,hbs]
  have e3:ro.2.length = (MF (bq g nn ss) q).length:=by rw [<- e2]; simp
  have hr3:=Lf hrv λd hd=>(hLt2 d (by rw [e] at hd; exact (WN.1 hd).1)).mono g2H
  rw [e2,e3] at hr3
  exact ⟨hr3,e3⟩
 have gw4:=gw2.trans s4
 have hcn:∀ n,n<=ss.length->(iU g nn ss 1 n).length<=16640:=λn hn=>by
  have h1:=zf (g:=g) (nn:=nn) (ss:=ss) (least:=1) (n:=n)
  have h2:n * g.T<=256 * 65:=XT (by omega) sT
  omega
 clear h hl h0
 refine ⟨λo n c z w'=>∃ (q:Nat) (ds:List t_),z = q/\q<=ss.length/\n = ds.length/\ds.map vV = iU g nn ss 1 q/\St w' (own 3 o n c (xR ds) :: aG (oG ds) :: all w4),λ_ _ _ z _=>ss.length - z.toNat,⟨0,[],rfl,Wi _,rfl,rfl,az 3 ((St.flat (M:=[])).2 (St.all w4))⟩,?_⟩
 rintro _ o5 _ c5 _ w13 ⟨q,ds,rfl,hq,rfl,hds,h⟩
 have s13:Gr w4 w13:=aU 2 h.l
 refine ⟨_,_,_,rA.cell0 (s4.trans s13),ae (λh1=>?_) λh1=>?_⟩
 rotate_left
 ·have h1:q = ss.length:=by have:=V8 h1; omega
  subst h1
  exact ⟨_,_,ds,rfl,hds,St.Kl h (bD gw4)⟩
 have h1:q < ss.length:=by have:=V7 h1; omega
 have hcq:=hcn q hq
 obtain ⟨ro,hrq⟩ : ∃ ro,rows[q]? = some ro:=⟨_,Wa (by omega)⟩
 obtain ⟨rr,hrrl⟩:=rrow q ro hrq
 have hsl:(rows.map dO)[q]? = some (.slice ro.1.1 (MF (bq g nn ss) q).length ro.1.2):=by rw [Wc,hrq,<- hrrl]; rfl
 refine ⟨λo n c z w'=>∃ (t:Nat) (ds:List t_),z = t/\t<=g.T/\n = ds.length/\ds.map vV = iU g nn ss 1 q ++ iT g nn ss 1 q t/\St w' (own 3 o n c (xR ds) :: aG (oG ds) :: all w4),λ_ _ _ z _=>g.T - z.toNat,⟨0,ds,rfl,Wi _,rfl,by rw [hds]; simp [iT],h⟩,?_⟩
 clear h hds
 rintro _ o7 _ c7 _ w14 ⟨t,ds,rfl,htle,rfl,hds,h⟩
 have hdl:ds.length<=17000:=by
  have e:=congrArg List.length hds
  rw [Wh,We] at e
  have:=ze (g:=g) (nn:=nn) (ss:=ss) (least:=1) (q:=q) (n:=t)
  omega
 have s14:Gr w4 w14:=aU 2 h.l
 refine ⟨_,_,_,Bx.c0 (g12.trans (s4.trans s14)),ae (λh2=>?_) λh2=>?_⟩
 rotate_left
 ·have h2:t = g.T:=by have:=V8 h2; omega
  subst h2
  rw [<- pM] at hds
  exact ⟨⟨by omega,by omega⟩,⟨q + 1,ds,by simp,h1,rfl,hds,h⟩,bw h1⟩
 have h2:t < g.T:=by have:=V7 h2; omega
 intro w15 hd
 have h:=h.drawn hd
 have s15:Gr w4 w15:=aU 2 h.l
 have s215:Gr w2 w15:=s4.trans s15
 have sH:sub H (hp w15):=sub.trans hH s15
 refine ⟨λu=>Gr w15 u,Gr.refl _,_,_,_,_,_,_,_,_,_,_,_,_,_,λu s=>Bx.row ((g12.trans s215).trans s),_,_,_,_,_,λu s=>rA.at (s215.trans s) rfl,aw rfl h1 ⟨_,_,_,λu s=>r5.cell (sub.trans sH s) hsl,(Mt hc hA hb (hg2.mono s215) (ha2.mono s215) h1 h2 (rr.mono sH) rfl).mono ?_⟩⟩
 rintro _ w19 ⟨o15,c15,rfl,hac⟩
 have h19:=hac.qV h.l
 refine ⟨_,_,_,rfl,hac.aZ,?_⟩
 clear hac h
 have hel:1<=(dM g nn ss q t).length->iT g nn ss 1 q (t + 1) = iT g nn ss 1 q t ++ [⟨(q:Int),(t:Int),dM g nn ss q t⟩]:=λh3=>by
  rw [jo]
  unfold cellAt
  rw [Wn h3]
 refine ae (λh3=>?_) λh3=>?_
 ·have h3:1<=(dM g nn ss q t).length:=by have:=V7 h3; omega
  refine ah h19 λk35 w20 h=>(aP (us:=xR ds) aQ (rfl:aj Ty _ = .slice _) (rfl:aj Ty _ = .slice _) rfl rfl rfl (h.pick 4 [0,2,1,3]) rfl (by simp [aV]) (by show (ds.length + 1) * 40<=_; omega) (by omega)).mono ?_
  rintro _ w21 ⟨o16,c16,rfl,h⟩
  refine ⟨_,_,_,rfl,⟨by omega,by omega⟩,⟨t + 1,ds ++ [(((q:Int),(t:Int)),((o15,c15),dM g nn ss q t))],by simp,h2,by simp,?_,?_⟩,bw h2⟩
  ·rw [WB,hds,hel h3,Wj]
   rfl
  ·rw [K5,show oG (ds ++ [(((q:Int),(t:Int)),((o15,c15),dM g nn ss q t))]) = oG ds ++ [own 2 o15 (dM g nn ss q t).length c15 (mZ (dM g nn ss q t))] by unfold oG; rw [WB]; rfl]
   have h4:St w21 (own 2 o15 (dM g nn ss q t).length c15 (mZ (dM g nn ss q t)) :: aG (oG ds) :: own 3 o16 (ds.length + 1) c16 (xR ds ++ K4 (((q:Int),(t:Int)),((o15,c15),dM g nn ss q t))) :: all w4):=h.pick 4 [2,3,0]
   exact (St.snoc h4).swap
 ·have h3:¬ 1<=(dM g nn ss q t).length:=by have:=V8 h3; omega
  refine ⟨⟨by omega,by omega⟩,⟨t + 1,ds,by simp,h2,rfl,?_,h19.tail⟩,bw h2⟩
  rw [jo,show cellAt g nn ss 1 q t = [] by unfold cellAt; rw [Wg h3],WG]
  exact hds
end Go.Proofs.YtndaepmjkbmjmaaGreatDoor
namespace Go.Proofs.YtndaepmjkbmjmaaGreatDoor
open Go.V
variable {w:World} {L:List ay} {g:af} {x:GA}
/-- what lies there by itself,as it is read -/
theorem VD {A B:ay} (h:St w (A :: B :: L)):∃ H,aC [A,B] H/\St w (has H :: L):=by
 obtain ⟨h1,h2,d,s1,s2,ha,hl⟩:=(St.flat (M:=[A,B])).2 h
 exact ⟨h1,ha,h1,h2,d,s1,s2,sub.refl _,hl⟩
def TS (least:Nat) (g:af) (w:World) (v:Value) (w' : World):Prop:=∃ (ss:List SQ) (ask int f:Int) (nn:List Bool) (o:Yg) (c:Nat) (H:Hp),v = .tuple #[.slice o (dj g nn ss least).length c,.int .i64 f]/\tT g ss ask int f/\(f = 0->ju g nn)/\a_ H (dj g nn ss least) o (dj g nn ss least).length/\St w' [has H,has (hp w)]
theorem UR {h0:Hp} (s:sub h0 (hp w)):St w [has λ_=>none,has h0]:=⟨λ_=>none,hp w,λ_=>.inl rfl,λ_ _ h=>(nomatch h),sub.refl _,sub.refl _,bD s⟩
theorem JR (hg:gR (hp w) g x) (hb:iE g):aA Tryz.prog qS [.agg ⟨x.cells⟩] w (TS 1 g w):=by
 refine oD (cW hg λk1 w1 gw hg1 B=>?_)
 refine ⟨_,_,_,_,_,_,_,_,_,_,_,_,_,B.row (sub.refl _),(GX hg1 hb).mono ?_⟩
 rintro _ w2 ⟨⟨r,rfl,hr⟩,g12⟩
 refine ⟨_,rfl,ae (λh1=>?_) λh1=>?_⟩
 ·have hn:¬ ak g:=λh=>by rw [hr.2 h] at h1; cases h1
  exact ⟨[],0,0,1,[],none,0,_,rfl,.inl ⟨hn,rfl,rfl,rfl,rfl⟩,λh=>absurd h (by decide),a_.nil,UR (gw.trans g12)⟩
 refine ⟨_,_,_,_,_,_,_,_,_,_,_,_,_,B.row g12,(N9 (hg1.mono g12) hb).mono ?_⟩
 rintro _ w3 ⟨oA,cA,ss,ask,int,f,rfl,hR,h3⟩
 have g23:Gr w2 w3:=aU 3 h3.l
 have ha:xl (hp w3) ss oA:=tS h3.l
 clear h3
 refine ⟨_,_,_,_,_,_,rfl,ah (St.all w3) λk20 w4 h=>bx h rfl (by simp [aV]) λw5 h=>?_⟩
 have g35:Gr w3 w5:=h.aZ
 have r20:av (hp w5) (aM k20) [.slice oA ss.length cA,.int .i64 ask,.int .i64 int]:=ai 0 h.l
 clear h
 have g15:Gr w1 w5:=g12.trans (g23.trans g35)
 refine ae (λh1=>?_) λh1=>?_
 ·have h1:f≠0:=by simpa using h1
  have hz:=hR.nil h1
  subst hz
  exact ⟨[],ask,int,f,[],none,0,_,rfl,hR,λh=>absurd h h1,a_.nil,UR (gw.trans g15)⟩
 have h1:f = 0:=by simpa using h1
 subst h1
 obtain ⟨hc,hA⟩:=hR.L4 rfl
 have hg5:=hg1.mono g15
 have ha5:=ha.mono g35
 intro w6 hd
 have g56:Gr w5 w6:=Gr.drawn hd
 refine ⟨λu=>Gr w5 u,g56,_,_,_,_,_,_,_,_,_,_,_,_,_,λu s=>B.row (g15.trans s),_,_,_,_,_,λu s=>r20.at s rfl,_,_,_,_,_,_,_,_,_,_,_,_,_,λu s=>B.row (g15.trans s),_,_,_,_,_,λu s=>r20.at s rfl,(TN hc hA hb (hg5.mono g56) (ha5.mono g56)).mono ?_⟩
 rintro _ w7 ⟨d,ns,F,H,rfl,hns,hI,hH,hV,hC,h⟩
 have gH7:sub H (hp w7):=aU 1 h.l
 have g57:Gr w5 w7:=g56.trans (sub.trans hH gH7)
 refine ⟨_,rfl,g57,(Mr hc hA hns hI hV hC h).mono ?_⟩
 rintro _ w8 ⟨oL,cL,bs,rfl,hbs,h⟩
 have gH8:sub H (hp w8):=aU 3 h.l
 have g58:Gr w5 w8:=g56.trans (sub.trans hH gH8)
 have hL:eR oL (cG bs) (hp w8):=fN 0 h.l
 have hLt:∀ b∈bs,a_ (hp w8) b.2.2 b.2.1.1 b.2.2.length:=λb hb'=>by
  obtain ⟨i,hi⟩:=WH hb'
  exact VN (h.pick 4 [1,0,2,3]) hi
 clear h
 refine ⟨_,_,_,rfl,g58,(TR hc hA hb (hg5.mono g58) (ha5.mono g58) hL hLt hbs).mono ?_⟩
 rintro _ w9 ⟨o,c,ds,rfl,hds,h⟩
 have g59:Gr w5 w9:=g58.trans (aU 2 h.l)
 obtain ⟨H',hH',h⟩:=VD h
 have r:a_ H' (ds.map vV) o ds.length:=K9 (fN 0 hH') λd hd=>by
  obtain ⟨i,hi⟩:=WH hd
  have hA:(oG ds)[i]? = some (dm 2 mZ d.2):=by unfold oG; rw [Wc,hi]; rfl
  obtain ⟨h3,hs3,ho3⟩:=tR (bz hH') hA
  exact (AR rfl (fN 0 (yC ho3))).mono hs3
 have e:ds.length = (dj g ns ss 1).length:=by rw [<- hds]; simp
 rw [hds,e] at r
 exact ⟨_,_,_,rfl,g59,ss,ask,int,0,ns,o,c,H',by rw [e],hR,λ_=>hns,r,St.qV h (bD (gw.trans (g15.trans g58)))⟩
end Go.Proofs.YtndaepmjkbmjmaaGreatDoor
namespace Go.V
open Go.Proofs.YtndaepmjkbmjmaaGreatDoor
theorem CK {α : Type} {f:α->List Value} {n:Nat} (hf:∀ x,(f x).length = n):∀ (xs:List α) (i:Nat) (y:α),i < xs.length->(xs.flatMap f).take (i * n) ++ f y ++ (xs.flatMap f).drop (i * n + n) = (xs.set i y).flatMap f
 | [],i,y,h=>by simp at h
 | x :: xs,0,y,_=>by
  rw [WS,List.set_cons_zero,WS]
  rw [show 0 * n = 0 from Nat.zero_mul n,List.take_zero,WT,Xc,List.drop_append,Xl (by rw [hf]; omega),hf,Xe]
  rfl
 | x :: xs,i + 1,y,h=>by
  have hx:=hf x
  have ih:=CK hf xs i y (by simpa using h)
  rw [WS,List.set_cons_succ,WS,<- ih]
  have e:(i + 1) * n = n + i * n:=by rw [Xz,X9]
  rw [e,List.take_append,List.drop_append,Wq (by omega),Xl (by omega),hx,W6,show n + i * n + n - n = i * n + n from by omega]
  simp
theorem TT {w:World} {L:List ay} {n c i:Nat} {o:Yg} {ds:List t_} {b:t_} (h:St w (own 3 o n c (xR ds) :: L)) (hb:ds[i]? = some b):∃ ad,o = some ad/\av (hp w) (ad.add (cV i 3)) (K4 b):=by
 rcases fN 0 h.l with e | ⟨ad,e,hc⟩
 ·have h1:=congrArg List.length e
  rw [FQ,W0] at h1
  have:=(V9.1 hb).1; omega
 ·exact ⟨ad,e,bR (n:=3) (λ_=>rfl) ds ad hc i b hb⟩
theorem Lg {ds:List t_} {i:Nat} {b:t_} (hb:ds[i]? = some b):(oG ds)[i]? = some (dm 2 mZ b.2):=by unfold oG; rw [Wc,hb]; rfl
theorem Lh {ds:List t_} {i:Nat} {b:t_}:(oG ds).set i (dm 2 mZ b.2) = oG (ds.set i b):=by unfold oG; rw [Xd]
theorem PB {ds:List t_} {i:Nat} {b:t_} (hb:ds[i]? = some b) {xs:List bV} (hl:xs.length = b.2.2.length):xR (ds.set i (b.1,(b.2.1,xs))) = xR ds:=by
 have hi:=(V9.1 hb).1
 unfold xR
 rw [<- CK (f:=K4) (n:=3) (λ_=>rfl) ds i _ hi]
 have e:K4 (b.1,(b.2.1,xs)) = K4 b:=by unfold K4 dO; rw [hl]
 rw [e,CK (f:=K4) (n:=3) (λ_=>rfl) ds i _ hi,wX hb]
theorem US {w:World} {L:List ay} {n c i k:Nat} {o:Yg} {ds:List t_} {b:t_} {y:bV} {X:World->Prop} (hq:ds[i]? = some b) (hk:k < b.2.2.length) (h:St w (own 3 o n c (xR ds) :: aG (oG ds) :: L))
  (hX:∀ w',St w' (own 3 o n c (xR (ds.set i (b.1,(b.2.1,b.2.2.set k y)))) :: aG (oG (ds.set i (b.1,(b.2.1,b.2.2.set k y)))) :: L)->X w'):idx b.2.1.1 b.2.2.length (k:Int) 2 λa=>fV w a [.int .i64 y.kind,.int .i64 y.to] X:=by
 have hil:=(V9.1 hq).1
 have h:=St.BK (h.pick 2 [1,0]) (Lg hq)
 have h:St w (own 2 b.2.1.1 b.2.2.length b.2.1.2 (mZ b.2.2) :: aG ((oG ds).take i ++ (oG ds).drop (i + 1)) :: own 3 o n c (xR ds) :: L):=h
 obtain ⟨ad,ha⟩:=nL h (by rw [FM]; omega)
 refine au ha hk ?_
 rw [aJ]
 refine xa (i:=k * 2) h ha (by rw [FM]; simp; omega) (by simp [aV]) (by simp) λw' h=>hX w' ?_
 have e:=CK (f:=uQ) (n:=2) (λ_=>rfl) b.2.2 k y hk
 have h:St w' (own 2 b.2.1.1 b.2.2.length b.2.1.2 ((b.2.2.flatMap uQ).take (k * 2) ++ uQ y ++ (b.2.2.flatMap uQ).drop (k * 2 + 2)) :: aG ((oG ds).take i ++ (oG ds).drop (i + 1)) :: own 3 o n c (xR ds) :: L):=h
 rw [e] at h
 rw [PB hq (by simp),<- Lh]
 have e3:dm 2 mZ (b.2.1,b.2.2.set k y) = own 2 b.2.1.1 b.2.2.length b.2.1.2 ((b.2.2.set k y).flatMap uQ):=by unfold dm; rw [WE]; rfl
 rw [<- e3] at h
 exact (St.E7 (M:=oG ds) (n:=i) (by unfold oG; rw [Wh]; exact hil) h).swap
end Go.V
namespace Go.Proofs.YtndaepmjkbmjmaaGreatDoor
open Go.V
variable {w:World} {L:List ay} {g:af} {x:GA}
theorem Mu {o:Yg} {c:Nat} {ds:List t_} (h:St w (own 3 o ds.length c (xR ds) :: aG (oG ds) :: L)) (hn:ds.length<=100000) (hB:∀ d∈ds,d.2.2.length<=4611686018427387904) :
  aA Tryz.prog tz [.slice o ds.length c] w λv w'=>v = .tuple #[]/\St w' L:=by
 obtain ⟨n,hnl⟩ : ∃ n,n = ds.length:=⟨_,rfl⟩
 rw [<- hnl] at h hn ⊢
 refine pP ⟨λz w'=>∃ (i:Nat) (ds:List t_),z = i/\i<=n/\ds.length = n/\(∀ d∈ds,d.2.2.length<=4611686018427387904)/\St w' (own 3 o n c (xR ds) :: aG (oG ds) :: L),λz _=>n - z.toNat,⟨0,ds,rfl,Wi _,hnl.symm,hB,h⟩,?_⟩
 clear h hB
 rintro _ _ w1 ⟨i,ds,rfl,hi,hl,hB,h⟩
 refine ae (λh1=>?_) λh1=>⟨rfl,h.pick 2 []⟩
 have h1:i < n:=by have:=V7 h1; omega
 obtain ⟨b0,hb0⟩ : ∃ b,ds[i]? = some b:=⟨_,Wa (by omega)⟩
 obtain ⟨m,hm⟩ : ∃ m,m = b0.2.2.length:=⟨_,rfl⟩
 refine ⟨λz w'=>∃ (k:Nat) (ds:List t_) (b:t_),z = k/\k<=m/\ds.length = n/\(∀ d∈ds,d.2.2.length<=4611686018427387904)/\ds[i]? = some b/\b.2.2.length = m/\St w' (own 3 o n c (xR ds) :: aG (oG ds) :: L),λz _=>m - z.toNat,⟨0,ds,b0,rfl,Wi _,hl,hB,hb0,hm.symm,h⟩,?_⟩
 have hm2:=hB b0 (V_ hb0)
 clear h hB hl hb0
 rintro _ _ w2 ⟨k,ds,b,rfl,hk,hl,hB,hb,hbm,h⟩
 obtain ⟨ad,rfl,r⟩:=TT h hb
 refine au rfl h1 ⟨_,_,_,r.cell (sub.refl _) (j:=2) rfl,ae (λh2=>?_) λh2=>?_⟩
 ·have h2:k < b.2.2.length:=by have:=V7 h2; omega
  refine au rfl h1 ⟨_,_,_,r.cell (sub.refl _) (j:=2) rfl,US (y:=⟨-1,-1⟩) hb h2 h λw3 h=>?_⟩
  refine ⟨⟨by omega,by omega⟩,⟨k + 1,_,(b.1,(b.2.1,b.2.2.set k ⟨-1,-1⟩)),by simp,by omega,by rw [WE,hl],λd hd=>?_,XM (V9.1 hb).1,by simp [hbm],h⟩,bw (by omega)⟩
  rcases XO hd with hd | rfl
  ·exact hB d hd
  ·simp only [WE]; omega
 ·refine au rfl h1 ?_
  rw [aJ]
  have hil:=(V9.1 hb).1
  refine xa (i:=i * 3) h rfl (by rw [FQ]; simp; omega) (by simp [aV]) (by simp) λw4 h=>?_
  have e:=CK (f:=K4) (n:=3) (λ_=>rfl) ds i ((-9,0),((none,0),[])) hil
  have h:St w4 (own 3 (some ad) n c ((ds.flatMap K4).take (i * 3) ++ K4 ((-9,0),((none,0),[])) ++ (ds.flatMap K4).drop (i * 3 + 3)) :: aG (oG ds) :: L):=h
  rw [e] at h
  refine ⟨⟨by omega,by omega⟩,⟨i + 1,ds.set i ((-9,0),((none,0),[])),by simp,h1,by rw [WE,hl],λd hd=>?_,?_⟩,bw h1⟩
  ·rcases XO hd with hd | rfl
   ·exact hB d hd
   ·simp
  ·have h:=St.BK (h.pick 2 [1,0]) (Lg hb)
   have h:=az 2 h.tail
   rw [<- Lh]
   exact (St.E7 (M:=oG ds) (n:=i) (A:=dm 2 mZ ((none,0),[])) (by unfold oG; rw [Wh]; exact hil) h).swap
theorem Dp (hg:gR (hp w) g x) (hb:iE g) (hbT:g.terms.length * 24<=140737488355328) (hbN:g.nons.length * 16<=140737488355328) (ht:eM (hp w)):aA Tryz.prog lB [.agg ⟨x.cells⟩] w λv w'=>v = .bool true/\Gr w w':=by
 refine j3 (cW hg λk1 w1 gw hg1 B=>?_)
 refine ⟨_,_,_,_,_,_,_,_,_,_,_,_,_,B.row (sub.refl _),(TI hg1 hb hbT hbN).mono ?_⟩
 rintro _ w2 ⟨y,rfl,hy,g12⟩
 refine ⟨_,_,_,_,_,_,_,_,_,_,_,_,_,rfl,ah (St.all w2) λk18 w3 h=>bx h rfl (by intro v hv; simp at hv; rcases hv with rfl | rfl | rfl | rfl | rfl <;> rfl) λw4 h=>?_⟩
 have g24:Gr w2 w4:=h.aZ
 have B2:GB (hp w4) k18 y:=NF (ai 0 h.l)
 clear h
 have g14:=g12.trans g24
 refine ⟨_,_,_,_,_,_,_,_,_,_,_,_,_,B2.row (sub.refl _),(HW (hy.mono g24) hb (eR.mono (gw.trans g14) ht)).mono ?_⟩
 rintro _ w5 ⟨ss,ask,int,f,nn,o,c,ds,rfl,hR,hn,hds,h⟩
 have g45:Gr w4 w5:=aU 2 h.l
 refine ⟨_,_,_,_,rfl,_,_,_,_,_,_,_,_,_,_,_,_,_,B.row (g14.trans g45),(JR (hg1.mono (g14.trans g45)) hb).mono ?_⟩
 rintro _ w6 ⟨ss2,ask2,int2,f2,nn2,o2,c2,H,rfl,hR2,hn2,r2,h6⟩
 obtain ⟨rfl,hc2,_,_⟩:=HZ hR hn hR2 hn2
 rw [hc2] at r2
 rw [hc2]
 have h:=St.qV h6 h.l
 have hle:=Ry (l:=1) (nn:=nn) hR
 have hdl:ds.length = (dj g nn ss 1).length:=by rw [<- hds]; simp
 have hac:=Rz (nn:=nn) (ss:=ss) (l:=1) hb
 have hac' : ∀ d∈ds,d.2.2.length<=4611686018427387904:=λd hd=>hac (vV d) (by rw [<- hds]; exact List.mem_map_of_mem hd)
 refine ⟨_,_,_,_,rfl,λb u=>b = false/\St u (has H :: own 3 o ds.length c (xR ds) :: aG (oG ds) :: all w4),LG (by simp) ((K_ (TH (h.pick 3 [1,2])) (r2.mono h.has) (by omega) (by rw [hds]; exact hac)).mono ?_),?_⟩
 ·rintro _ w7 ⟨rfl,g67⟩
  exact ⟨_,rfl,by simp [hds],h.gr g67⟩
 clear h h6
 rintro _ _ w8 ⟨rfl,h⟩
 refine LG rfl ((Mu (h.pick 3 [1,2,0]) (by omega) hac').mono ?_)
 rintro _ w9 ⟨rfl,h9⟩
 have g49:Gr w4 w9:=aU 1 h9.l
 have r9:=r2.mono h9.has
 have hy9:=hy.mono (g24.trans g49)
 have g19:=g14.trans g49
 have hgy:=hg1.mono g19
 clear h h9
 refine ⟨rfl,_,_,_,_,_,_,_,_,_,_,_,_,_,B2.row g49,(H0 hy9 hb (eR.mono (gw.trans g19) ht)).mono ?_⟩
 rintro _ w10 ⟨ss3,ask3,int3,f3,nn3,o3,c3,rfl,hR3,hn3,r3,g90⟩
 obtain ⟨rfl,hc3,_,_⟩:=HZ hR hn hR3 hn3
 rw [hc3] at r3
 rw [hc3]
 refine ⟨_,_,_,_,rfl,C7 (by simp) ((K_ r3 (r9.mono g90) (by omega) hac).mono ?_)⟩
 rintro _ w11 ⟨rfl,g01⟩
 have g91:=g90.trans g01
 refine ⟨_,rfl,C7 (by simp) ⟨_,_,_,_,_,_,_,_,_,_,_,_,_,B2.row (g49.trans g91),_,_,_,_,_,_,_,_,_,_,_,_,_,B.row (g19.trans g91),(S6 (hy9.mono g91) (hgy.mono g91) hb).mono ?_⟩⟩
 rintro _ w12 ⟨rfl,g12'⟩
 have gw12:=gw.trans (g19.trans (g91.trans g12'))
 refine ⟨_,rfl,C7 rfl ((Mn (eR.mono gw12 ht)).mono ?_)⟩
 rintro _ w13 ⟨rfl,g13⟩
 exact ⟨_,rfl,rfl,gw12.trans g13⟩
end Go.Proofs.YtndaepmjkbmjmaaGreatDoor
namespace Go.V
open Go.RowKit Go.WideShapes Go.ChangeShapes
theorem H7 {w:World} {a:Addr} {v:Value} (h:w.cell? a = some v):rV (hp w) a = some v:=by
 unfold World.cell? at h
 unfold rV hp
 cases ho:w.heap[a.block]? with
 | none=>rw [ho] at h; cases h
 | some o=>rw [ho] at h; cases o <;> first | exact h | cases h
theorem Eu {α β : Type} {f:α->Option β}:∀ {l:List α} {r:List β},l.mapM f = some r->r.length = l.length/\∀ (i:Nat) (a:α) (b:β),l[i]? = some a->r[i]? = some b->f a = some b
 | [],r,h=>by
  simp at h; subst h; exact ⟨rfl,λi a b ha=>by simp at ha⟩
 | x :: l,r,h=>by
  simp only [List.mapM_cons,Option.bind_eq_bind,Option.bind_eq_some_iff,Option.pure_def,Option.some.injEq] at h
  obtain ⟨b,hb,r',hr',rfl⟩:=h
  obtain ⟨h1,h2⟩:=Eu hr'
  refine ⟨by simp [h1],λi a b' ha hb'=>?_⟩
  cases i with
  | zero=>simp at ha hb'; subst ha; subst hb'; exact hb
  | succ i=>exact h2 i a b' (by simpa using ha) (by simpa using hb')
theorem Mv {w:World} {base n:Nat} {a:Addr} {vs:List Value} (h:w.cells? base a n = some vs):av (hp w) a vs:=by
 unfold World.cells? at h
 split at h
 ·obtain ⟨h1,h2⟩:=Eu h
  intro j v hj
  have hlt:=(V9.1 hj).1
  rw [h1,Xs] at hlt
  exact H7 (h2 j j v (by simp [hlt]) hj)
 ·cases h
theorem tC {H:Type} {P:Program} {e:TypeId} {N:Nat}:∀ {l:List (DataW H)},(DataW.weightsAll P e l).all (·<=N) = true->∀ d∈l,(d.weights P e).all (·<=N) = true
 | [],_,d,hd=>by simp at hd
 | x :: l,h,d,hd=>by
  rw [DataW.weightsAll,List.all_append,Wo] at h
  rcases Wp.1 hd with rfl | hd
  ·exact h.1
  ·exact tC h.2 d hd
theorem j6 {H:Type} {P:Program} {N:Nat}:∀ {ts:List TypeId} {l:List (DataW H)},(DataW.weightsEach P ts l).all (·<=N) = true->∀ (i:Nat) t d,ts[i]? = some t->l[i]? = some d->(d.weights P t).all (·<=N) = true
 | [],l,_,i,t,d,ht,_=>by simp at ht
 | _ :: _,[],_,i,t,d,_,hd=>by simp at hd
 | t0 :: ts,x :: l,h,i,t,d,ht,hd=>by
  rw [DataW.weightsEach,List.all_append,Wo] at h
  cases i with
  | zero=>simp at ht hd; subst ht; subst hd; exact h.1
  | succ i=>exact j6 h.2 i t d (by simpa using ht) (by simpa using hd)
def JS (P:Program) (α : Type) [oF α] (bd:α->Prop) (t:TypeId):Prop :=
 ∀ {H:Type} (enc:TypeId × Value->H) (W:World) (n:Nat) (cs:List Value) (x:DataW H × List MemPlace),DataW.trod enc P W 0 (λ_=>true) true n t cs = some x->(x.1.weights P t).all (·<=reachBytes) = true->∃ y:α,rd (hp W) y cs/\bd y
def anyS:ByteArray->Prop:=λs=>s.size<=reachBytes
def JT {α : Type} (bytes:Nat) (bd:α->Prop):List α->Prop:=λxs=>xs.length * bytes<=reachBytes/\∀ x∈xs,bd x
section
variable {P:Program} {t e:TypeId}
theorem RO (ht:P.underlying t = some (.int .i64)):JS P Int anyI t:=by
 intro H enc W n cs x h hw
 obtain ⟨z,rfl,_,hwf⟩:=DataW.trod_int ht h
 refine ⟨z,rfl,?_⟩
 have:IntKind.i64.min<=z/\z<=IntKind.i64.max:=by simpa [Lit.wf] using hwf
 exact this
theorem RP (ht:P.underlying t = some .string):JS P ByteArray anyS t:=by
 intro H enc W n cs x h hw
 obtain ⟨z,rfl,rfl,_⟩:=DataW.trod_string ht h
 refine ⟨z,rfl,?_⟩
 simpa [DataW.weights,anyS] using hw
theorem ua {α : Type} [oF α] {bd:α->Prop} {bb:Nat} (ht:P.underlying t = some (.slice e)) (hc:P.cellsOf e = oF.n α) (hb:P.bytesOf e = bb) (he:JS P α bd e):JS P (List α) (JT bb bd) t:=by
 intro H enc W n cs x h hw
 rcases DataW.trod_slice ht h with ⟨rfl,rfl⟩ | ⟨a,len,cap,elems,rest,m,rfl,rfl,rfl,_,hlc,hcm,hel,hg,_,_⟩
 ·exact ⟨[],⟨none,0,0,rfl,Wr _,a_.nil⟩,by simp [reachBytes],λx hx=>by simp at hx⟩
 ·simp only [DataW.weights,ht,List.all_cons,List.all_append,Wo,Wk,Wh] at hw
  obtain ⟨hw1,hw2,_⟩:=hw
  have key:∀ k,k<=len->∃ ys:List α,ys.length = k/\(∀ i y,ys[i]? = some y->∃ vs,av (hp W) (a.add (cV i (oF.n α))) vs/\rd (hp W) y vs)/\∀ y∈ys,bd y:=by
   intro k
   induction k with
   | zero=>exact λ_=>⟨[],rfl,λi y hy=>by simp at hy,λy hy=>by simp at hy⟩
   | succ k ih =>
    intro hk
    obtain ⟨ys,h1,h2,h3⟩:=ih (by omega)
    have hgk:=hg k (by omega)
    obtain ⟨d,hd⟩ : ∃ d,elems[k]? = some d:=⟨elems[k]'(by omega),Wa _⟩
    rw [hd,Option.bind_eq_some_iff] at hgk
    obtain ⟨vs,hv1,hv2⟩:=hgk
    obtain ⟨y,hy1,hy2⟩:=he enc W m vs d hv2 (tC hw2 _ (by
     have:=V_ hd
     exact List.mem_map_of_mem this))
    refine ⟨ys ++ [y],by simp [h1],λi z hz=>?_,λz hz=>?_⟩
    ·by_cases hi:i < k
     ·rw [Wl (by omega)] at hz
      exact h2 i z hz
     ·have:i = k:=by
       have:=(V9.1 hz).1
       simp at this; omega
      subst this
      rw [Wm (by omega),h1,Xe] at hz
      cases hz
      refine ⟨vs,?_,hy1⟩
      rw [aJ,<- hc]
      exact Mv hv1
    ·rcases Wd.1 hz with hz | hz
     ·exact h3 z hz
     ·simp at hz; subst hz; exact hy2
  obtain ⟨ys,h1,h2,h3⟩:=key len (Wr _)
  refine ⟨ys,⟨some a,len,cap,rfl,hlc,h1,λi y hy=>?_⟩,?_,h3⟩
  ·obtain ⟨vs,h4,h5⟩:=h2 i y hy
   exact ⟨a,vs,rfl,h4,h5⟩
  ·rw [h1,<- hb,<- hel]
   exact WC (XJ _ (Nat.le_add_right _ _)) hw1
theorem vZ {fs:Array Field} (ht:P.underlying t = some (.struct fs)) {H:Type} {enc:TypeId × Value->H} {W:World} {n:Nat} {cs:List Value} {x:DataW H × List MemPlace} (h:DataW.trod enc P W 0 (λ_=>true) true n t cs = some x) (hw:(x.1.weights P t).all (·<=reachBytes) = true) :
  cs.length = P.cellsOf t/\∀ (i:Nat) (f:Field) (ty k o:Nat),fs[i]? = some f->P.cellsOf ty = k->f.type = ty->f.offset = o->∃ (m:Nat) (d:DataW H × List MemPlace),DataW.trod enc P W 0 (λ_=>true) true m ty ((cs.drop o).take k) = some d/\(d.1.weights P ty).all (·<=reachBytes) = true:=by
 obtain ⟨xs,m,rfl,rfl,hl,hxs,hf⟩:=DataW.trod_struct ht h
 refine ⟨hl,?_⟩
 rintro i f _ _ _ hi rfl rfl rfl
 have hlt:=(WW.1 hi).1
 obtain ⟨d,hd⟩ : ∃ d,xs[i]? = some d:=⟨xs[i]'(by omega),Wa _⟩
 refine ⟨m,d,by rw [hf i f hi,hd],?_⟩
 simp only [DataW.weights,ht] at hw
 exact j6 hw i f.type d.1 (by simp [hi]) (by simp [hd])
theorem RQ {α : Type} [oF α] {bd:α->Prop} (ho:JS P α bd t) {H:Type} {enc:TypeId × Value->H} {W:World} {v:Value} {d:DataW H} {ps:List MemPlace} (h:DataW.Trod enc P W 0 (λ_=>true) true t v d ps)
  (hw:(d.weights P t).all (·<=reachBytes) = true):∃ y:α,rd (hp W) y v.cells.toList/\bd y:=by
 obtain ⟨n,h⟩:=h
 exact ho enc W n _ _ h hw
theorem JU {α : Type} [oF α] {bd:α->Prop} {fs:Array Field} (ho:JS P α bd t) (ht:P.underlying t = some (.struct fs)) {H:Type} {enc:TypeId × Value->H} {W:World} {b:Nat} {v:Value} {d:DataW H} {ps:List MemPlace}
  (hval:Value.okWide P W .any b t v) (h:DataW.Trod enc P W 0 (λ_=>true) true t v d ps) (hw:(d.weights P t).all (·<=reachBytes) = true):∃ (x:α) (cs:List Value),v = .agg ⟨cs⟩/\rd (hp W) x cs/\bd x:=by
 obtain ⟨x,hr,hb⟩:=RQ ho h hw
 simp only [Value.okWide,ht] at hval
 obtain ⟨cs,rfl,_⟩:=hval
 exact ⟨x,cs.toList,rfl,hr,hb⟩
theorem PC {w w' : World} (h:Ev w w') (g:Gr w w'):Below w.heap.size w w':=by
 refine ⟨h.os,h.tape,h.output,h.size,λk hk=>?_⟩
 cases ho:w.heap[k]? with
 | none=>rw [Array.getElem?_eq_none_iff] at ho; omega
 | some o =>
  by_cases hd:F5 o = true
  ·have:hp w k = some o:=by unfold hp; rw [ho,AZ hd]
   exact nq (g k o this)
  ·cases o <;> first | exact absurd rfl hd | exact h.dfr _ _ ho
theorem uX (hl:laidOutB P = true) {H:Type} {enc:TypeId × Value->H} {W W' : World} (hb:Below W.heap.size W W') {sp:Nat->Bool}:∀ {ts:List TypeId} {vs:List Value} {ds:List (DataW H)} {ps:List MemPlace},
  (ts.all λt=>P.readableRec t && decide (t < P.types.size)) = true->DataW.TrodAll enc P W 0 (λ_=>true) true ts vs ds ps->(∀ x∈ps,x.block < W.heap.size)->(∀ x∈ps,sp x.block = true) ->
  DataW.TrodAll enc P W' 0 sp true ts vs ds ps
 | [],[],[],ps,_,h,_,_=>h
 | [],_ :: _,_,_,_,h,_,_=>h.elim
 | [],[],_ :: _,_,_,h,_,_=>h.elim
 | _ :: _,[],_,_,_,h,_,_=>h.elim
 | _ :: _,_ :: _,[],_,_,h,_,_=>h.elim
 | t :: ts,v :: vs,d :: ds,ps,ht,h,hlt,hsp=>by
  obtain ⟨p,q,h1,h2,rfl⟩:=h
  rw [List.all_cons,Wo,Wo,Wk] at ht
  exact ⟨p,q,WideElems.Trod_stays hl ht.1.1 ht.1.2 h1 (λx hx=>hb.same (hlt x (by simp [hx]))) (λx hx=>hsp x (by simp [hx])),uX hl hb ht.2 h2 (λx hx=>hlt x (by simp [hx])) (λx hx=>hsp x (by simp [hx])),rfl⟩
theorem PD {H:Type} {enc:TypeId × Value->H} {s:ChangeSpec} {f:Func} {W W' : World} {args:Array Value} {ds gs:List (DataW H)} {before:List MemPlace} {tb:TypeId} (hv:s.vars = []) (hrt:f.resultTypes = #[tb]) (htb:P.underlying tb = some .bool)
  (hsp:s.fn H (ds ++ gs) = { results:=[.lit (.bool true)],args:=ds }) (hl:laidOutB P = true) (hrd:(f.params.toList.all λt=>P.readableRec t && decide (t < P.types.size)) = true)
  (hW:DataW.Whole enc P f.params.toList s.vars false W args.toList ds gs before) (hE:Ev W W') (hg:Gr W W'):s.post enc P f false true false false W args (.bool true) W':=by
 have hb:=PC hE hg
 have hlt:∀ p∈before,p.block < W.heap.size:=λp hp=>hW.lt p hp
 have hold:∀ p∈before,(λb=>decide (b < W.heap.size)) p.block = true:=λp hp=>by simpa using hlt p hp
 have hW':=hW
 obtain ⟨p,q,h1,h2,rfl,h3,h4⟩:=hW
 have hq:q = []:=by
  rw [hv] at h2
  cases gs with
  | nil=>exact h2
  | cons _ _=>exact h2.elim
 subst hq
 rw [WG] at *
 have hargs:∀ sp:Nat->Bool,(∀ x∈p,sp x.block = true)->DataW.TrodAll enc P W' 0 sp true f.params.toList args.toList (s.fn H (ds ++ gs)).args p:=λsp hs=>by
  rw [hsp]; exact uX hl hb hrd h1 hlt hs
 have hvars:∀ sp:Nat->Bool,DataW.TrodVars enc P W' sp s.vars (s.fn H (ds ++ gs)).vars []:=λsp=>by
  rw [hsp,hv]; exact rfl
 have hres:∀ (b:Nat) (sp:Nat->Bool) (hd:Bool),DataW.TrodAll enc P W' b sp hd f.resultTypes.toList ((Value.bool true).resultList f.resultTypes.size) (s.fn H (ds ++ gs)).results []:=λb sp hd=>by
  rw [hsp,hrt]; exact trodAll_cons_mk (shut_bool htb _) trodAll_mk0
 have hok:∀ (j:Nat) (t:TypeId) (r:Value),f.resultTypes[j]? = some t->((Value.bool true).resultList f.resultTypes.size)[j]? = some r->Value.okWide P W' .any 0 t r:=ok_one hrt rfl (okWide_bool_mk htb _)
 refine ⟨ds,gs,p,[],p,[],hW',hres _ _ _,hargs _ hold,hvars _,World.keptBut_mono (λx hx=>⟨hx,?_⟩) (hb.frame (·∈p)),λ_=>?_⟩
 ·exact Or.inr (by simpa using hx)
 ·refine ⟨hok,_,_,([] ++ p) ++ [],⟨[] ++ p,[],trodAll_append (hargs _ (λ_ _=>rfl)) (hres _ _ _),hvars _,rfl,?_,?_⟩,?_⟩
  ·intro b off hp
   have hin:MemPlace.cell b off∈p:=by simpa using hp
   rw [hb.frozen (hlt _ hin)]
   exact h3 b off hin
  ·intro ha; cases ha
  ·intro x hx _
   simpa using hx
end
end Go.V
namespace Go.Proofs.YtndaepmjkbmjmaaGreatDoor
open Go.V Go.RowKit Go.WideShapes Go.ChangeShapes Go.ChangeAt
theorem VE:ownKnob Tryz.prog.godebug = none:=by kernel_rfl
theorem Mw:Tryz.pinned.checked.prog.mayEnter = true:=by kernel_rfl
theorem PE:Tryz.pinned.checked.prog.liftsFinal = Rows.tableOneRow.lifted:=by kernel_rfl
theorem PF:Tryz.pinned.checked.prog.make = some Rows.tableOneRow.make:=by kernel_rfl
theorem UT:laidOutB Tryz.prog = true:=by kernel_rfl
theorem CL:Tryz.prog.cellsOf 3 = 1:=by kernel_rfl
theorem TU:Tryz.prog.bytesOf 3 = 8:=by kernel_rfl
theorem H8:Tryz.prog.cellsOf 9 = 1:=by kernel_rfl
theorem PG:Tryz.prog.bytesOf 9 = 16:=by kernel_rfl
theorem H9:Tryz.prog.cellsOf 24 = 1:=by kernel_rfl
theorem PH:Tryz.prog.cellsOf 22 = 1:=by kernel_rfl
theorem PI:Tryz.prog.cellsOf 23 = 1:=by kernel_rfl
theorem PJ:Tryz.prog.cellsOf 25 = 1:=by kernel_rfl
theorem PK:Tryz.prog.cellsOf 83 = 2:=by kernel_rfl
theorem TV:Tryz.prog.bytesOf 83 = 24:=by kernel_rfl
theorem PL:Tryz.prog.cellsOf 81 = 3:=by kernel_rfl
theorem TW:Tryz.prog.bytesOf 81 = 40:=by kernel_rfl
theorem TX:Tryz.prog.cellsOf 27 = 5:=by kernel_rfl
theorem PM:JS Tryz.prog Int anyI 3:=RO Tryz.underlying3
theorem Sk:JS Tryz.prog (List Int) (JT 8 anyI) 24:=ua Tryz.underlying24 CL TU PM
theorem UU:JS Tryz.prog ByteArray anyS 9:=RP Tryz.underlying9
theorem UW:JS Tryz.prog (List ByteArray) (JT 16 anyS) 23:=ua Tryz.underlying23 H8 PG UU
theorem UX:JS Tryz.prog jJ (λt=>anyS t.name/\anyI t.level) 83:=by
 intro H enc W n cs x h hw
 obtain ⟨hl,hf⟩:=vZ Tryz.underlying83 h hw
 rw [PK] at hl
 obtain ⟨_,_,t0,w0⟩:=hf 0 _ 9 1 0 rfl H8 rfl rfl
 obtain ⟨_,_,t1,w1⟩:=hf 1 _ 3 1 1 rfl CL rfl rfl
 obtain ⟨y0,r0,b0⟩:=UU enc W _ _ _ t0 w0
 obtain ⟨y1,r1,b1⟩:=PM enc W _ _ _ t1 w1
 match cs,hl with
 | [c0,c1],_ =>
  have e0:[c0] = [.string y0]:=r0
  have e1:[c1] = [.int .i64 y1]:=r1
  cases e0; cases e1
  exact ⟨⟨y0,y1⟩,rfl,b0,b1⟩
theorem TY:JS Tryz.prog (List jJ) (JT 24 λt=>anyS t.name/\anyI t.level) 22:=ua Tryz.underlying22 PK TV UX
theorem UY:JS Tryz.prog aH (λp=>anyI p.left/\JT 8 anyI p.right/\anyI p.level) 81:=by
 intro H enc W n cs x h hw
 obtain ⟨hl,hf⟩:=vZ Tryz.underlying81 h hw
 rw [PL] at hl
 obtain ⟨_,_,t0,w0⟩:=hf 0 _ 3 1 0 rfl CL rfl rfl
 obtain ⟨_,_,t1,w1⟩:=hf 1 _ 24 1 1 rfl H9 rfl rfl
 obtain ⟨_,_,t2,w2⟩:=hf 2 _ 3 1 2 rfl CL rfl rfl
 obtain ⟨y0,r0,b0⟩:=PM enc W _ _ _ t0 w0
 obtain ⟨y1,⟨a,l,c,r1,hlc,r1'⟩,b1⟩:=Sk enc W _ _ _ t1 w1
 obtain ⟨y2,r2,b2⟩:=PM enc W _ _ _ t2 w2
 match cs,hl with
 | [c0,c1,c2],_ =>
  have e0:[c0] = [.int .i64 y0]:=r0
  have e1:[c1] = [.slice a l c]:=r1
  have e2:[c2] = [.int .i64 y2]:=r2
  cases e0; cases e1; cases e2
  exact ⟨⟨y0,y1,y2⟩,⟨a,l,c,rfl,hlc,r1'⟩,b0,b1,b2⟩
theorem TZ:JS Tryz.prog (List aH) (JT 40 λp=>anyI p.left/\JT 8 anyI p.right/\anyI p.level) 25:=ua Tryz.underlying25 PL TW UY
def VF (g:af):Prop:=iE g/\g.terms.length * 24<=140737488355328/\g.nons.length * 16<=140737488355328
theorem UZ:JS Tryz.prog af VF 27:=by
 intro H enc W n cs x h hw
 obtain ⟨hl,hf⟩:=vZ Tryz.underlying27 h hw
 rw [TX] at hl
 obtain ⟨_,_,t0,w0⟩:=hf 0 _ 22 1 0 rfl PH rfl rfl
 obtain ⟨_,_,t1,w1⟩:=hf 1 _ 23 1 1 rfl PI rfl rfl
 obtain ⟨_,_,t2,w2⟩:=hf 2 _ 24 1 2 rfl H9 rfl rfl
 obtain ⟨_,_,t3,w3⟩:=hf 3 _ 3 1 3 rfl CL rfl rfl
 obtain ⟨_,_,t4,w4⟩:=hf 4 _ 25 1 4 rfl PJ rfl rfl
 obtain ⟨y0,⟨a0,l0,c0',r0,k0,q0⟩,b0⟩:=TY enc W _ _ _ t0 w0
 obtain ⟨y1,⟨a1,l1,c1',r1,k1,q1⟩,b1⟩:=UW enc W _ _ _ t1 w1
 obtain ⟨y2,⟨a2,l2,c2',r2,k2,q2⟩,b2⟩:=Sk enc W _ _ _ t2 w2
 obtain ⟨y3,r3,b3⟩:=PM enc W _ _ _ t3 w3
 obtain ⟨y4,⟨a4,l4,c4',r4,k4,q4⟩,b4⟩:=TZ enc W _ _ _ t4 w4
 match cs,hl with
 | [c0,c1,c2,c3,c4],_ =>
  have e0:[c0] = [.slice a0 l0 c0']:=r0
  have e1:[c1] = [.slice a1 l1 c1']:=r1
  have e2:[c2] = [.slice a2 l2 c2']:=r2
  have e3:[c3] = [.int .i64 y3]:=r3
  have e4:[c4] = [.slice a4 l4 c4']:=r4
  cases e0; cases e1; cases e2; cases e3; cases e4
  refine ⟨⟨y0,y1,y2,y3,y4⟩,⟨⟨a0,l0,c0',a1,l1,c1',a2,l2,c2',y3,a4,l4,c4'⟩,rfl,q0,q1,q2,rfl,q4,k0,k1,k2,k4⟩,?_⟩
  have z0:=b0.1
  have z1:=b1.1
  have z2:=b2.1
  have z4:=b4.1
  unfold reachBytes at z0 z1 z2 z4
  refine ⟨⟨by show y0.length<=_; omega,by show y1.length<=_; omega,by show y2.length<=_; omega,by show y4.length * 40<=_; omega,λt ht=>⟨?_,(b0.2 t ht).2⟩,λs hs=>?_,λp hp=>?_⟩,by show y0.length * 24<=_; omega,by show y1.length * 16<=_; omega⟩
  ·have:=(b0.2 t ht).1; unfold anyS reachBytes at this; omega
  ·have:=b1.2 s hs; unfold anyS reachBytes at this; omega
  ·have:=(b4.2 p hp).2.1.1; unfold reachBytes at this; omega

theorem U0 : Tryz.prog.globalNamed "math/bits.deBruijn64tab" = some 0 := by kernel_rfl
theorem PN:(Tryz.prog.globals[0]?).map (·.type) = some 294:=by kernel_rfl
theorem PO:Tryz.prog.cellsOf 294 = 64:=by kernel_rfl
theorem Mx:Tryz.prog.cellsOf 5 = 1:=by kernel_rfl
theorem table {W : World} (h : laidMetH Tryz.prog [("math/bits.deBruijn64tab", Rows.laid_math_bits_deBruijn64tab)] W) : eM (hp W) := by
 have ht : Lib.TabIs Tryz.prog W "math/bits.deBruijn64tab" .u8 (Lib.deBruijn64tab.map λ(k : Nat) => (k : Int)) :=
  Lib.tabIs_of_head (rest:=[]) U0 PN Tryz.underlying294 Tryz.underlying5 Mx PO h
 refine .inr ⟨_,rfl,λj v hj=>?_⟩
 have hlt:=(V9.1 hj).1
 have hc:=ht.cell U0 j (by simpa [Qj] using hlt)
 rw [aL]
 refine H7 (hc.trans ?_)
 rw [<- hj]
 simp only [Qj,Wc,Wh] at hj hlt ⊢
 rw [Wa hlt]
 simp [hlt]
noncomputable def zq (os:Os):World :=
  { World.holding Tryz.prog os ⟨#[],#[],[]⟩ with heap:=(World.holding Tryz.prog os ⟨#[],#[],[]⟩).heap.modify 0 fun
      | .cells _ t frozen=>.cells ⟨Qj⟩ t frozen
      | o=>o }
end Go.Proofs.YtndaepmjkbmjmaaGreatDoor
