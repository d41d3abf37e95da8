/- Texts of this claim, one behind the other. -/
import Derived.Test.YtndaepmjkbmjmaaGreatDoorG3
import Derived.Test.YtndaepmjkbmjmaaGreatDoorG1
import Derived.Laws.StructEq
import Derived.Test.YtndaepmjkbmjmaaGreatDoorG2
set_option linter.unusedVariables false
set_option linter.unusedSectionVars false
set_option maxRecDepth 100000
set_option maxHeartbeats 16000000
namespace Go.V
section
variable {g:af} {I ls:List ag} {bs:List Bool} {i:Nat} {x y:ag}
theorem ak.left (h:ak g) {p:aH} (hp:p∈g.prods):(g.T:Int)<=p.left:=by
 obtain ⟨_,h1,h2,p0,hp0,hl,_⟩:=h
 obtain ⟨n,hn⟩:=WH hp
 cases n with
 | zero=>rw [hp0] at hn; cases hn; omega
 | succ n =>
  have hm:p∈g.prods.drop 1:=by
   refine V_ (i:=n) ?_
   rw [WL,X9]; exact hn
  have:=((h2.2.2.1 p hm).1).1
  omega
theorem QQ (hc:ak g) (hf:jV g x) (h0:0<=cM g x):1<=cM g x/\cM g x < g.T + g.N:=by
 obtain ⟨p,hp,_,h3⟩:=BO hf rfl h0
 exact hc.sym (V_ hp) (V_ h3)
structure vu (g:af) (I:List ag) (bs:List Bool) (i:Nat) (ls:List ag):Prop where
 nd:ls.Nodup
 sb:∀ x∈I,x∈ls
 ok:∀ x∈ls,nT g I x
 ln:bs.length = g.T + g.N
 bt:∀ s:Nat,bs[s]? = some true->∀ k∈BU g s,DZ k∈ls
 dn:∀ (j:Nat) y,j < i->ls[j]? = some y->(g.T:Int)<=cM g y->bs[(cM g y).toNat]? = some true
theorem vu.start:vu g I (List.replicate (g.T + g.N) false) 0 (lay I) :=
 ⟨(fB I).nodup,λx hx=>eJ.2 hx,λx hx=>.base (eJ.1 hx),by simp,λs hs=>by rw [Xr] at hs; split at hs <;> simp at hs,λj y hj=>by omega⟩
theorem Hi (h1:ls.Nodup) (h2:∀ x∈ls,nT g I x):ls.length<=I.length + g.prods.length:=by
 have:=ji (m:=I ++ (List.range g.prods.length).map DZ) h1 λx hx=>by
  rw [Wd]
  rcases (h2 x hx).or with h | ⟨i,hi,rfl⟩
  ·exact .inl h
  ·exact .inr (Wu.2 ⟨i,WA.2 hi,rfl⟩)
 simpa using this
theorem vu.len (h:vu g I bs i ls):ls.length<=I.length + g.prods.length:=Hi h.nd h.ok
theorem vu.skip (h:vu g I bs i ls) (hy:ls[i]? = some y) (hs:cM g y < g.T\/bs[(cM g y).toNat]? = some true):vu g I bs (i + 1) ls :=
 ⟨h.nd,h.sb,h.ok,h.ln,h.bt,λj z hj hz h0=>by
  by_cases e:j = i
  ·subst e; rw [hy] at hz; cases hz
   rcases hs with hs | hs
   ·omega
   ·exact hs
  ·exact h.dn j z (by omega) hz h0⟩
structure Fk (g:af) (I:List ag) (s:Int) (ls:List ag) (j:Nat) (ms:List ag):Prop where
 nd:ms.Nodup
 pre:∃ ex,ms = ls ++ ex
 ok:∀ x∈ms,nT g I x
 al:∀ k∈MA g j s,DZ k∈ms
theorem vu.inner (h:vu g I bs i ls) (s:Int):Fk g I s ls 0 ls:=⟨h.nd,⟨[],by simp⟩,h.ok,λk hk=>by simp [MA] at hk⟩
theorem vu.more {ms:List ag} (h:vu g I bs i ls) (hy:ls[i]? = some y) (h0:0<=cM g y) (hl:(cM g y).toNat < bs.length) (hJ:Fk g I (cM g y) ls g.prods.length ms):vu g I (bs.set (cM g y).toNat true) (i + 1) ms:=by
 obtain ⟨ex,rfl⟩:=hJ.pre
 refine ⟨hJ.nd,λx hx=>XU _ (h.sb x hx),hJ.ok,by rw [WE]; exact h.ln,λs hs k hk=>?_,λj z hj hz h1=>?_⟩
 ·by_cases e:(cM g y).toNat = s
  ·have e2:(s:Int) = cM g y:=by omega
   rw [e2] at hk
   exact hJ.al k hk
  ·rw [XV e] at hs
   exact XU _ (h.bt s hs k hk)
 ·have hjl:j < ls.length:=by have:=(V9.1 hy).1; omega
  rw [Wl hjl] at hz
  by_cases e:(cM g y).toNat = (cM g z).toNat
  ·rw [<- e,XM hl]
  ·rw [XV e]
   by_cases e2:j = i
   ·subst e2; rw [hy] at hz; cases hz; exact absurd rfl e
   ·exact h.dn j z (by omega) hz h1
theorem vu.fin (h:vu g I bs i ls) (hc:ak g) (hi:i = ls.length):lay ls = cls g I:=by
 refine Ku (fB _) λx=>?_
 rw [eJ]
 refine ⟨h.ok x,λhx=>?_⟩
 induction hx with
 | base hx=>exact h.sb _ hx
 | @step y k p _ h1 h2 h3 ih =>
  obtain ⟨j,hj⟩:=WH ih
  have hl:=hc.left (V_ h2)
  have:=h.dn j y (by have:=(V9.1 hj).1; omega) hj (by omega)
  exact h.bt _ this k (pe.2 ⟨p,h2,by rw [h3]; omega⟩)
theorem Fk.skip {s:Int} {j:Nat} {ms:List ag} {p:aH} (h:Fk g I s ls j ms) (hp:g.prods[j]? = some p) (hs:p.left≠s\/DZ j∈ms):Fk g I s ls (j + 1) ms :=
 ⟨h.nd,h.pre,h.ok,λk hk=>by
  rw [sC hp,Wd] at hk
  rcases hk with hk | hk
  ·exact h.al k hk
  ·split at hk
   ·rename_i e
    simp at hk; subst hk
    rcases hs with hs | hs
    ·exact absurd e.symm hs
    ·exact hs
   ·simp at hk⟩
theorem Fk.put {s:Int} {j:Nat} {ms:List ag} {p:aH} (h:Fk g I s ls j ms) (hp:g.prods[j]? = some p) (hs:p.left = s) (hn:DZ j∉ms) (hy:nT g I y) (ha:cM g y = s) (h0:0<=s):Fk g I s ls (j + 1) (ms ++ [DZ j]):=by
 obtain ⟨ex,rfl⟩:=h.pre
 refine ⟨?_,⟨ex ++ [DZ j],by simp⟩,λx hx=>?_,λk hk=>?_⟩
 ·rw [WR]
  exact ⟨h.nd,by simp,λa ha b hb e=>by simp at hb; subst hb; subst e; exact hn (by simpa using ha)⟩
 ·rw [Wd,Wy] at hx
  rcases hx with hx | rfl
  ·exact h.ok x hx
  ·exact .step hy (by omega) hp (by omega)
 ·rw [sC hp,Wd] at hk
  rcases hk with hk | hk
  ·exact XU _ (h.al k hk)
  ·split at hk
   ·simp at hk; subst hk; simp
   ·simp at hk
end
end Go.V
namespace Go.Proofs.YtndaepmjkbmjmaaGreatDoor
open Go.V
variable {w:World} {L:List ay} {g:af} {x:GA} {a a2:Yg} {l c l2 c2:Nat} {I J:List ag}
theorem D0 (hg:gR (hp w) g x) (hb:iE g) (hc:ak g) (hx:a_ (hp w) I a l) (hf:xh g I) (hl:l * 16<=140737488351232):aA Tryz.prog qD [.agg ⟨x.cells⟩,.slice a l c] w λv w'=>∃ o c',v = .slice o (cls g I).length c'/\St w' (own 2 o (cls g I).length c' (tv (cls g I)) :: all w):=by
 have hll:=hx.1
 obtain ⟨hT,hN,hP,hP2,hT1,hN2⟩:=hc.ct
 refine nW (cW hg λk1 w1 gw hg B=>?_)
 refine (Jf (hx.mono gw) (by omega)).mono ?_
 rintro _ w2 ⟨o1,c1,rfl,h⟩
 refine ⟨_,_,_,rfl,_,_,_,_,_,_,_,_,_,_,_,_,_,B.row h.aZ,(jh (hg.mono h.aZ) hb).mono ?_⟩
 rintro _ w3 ⟨rfl,g3⟩
 have h:=h.gr g3
 have en:((g.T:Int) + g.N) = ((g.T + g.N:Nat):Int):=by omega
 rw [en]
 refine ⟨_,rfl,⟨by omega,rfl,by omega⟩,?_⟩
 have e0:jz (Int.toNat ((g.T + g.N:Nat):Int)) [Value.bool false] = bv (List.replicate (g.T + g.N) false):=by rw [db,Ws]; simp [bv]
 rw [e0,Ws]
 refine ah h λk12 w4 h=>?_
 have hll2:=hll
 refine ⟨λo n c' z w'=>∃ (i:Nat) (ls:List ag) (bs:List Bool),z = i/\n = ls.length/\i<=ls.length/\vu g I bs i ls/\St w' (own 2 o n c' (tv ls) :: aK k12 (bv bs) :: all w1),λ_ _ _ z _=>(l + g.prods.length) - z.toNat,
  ⟨0,lay I,_,rfl,rfl,Wi _,.start,h.pick 2 [1,0]⟩,?_⟩
 clear h
 rintro _ o _ c2 _ w5 ⟨i,ls,bs,rfl,rfl,hi,hD,h⟩
 have hlen:=hD.len
 rw [hll] at hlen
 have hfin:l + g.prods.length<=8796093022100:=by omega
 refine ae (λh1=>?_) λh1=>?_
 rotate_left
 ·have h1:i = ls.length:=by have:=V8 h1; omega
  have e:=hD.fin hc h1
  have hr:a_ (hp w5) ls o ls.length:=cq h
  refine (Jf hr (by omega)).mono ?_
  rintro _ w17 ⟨o7,c7,rfl,h7⟩
  rw [e] at h7 ⊢
  exact ⟨_,_,_,rfl,_,_,rfl,h7.qV (ft (bD gw) (aU 2 h.l))⟩
 have h1:i < ls.length:=by have:=V7 h1; omega
 obtain ⟨y,ad,hy,rfl,cy⟩:=cr (cq h) h1
 have hyo:=hD.ok y (V_ hy)
 have hyf:jV g y:=hyo.fit hf
 intro w6 hd
 have h:=h.eq (aB hd)
 have s6:sub (hp w1) (hp w6):=aU 2 h.l
 refine ⟨λu=>Gr w6 u,Gr.refl _,_,_,_,_,_,_,_,_,_,_,_,_,_,λu s=>B.row (sub.trans s6 s),au rfl h1 ⟨_,_,λu s=>cy u (sub.trans (Gr.drawn hd) s),(AF (hg.mono s6) hyf).mono ?_⟩⟩
 rintro _ w9 ⟨rfl,g9⟩
 have h:=h.gr g9
 have s9:sub (hp w1) (hp w9):=aU 2 h.l
 have hTl:g.T = x.tl:=hg.t.1
 refine ⟨_,rfl,g9,_,_,_,B.c0 s9,ae (λh2=>?_) λh2=>?_⟩
 ·have h2:=V7 h2
  exact ⟨⟨by omega,by omega⟩,⟨i + 1,ls,bs,by simp,rfl,h1,hD.skip hy (.inl (by omega)),h⟩,bw (XS h1 hlen)⟩
 have h2:(g.T:Int)<=cM g y:=by have:=V8 h2; omega
 obtain ⟨_,ha2⟩:=QQ hc hyf (by omega)
 obtain ⟨s,hs⟩ : ∃ s:Nat,cM g y = s:=⟨(cM g y).toNat,by omega⟩
 have hsl:s < bs.length:=by have:=hD.ln; omega
 rw [hs]
 have hb0:(bv bs)[s]? = some (.bool bs[s]):=by unfold bv; rw [Wc,Wa hsl]; rfl
 refine aw rfl (by have:=hD.ln; omega) ⟨_,(ai 1 h.l).cell (sub.refl _) (j:=s) hb0,ae (λh3=>?_) λh3=>?_⟩
 ·exact ⟨⟨by omega,by omega⟩,⟨i + 1,ls,bs,by simp,rfl,h1,hD.skip hy (.inr (by rw [hs,Ws,Wa hsl,h3])),h⟩,bw (XS h1 hlen)⟩
 refine aw rfl (by have:=hD.ln; omega) ?_
 rw [aL]
 refine bh (h.pick 2 [1,0]) (by rw [mH]; exact hsl) λw10 h=>?_
 rw [AA] at h
 have pl:=hg.p.1
 refine ⟨λo n c' z w'=>∃ (j:Nat) (ms:List ag),z = j/\n = ms.length/\j<=x.pl/\Fk g I s ls j ms/\St w' (own 2 o n c' (tv ms) :: aK k12 (bv (bs.set s true)) :: all w1),λ_ _ _ z _=>x.pl - z.toNat,
  ⟨0,ls,rfl,rfl,Wi _,hD.inner s,h.pick 2 [1,0]⟩,?_⟩
 clear h cy
 rintro _ o _ c4 _ w11 ⟨j,ms,rfl,rfl,hj,hJ,h⟩
 have hml:=Hi hJ.nd hJ.ok
 rw [hll] at hml
 have s11:sub (hp w1) (hp w11):=aU 2 h.l
 refine ⟨_,_,_,B.c4 s11,ae (λh4=>?_) λh4=>?_⟩
 rotate_left
 ·have h4:j = g.prods.length:=by have:=V8 h4; omega
  rw [h4] at hJ
  have hD2:=hD.more hy (by omega) (by rw [hs]; exact hsl) (by rw [hs]; exact hJ)
  rw [hs,Ws] at hD2
  obtain ⟨ex,hex⟩:=hJ.pre
  refine ⟨⟨by omega,by omega⟩,⟨i + 1,ms,_,by simp,rfl,?_,hD2,h⟩,bw (XS h1 hlen)⟩
  rw [hex,We]; exact Nat.le_add_right_of_le h1
 have h4:j < x.pl:=by have:=V7 h4; omega
 refine ah h λk29 w12 h=>bx h rfl (by simp [aV]) λw13 h=>?_
 obtain ⟨p,pad,vs,hp1,hpa,hp2,ra,rl,rc,rfl,hrc,hp3⟩:=hg.p.get h4
 have s13:sub (hp w1) (hp w13):=aU 3 h.l
 have hj1:ax ((j:Int) + 1):=⟨by omega,by omega⟩
 refine ⟨_,_,_,B.c4 s13,au hpa h4 ⟨_,hp2.cell0 s13,ae (λh5=>?_) λh5=>?_⟩⟩
 ·have h5:p.left≠s:=bne_iff_ne.1 h5
  exact ⟨hj1,⟨j + 1,ms,by simp,rfl,h4,hJ.skip hp1 (.inl h5),h.pick 4 [1,2,3]⟩,bw h4⟩
 have h5:p.left = s:=bne_eq_false_iff_eq.1 h5
 refine ⟨_,_,(ai 0 h.l).at (sub.refl _) rfl,(Uw (y:=DZ j) (cq (h.pick 2 [1])) (by omega)).mono ?_⟩
 rintro _ w14 ⟨rfl,g14⟩
 have h:=h.gr g14
 refine ⟨_,rfl,ae (λh6=>?_) λh6=>?_⟩
 rotate_left
 ·have h6:DZ j∈ms:=by simpa using h6
  exact ⟨hj1,⟨j + 1,ms,by simp,rfl,h4,hJ.skip hp1 (.inr h6),h.pick 4 [1,2,3]⟩,bw h4⟩
 have h6:DZ j∉ms:=by simpa using h6
 have hJ2:=hJ.put hp1 h5 h6 hyo hs (WJ _)
 have z1:(ms.length + 1) * 16<=140737488355328/\ms.length < 9223372036854775807:=by omega
 refine ⟨_,_,(ai 0 h.l).at (sub.refl _) rfl,ah h λk32 w15 h=>?_⟩
 refine (aP (us:=tv ms) aQ (rfl:aj Ty _ = .slice _) (rfl:aj Ty _ = .slice _) rfl rfl rfl (h.pick 3 [0,2]) rfl (by simp [aV]) z1.1 z1.2).mono ?_
 rintro _ w16 ⟨o15,c15,rfl,h⟩
 have e:tv (ms ++ [DZ j]) = tv ms ++ [.int .i64 (j:Int),.int .i64 0]:=by rw [mM]; rfl
 refine ⟨_,_,_,rfl,hj1,⟨j + 1,ms ++ [DZ j],by simp,by simp,h4,hJ2,?_⟩,bw h4⟩
 rw [e]
 exact h.pick 4 [0,2,3]
theorem Tc {s:Int} (hg:gR (hp w) g x) (hb:iE g) (hx:a_ (hp w) I a l) (hf:xh g I) (hl:l<=8796093022100):aA Tryz.prog uq [.agg ⟨x.cells⟩,.int .i64 s,.slice a l c] w λv w'=>∃ o c',v = .slice o (lay (dP g I s)).length c'/\St w' (own 2 o (lay (dP g I s)).length c' (tv (lay (dP g I s))) :: all w):=by
 have hll:=hx.1
 obtain ⟨_,_,_,_,_,_,hbr⟩:=id hb
 refine qF (cW hg λk1 w1 gw hg B=>?_)
 have hx:=hx.mono gw
 refine ⟨λo n c' z w'=>∃ j:Nat,z = j/\j<=l/\n = (dP g (I.take j) s).length/\St w' (own 2 o n c' (tv (dP g (I.take j) s)) :: all w1),λ_ _ _ z _=>l - z.toNat,⟨0,rfl,Wi _,rfl,az 2 (St.all w1)⟩,?_⟩
 rintro _ o _ c1 _ w2 ⟨j,rfl,hj,rfl,h⟩
 have hkl:(dP g (I.take j) s).length<=j:=by have:=tQ g (I.take j) s; rw [Wx] at this; omega
 refine ae (λh1=>?_) λh1=>?_
 rotate_left
 ·have h1:j = l:=by have:=V8 h1; omega
  rw [h1,Wq (by omega)] at h hkl
  rw [h1,Wq (by omega)]
  refine (Jf (cq h) (by omega)).mono ?_
  rintro _ w12 ⟨o7,c7,rfl,h7⟩
  exact ⟨_,_,_,rfl,_,_,rfl,h7.qV (ft (bD gw) (aU 1 h.l))⟩
 have h1:j < l:=by have:=V7 h1; omega
 obtain ⟨y,ad,hy,rfl,cy⟩:=cr hx h1
 have row:av (hp w1) (ad.add (cV j 2)) (cj y):=by
  obtain ⟨ad',vs,e,r,e2⟩:=hx.2 j y hy
  cases e; rw [show vs = cj y from e2] at r; exact r
 have hyf:=hf y (V_ hy)
 have hyd:0<=y.dot/\y.dot<=17592186043904:=by
  obtain ⟨_,h2,p,hp,h3⟩:=hyf
  have:=hbr p (V_ hp); omega
 have hk1:dP g (I.take (j + 1)) s = if s = cM g y then dP g (I.take j) s ++ [⟨y.prod,y.dot + 1⟩] else dP g (I.take j) s:=by
  rw [Wf,hy,Xh,BW]
 have hj1:ax ((j:Int) + 1):=⟨by omega,by omega⟩
 have z1:((dP g (I.take j) s).length + 1) * 16<=140737488355328/\(dP g (I.take j) s).length < 9223372036854775807:=⟨WC (XJ 16 (Nat.succ_le_succ hkl)) (by omega),Nat.lt_of_le_of_lt hkl (by omega)⟩
 generalize dP g (I.take j) s = K at h hk1 z1 hkl
 intro w3 hd
 have h:=h.eq (aB hd)
 have s3:sub (hp w1) (hp w3):=aU 1 h.l
 refine ⟨λu=>sub (hp w1) (hp u),s3,_,_,_,_,_,_,_,_,_,_,_,_,_,λu s=>B.row s,au rfl h1 ⟨_,_,λu s=>cy u s,(AF (hg.mono s3) hyf).mono ?_⟩⟩
 rintro _ w6 ⟨rfl,g6⟩
 have h:=h.gr g6
 refine ⟨_,rfl,aU 1 h.l,ae (λh2=>?_) λh2=>?_⟩
 ·have h2:s = cM g y:=(X2.1 h2).symm
  rw [Wn h2] at hk1
  intro w7 hd7
  have h:=h.eq (aB hd7)
  refine ⟨λu=>sub (hp w1) (hp u),aU 1 h.l,au rfl h1 ⟨_,λu s=>row.cell0 s,au rfl h1 ⟨_,λu s=>row.cell s (j:=1) rfl,⟨by omega,by omega⟩,ah h λk12 w10 h=>⟨aU 2 h.l,?_⟩⟩⟩⟩
  refine (aP (us:=tv K) aQ (rfl:aj Ty _ = .slice _) (rfl:aj Ty _ = .slice _) rfl rfl rfl h rfl (by simp [aV]) z1.1 z1.2).mono ?_
  rintro _ w11 ⟨o6,c6,rfl,h⟩
  have e:tv (K ++ [⟨y.prod,y.dot + 1⟩]) = tv K ++ [.int .i64 y.prod,.int .i64 (y.dot + 1)]:=by rw [mM]; rfl
  refine ⟨_,_,_,rfl,aU 2 h.l,hj1,⟨j + 1,by simp,h1,by rw [hk1]; simp,?_⟩,bw h1⟩
  rw [hk1,e]
  exact h.pick 3 [0,2]
 ·have h2:s≠cM g y:=λe=>by rw [e] at h2; simp at h2
  rw [Wg h2] at hk1
  exact ⟨hj1,⟨j + 1,by simp,h1,by rw [hk1],by rw [hk1]; exact h⟩,bw h1⟩
theorem QR (hf:xh g I):xh g (cls g I):=λx hx=>(iJ.1 hx).fit hf
end Go.Proofs.YtndaepmjkbmjmaaGreatDoor
namespace Go.V
def xl (h:Hp) (ss:List SQ) (o:Yg):Prop:=∀ (i:Nat) q,ss[i]? = some q->∃ ad,o = some ad/\av h (ad.add (cV i 2)) (PR q)/\a_ h q.1.2 q.1.1.1 q.1.2.length/\a_ h q.2.2 q.2.1.1 q.2.2.length
theorem xl.mono {h h' : Hp} {ss:List SQ} {o:Yg} (s:sub h h') (r:xl h ss o):xl h' ss o:=λi q hq=>by
 obtain ⟨ad,h1,h2,h3,h4⟩:=r i q hq
 exact ⟨ad,h1,h2.mono s,h3.mono s,h4.mono s⟩
theorem QS {h:Hp} {xs:List aO} {a:Yg} {l:Nat} (hl:xs.length = l) (r:eR a (Ia xs) h):a_ h xs a l:=by
 refine ⟨hl,λi x hx=>?_⟩
 rcases r with e | ⟨ad,rfl,hc⟩
 ·have h1:=congrArg List.length e
  rw [QI,W0] at h1
  have:=(V9.1 hx).1; omega
 ·exact ⟨ad,N1 x,rfl,bR (n:=2) (λ_=>rfl) xs ad hc i x hx,rfl⟩
theorem lj {h:Hp} {xs:List aO} {a:Yg} {l:Nat} (r:a_ h xs a l) {i:Nat} (hi:i < l):∃ x ad,xs[i]? = some x/\a = some ad/\av h (ad.add (cV i 2)) (N1 x):=by
 obtain ⟨x,ad,vs,hx,ha,hr,e⟩:=r.get hi
 rw [show vs = N1 x from e] at hr
 exact ⟨x,ad,hx,ha,hr⟩
theorem tS {h:Hp} {L:List ay} {ss:List SQ} {o:Yg} {n c:Nat} (hs:aC (own 2 o n c (wb ss) :: aG (Ab ss) :: aG (we ss) :: L) h):xl h ss o:=λi q hq=>by
 obtain ⟨ad,e,r⟩:=yD (fN 0 hs) hq
 obtain ⟨h1,s1,a1⟩:=tR (bz hs) (Fi hq)
 obtain ⟨h2,s2,a2⟩:=tR (bz (bz hs)) (KC hq)
 exact ⟨ad,e,r,(Fj a1).mono s1,(QS rfl (cf a2)).mono s2⟩
def dU (g:af) (K:cg) (s:Nat):List Nat:=(List.range s).filter λs=>decide (aF g K s≠[])
section
variable {g:af} {K:cg} {ss:List SQ} {asked:Int} {i s:Nat} {es:List aO}
theorem jN:dU g K (s + 1) = dU g K s ++ if aF g K (s:Int)≠[] then [s] else []:=by
 unfold dU
 rw [Xi,WK]
 congr 1
 by_cases h:aF g K (s:Int)≠[]
 ·simp [h]
 ·simp [h]
theorem B3:∀ (s n:Nat),s<=n->∃ t,dU g K n = dU g K s ++ t
  | s, 0, h => ⟨[], by have : s = 0 := by omega
                       subst this; simp⟩
  | s,n + 1,h=>by
    by_cases e:s = n + 1
    · subst e; exact ⟨[],by simp⟩
    · obtain ⟨t,ht⟩:=B3 s n (by omega)
      exact ⟨t ++ if aF g K (n:Int)≠[] then [n] else [],by rw [jN,ht,Wj]⟩
theorem Hj (h:s<=g.T + g.N):dU g K s = (bC g K).take (dU g K s).length:=by
 obtain ⟨t,ht⟩:=B3 (g:=g) (K:=K) s _ h
 rw [show bC g K = dU g K (g.T + g.N) from rfl,ht,List.take_left' rfl]
theorem N7 (hc:ak g) (hf:∀ x∈K,jV g x):aF g K 0 = []:=by
 refine Xa λh=>?_
 have:=sE (s:=0) hc hf (Int.le_refl _) h
 omega
structure L0 (g:af) (ss:List SQ) (asked:Int) (i:Nat):Prop where
 ks:bL ss = (b_ g i).1
 es:bu ss = (b_ g i).2 ++ List.replicate (ss.length - i) []
 lt:∀ j,j < i->j < (b_ g j).1.length
 le:ss.length<=256
 ask:asked = 1 + (xk (b_ g i).2:Int)
structure xm (g:af) (K:cg) (ss:List SQ) (asked:Int) (i s:Nat) (es:List aO):Prop where
 ks:bL ss = (kJ g K (dU g K s) ((b_ g i).1,[])).1
 ed:es = (kJ g K (dU g K s) ((b_ g i).1,[])).2
 eL:bu ss = (b_ g i).2 ++ es :: List.replicate (ss.length - i - 1) []
 le:ss.length<=256
 ask:asked = 1 + (xk (b_ g i).2:Int) + es.length
theorem L0.start {b:Yg} {d:Nat}:L0 g [(((b,d),[⟨0,0⟩]),((none,0),[]))] 1 0:=⟨rfl,rfl,λj hj=>by omega,by simp,rfl⟩
theorem L0.inner (h:L0 g ss asked i) (hi:i < ss.length) (h0:aF g K 0 = []):xm g K ss asked i 1 []:=by
 have e:dU g K 1 = []:=by rw [show (1:Nat) = 0 + 1 from rfl,jN]; simp [h0,dU]
 refine ⟨by rw [e]; exact h.ks,by rw [e]; rfl,?_,h.le,by rw [h.ask]; simp⟩
 rw [h.es,show ss.length - i = (ss.length - i - 1) + 1 by omega,XZ]; simp
theorem xm.skip (h:xm g K ss asked i s es) (hk:aF g K (s:Int) = []):xm g K ss asked i (s + 1) es:=by
 have e:dU g K (s + 1) = dU g K s:=by rw [jN]; simp [hk]
 exact ⟨by rw [e]; exact h.ks,by rw [e]; exact h.ed,h.eL,h.le,h.ask⟩
theorem QT (ss:List SQ) (b:Yg) (d:Nat) (K:cg):bu (fk ss b d K) = bu ss ++ List.replicate ((fk ss b d K).length - ss.length) []:=by
 unfold fk
 split
 ·simp
 ·simp [bu]
theorem xm.next (h:xm g K ss asked i s es) (hk:aF g K (s:Int)≠[]) (hi:i < ss.length) (hes:(b_ g i).2.length = i) {b:Yg} {d:Nat} (hle:(fk ss b d (aF g K s)).length<=256) {q:SQ} (hq:(fk ss b d (aF g K s))[i]? = some q) (E:Lq aO)
  (hE:E.2 = es ++ [⟨(s:Int),(((bL ss).idxOf (aF g K s):Nat):Int)⟩]):xm g K ((fk ss b d (aF g K s)).set i (q.1,E)) (asked + 1) i (s + 1) E.2:=by
 have e:dU g K (s + 1) = dU g K s ++ [s]:=by rw [jN,Wn hk]
 have hs:=yF hq E
 have hnl:=BZ ss b d (aF g K s)
 refine ⟨?_,?_,?_,by rw [WE]; exact hle,by rw [h.ask,hE]; simp; omega⟩
 ·rw [hs.1,AD,e,xd,h.ks]
 ·rw [hE,e,xd,h.ed,h.ks]
 ·rw [hs.2.2.1,QT,h.eL,WE,Wj,Xy _ _ (by omega),hes,Xe,List.cons_append,List.set_cons_zero,List.replicate_append_replicate]
  congr 3
  omega
theorem xm.done (h:xm g K ss asked i (g.T + g.N) es) (hb:∀ j,j < i->j < (b_ g j).1.length) (hK:(b_ g i).1[i]? = some K):L0 g ss asked (i + 1):=by
 have hb1:=d_ hK
 refine ⟨by rw [hb1]; exact h.ks,?_,λj hj=>?_,h.le,?_⟩
 ·rw [hb1,h.eL,h.ed,Wj]; rfl
 ·by_cases e2:j = i
  ·subst e2; exact (V9.1 hK).1
  ·exact hb j (by omega)
 ·rw [hb1,yE,h.ask,h.ed]
  show _ = 1 + ((xk (b_ g i).2 + (kJ g K (bC g K) ((b_ g i).1,[])).2.length:Nat):Int)
  rw [show bC g K = dU g K (g.T + g.N) from rfl]
  omega
theorem xm.len (h:xm g K ss asked i s es) (hs:s<=g.T + g.N):es.length<=s:=by
 rw [h.ed,kX]
 have:=WM (λs=>decide (aF g K (s:Nat)≠[])) (List.range s)
 rw [Xs] at this
 simpa [dU] using this
theorem xm.get (h:xm g K ss asked i s es) (hes:(b_ g i).2.length = i) {q:SQ} (hq:ss[i]? = some q):q.2.2 = es:=by
 have h1:(bu ss)[i]? = some q.2.2:=by unfold bu; rw [Wc,hq]; rfl
 rw [h.eL,Wm (by omega),hes,Xe] at h1
 simpa using h1.symm
end
end Go.V
namespace Go.Proofs.YtndaepmjkbmjmaaGreatDoor
open Go.V
variable {w:World} {L:List ay} {g:af} {x:GA} {a a2:Yg} {l c l2 c2:Nat} {I J:List ag}
theorem QU {ss:List SQ} {o:Yg} (hs:xl (hp w) ss o) (hx:a_ (hp w) I a l) (hn:ss.length<=300) (hk:∀ q∈ss,q.1.2.length<=4611686018427387904):aA Tryz.prog sF [.slice o ss.length c,.slice a l c2] w λv w'=>v = .int .i64 (if I∈bL ss then (((bL ss).idxOf I:Nat):Int) else -1)/\hp w' = hp w:=by
 refine pk ⟨λz w'=>∃ j:Nat,z = j/\j<=ss.length/\I∉(bL ss).take j/\hp w' = hp w,λz _=>ss.length - z.toNat,⟨0,rfl,Wi _,by simp,rfl⟩,?_⟩
 rintro _ _ w1 ⟨j,rfl,hj,hni,e1⟩
 refine ae (λh1=>?_) λh1=>?_
 rotate_left
 ·have h1:j = ss.length:=by have:=V8 h1; omega
  rw [h1,Wq (by rw [dI]; exact Wr _)] at hni
  exact ⟨by rw [Wg hni],e1⟩
 have h1:j < ss.length:=by have:=V7 h1; omega
 have hq:ss[j]? = some ss[j]:=Wa h1
 obtain ⟨ad,rfl,r,rk,_⟩:=hs j _ hq
 have hkj:(bL ss)[j]? = some (ss[j]).1.2:=by unfold bL; rw [Wc,hq]; rfl
 refine au rfl h1 ⟨_,_,_,r.cell0 (vh e1),(Hh (by rw [e1]; exact rk) (by rw [e1]; exact hx) (hk _ (V_ hq))).mono ?_⟩
 rintro _ w2 ⟨rfl,e2⟩
 refine ⟨_,rfl,ae (λh2=>?_) λh2=>?_⟩
 ·have h2:(ss[j]).1.2 = I:=V7 h2
  rw [h2] at hkj
  have hm:=V_ hkj
  rw [Wn hm]
  have hjl:j < (bL ss).length:=(V9.1 hkj).1
  have:(bL ss).idxOf I = j:=by
   refine Nat.le_antisymm (XI λhlt=>?_) (XI λhlt=>hni ?_)
   ·have e3:(bL ss).idxOf I<=j:=by
     have e4:bL ss = (bL ss).take j ++ I :: (bL ss).drop (j + 1):=by
      rw [<- (V9.1 hkj).2,<- WO hjl,Wz]
     rw [e4,List.idxOf_append,Wg hni]
     simp; omega
    omega
   ·have:=List.getElem_idxOf (XY hm)
    refine V_ (i:=(bL ss).idxOf I) ?_
    rw [Xg,Wn hlt,Wa (XY hm),this]
  rw [this]
  exact ⟨rfl,e2.trans e1⟩
 ·have h2:(ss[j]).1.2≠I:=V8 h2
  exact ⟨⟨by omega,by omega⟩,⟨j + 1,by simp,h1,by rw [Wf,hkj,Wd]; simp [hni,XG h2],e2.trans e1⟩,bw h1⟩
theorem N8 {kt c i:Nat} {s t:Int} {o:Yg} {rest:List Value} {ss:List SQ} {q:SQ} {X:World->Prop} (h:St w (aK kt (.slice o ss.length c :: rest) :: own 2 o ss.length c (wb ss) :: aG (we ss) :: L)) (hq:ss[i]? = some q) (hsz:q.2.2.length<=1000)
  (hX:∀ (w' : World) (E:Lq aO),E.2 = q.2.2 ++ [⟨s,t⟩]->St w' (aK kt (.slice o ss.length c :: rest) :: own 2 o ss.length c (wb (ss.set i (q.1,E))) :: aG (we (ss.set i (q.1,E))) :: L)->X w') :
  ∀ w1,drawn w w1->∃ C:World->Prop,C w1/\∃ o1 k1 k2,(∀ u,C u->u.cell? (aM kt) = some (vS o1 k1 k2))/\∃ o2 k3 k4,(∀ u,C u->u.cell? (aM kt) = some (vS o2 k3 k4))/\idx o2 k3 (i:Int) 2 λa2=>∃ o3 k5 k6,(∀ u,C u->u.cell? (Addr.add a2 1) = some (vS o3 k5 k6)) /\
   new w1 (oC [.int .i64 s,.int .i64 t] GP) λk7 w2=>C w2/\aX Tryz.prog (ir C9 (Array.mk [vS o3 k5 k6,vS (some (aM k7)) 1 1])) w2 λv w3=>∃ o4 k8 k9,v = vS o4 k8 k9/\C w3/\idx o1 k1 (i:Int) 2 λa3=>st1 w3 (Addr.add a3 1) (vS o4 k8 k9) X:=by
 intro w1 hd
 have h:=h.eq (aB hd)
 have hil:=(V9.1 hq).1
 obtain ⟨ad,rfl,_⟩:=yD (fN 1 h.l) hq
 have cA:∀ {u:World} {L' : List ay},St u (aK kt (.slice (some ad) ss.length c :: rest) :: L')->u.cell? (aM kt) = some (vS (some ad) ss.length c):=λh=>(ai 0 h.l).cell0 (sub.refl _)
 have cB:∀ {u:World} {L' : List ay},St u (own 2 (some ad) ss.length c (wb ss) :: L')->u.cell? ((ad.add (cV i 2)).add 1) = some (dO q.2):=λh=>by
  obtain ⟨ad',e,r⟩:=yD (fN 0 h.l) hq
  cases e
  exact r.cell (sub.refl _) (j:=1) rfl
 refine ⟨λu=>u.cell? (aM kt) = some (vS (some ad) ss.length c)/\u.cell? ((ad.add (cV i 2)).add 1) = some (dO q.2),⟨cA h,cB (h.pick 2 [1])⟩,_,_,_,λu hu=>hu.1,_,_,_,λu hu=>hu.1,au rfl hil ⟨_,_,_,λu hu=>hu.2,?_⟩⟩
 have h:=St.BK (h.pick 3 [2,0,1]) (KC hq)
 refine ah h λk7 w2 h=>⟨⟨cA (h.pick 4 [3]),cB (h.pick 5 [4])⟩,?_⟩
 have z1:(q.2.2.length + 1) * 16<=140737488355328/\q.2.2.length < 9223372036854775807:=by omega
 refine (aP (us:=Ia q.2.2) aQ (rfl:aj Ty _ = .slice _) (rfl:aj Ty _ = .slice _) rfl rfl rfl h rfl (by simp [aV]) z1.1 z1.2).mono ?_
 rintro _ w3 ⟨o4,c4,rfl,h⟩
 refine ⟨_,_,_,rfl,⟨cA (h.pick 4 [3]),cB (h.pick 5 [4])⟩,au rfl hil ?_⟩
 rw [add_add,aJ]
 refine oU (h.pick 5 [4,0,2,3]) rfl (by rw [Fh]; omega) λw4 h=>?_
 have e1:=KD hq ((o4,c4),q.2.2 ++ [⟨s,t⟩])
 have e2:=yF hq ((o4,c4),q.2.2 ++ [⟨s,t⟩])
 have e3:(q.2.2 ++ [(⟨s,t⟩ : aO)]).length = q.2.2.length + 1:=by simp
 have e4:Ia (q.2.2 ++ [⟨s,t⟩]) = Ia q.2.2 ++ [.int .i64 s,.int .i64 t]:=by unfold Ia; rw [WU]; rfl
 refine hX w4 ((o4,c4),q.2.2 ++ [⟨s,t⟩]) rfl ?_
 rw [<- e1,e2.2.2.2]
 have h:=St.E7 (M:=we ss) (n:=i) (by unfold we; rw [Wh]; exact hil) (h.pick 4 [1,2,0,3])
 unfold dm dO
 rw [e3,e4]
 exact h.pick 3 [2,1,0]
end Go.Proofs.YtndaepmjkbmjmaaGreatDoor
namespace Go.Proofs.YtndaepmjkbmjmaaGreatDoor
open Go.V
variable {w:World} {L:List ay} {g:af} {x:GA}
theorem QV (hg:gR (hp w) g x) (hb:iE g):aA Tryz.prog jM [.agg ⟨x.cells⟩] w λv w' =>
  (¬ak g/\v = .tuple #[.agg #[.slice none 0 0,.int .i64 0,.int .i64 0],.int .i64 1]/\Gr w w') \/
  (ak g/\QC g/\v = .tuple #[.agg #[.slice none 0 0,.int .i64 0,.int .i64 0],.int .i64 11]/\Gr w w') \/
  (ak g/\∃ (o:Yg) (c:Nat) (ss:List SQ),bm g ss/\v = .tuple #[.agg #[.slice o ss.length c,.int .i64 (1 + (xk (bu ss):Int)),.int .i64 (ss.length:Int)],.int .i64 0] /\
   St w' (own 2 o ss.length c (wb ss) :: aG (Ab ss) :: aG (we ss) :: all w)):=by
 refine ph (cW hg λk1 w1 gw hg B=>?_)
 refine ah (St.all w1) λk2 w2 h=>?_
 refine ⟨_,_,_,_,_,_,_,_,_,_,_,_,_,B.row h.aZ,(GX (hg.mono h.aZ) hb).mono ?_⟩
 rintro _ w3 ⟨⟨rb,rfl,hrb⟩,g3⟩
 have h:=h.gr g3
 refine ⟨_,rfl,ae (λh1=>?_) λh1=>?_⟩
 ·have hn:¬ak g:=λhc=>by rw [hrb.2 hc] at h1; simp at h1
  exact bx h rfl (by simp [aV]) λw4 h=>⟨_,_,_,_,_,(ai 0 h.l).at (sub.refl _) rfl,.inl ⟨hn,rfl,gw.trans h.aZ⟩⟩
 have hc:ak g:=hrb.1 (by simpa using h1)
 obtain ⟨hT,hN,hP,hP2,hT1,hN2⟩:=hc.ct
 refine ah h λkt w5 h=>bx h rfl (by simp [aV]) λw6 h=>⟨_,_,_,(ai 0 h.l).cell0 (sub.refl _),ah h λk16 w7 h=>ah h λk17 w8 h=>?_⟩
 refine (aP (us:=[]) aQ (rfl:aj Ty _ = .slice _) (rfl:aj Ty _ = .slice _) rfl rfl rfl ((az 2 h).pick 2 [1,0]) rfl (by simp [aV]) (by decide) (by decide)).mono ?_
 rintro _ w9 ⟨o7,c7,rfl,h⟩
 refine ⟨_,_,_,rfl,bh (h.pick 4 [3,0,2]) (by simp) λw10 h=>?_⟩
 have h:St w10 (aK kt [.slice o7 1 c7,.int .i64 1,.int .i64 1] :: own 2 o7 1 c7 [.slice (some (aM k16)) 1 1,.slice none 0 0] :: aK k16 [.int .i64 0,.int .i64 0] :: aK k2 z3 :: all w1):=h
 have h:St w10 (own 2 (some (aM k16)) 1 1 (tv [⟨0,0⟩]) :: aK kt [.slice o7 1 c7,.int .i64 1,.int .i64 1] :: own 2 o7 1 c7 [.slice (some (aM k16)) 1 1,.slice none 0 0] :: aK k2 z3 :: all w1):=iy (cs:=[]) (h.pick 3 [2,0,1]) rfl rfl (Wr _)
 have h:=St.snoc (M:=[]) (((St.flat (M:=[])).2 h).pick 2 [1,0])
 have h:=St.snoc (M:=[]) ((az 2 ((St.flat (M:=[])).2 h)).pick 2 [0,1])
 refine ⟨λz w'=>∃ (i:Nat) (ss:List SQ) (o:Yg) (c:Nat) (asked:Int),z = i/\i<=ss.length/\L0 g ss asked i/\St w' (aK kt [.slice o ss.length c,.int .i64 asked,.int .i64 (ss.length:Int)] :: own 2 o ss.length c (wb ss) :: aG (Ab ss) :: aG (we ss) :: aK k2 z3 :: all w1),λz _=>300 - z.toNat,
  ⟨0,[(((some (aM k16),1),[⟨0,0⟩]),((none,0),[]))],o7,c7,1,rfl,Wi _,.start,h.pick 5 [2,3,1,0,4]⟩,?_⟩
 clear h
 rintro _ _ w11 ⟨i,ss,o,c,asked,rfl,hi,hB,h⟩
 have hlen:ss.length<=256:=hB.le
 refine ⟨_,_,_,(ai 0 h.l).cell0 (sub.refl _),ae (λh1=>?_) λh1=>?_⟩
 rotate_left
 ·have h1:i = ss.length:=by have:=V8 h1; omega
  subst h1
  have hkl:=dI ss
  have hes:=hB.es
  rw [Xe,List.replicate_zero,WG] at hes
  have hA:bm g ss:=⟨⟨by rw [<- hB.ks,hkl],hlen,hB.lt⟩,hB.ks,hes⟩
  have r0:av (hp w11) (aM kt) [.slice o ss.length c,.int .i64 asked,.int .i64 (ss.length:Int)]:=ai 0 h.l
  refine ⟨_,_,_,_,_,r0.at (sub.refl _) rfl,bx (h.pick 6 [4,1,2,3,5]) rfl (by simp [aV]) λw32 h=>⟨_,_,_,_,_,(ai 0 h.l).at (sub.refl _) rfl,.inr (.inr ⟨hc,o,c,ss,hA,?_,?_⟩)⟩⟩
  ·rw [hes,<- hB.ask]
  ·exact St.on (N:=[_,_,_]) (h.pick 5 [1,2,3,4]) (bD gw)
 have h1:i < ss.length:=by have:=V7 h1; omega
 obtain ⟨q,hq⟩ : ∃ q,ss[i]? = some q:=⟨_,Wa h1⟩
 obtain ⟨K,hKq⟩ : ∃ K,K = q.1.2:=⟨_,rfl⟩
 have hK:(b_ g i).1[i]? = some K:=by rw [<- hB.ks]; unfold bL; rw [Wc,hq,hKq]; rfl
 have hI:=dg (g:=g) (by omega) i
 have hKm:=V_ hK
 have hKf:=hI.fit K hKm
 have hKd:∀ x∈K,x.dot<=i:=hI.dots i K hK
 have hKl:=xj hP (hI.Pd K hKm) hKf λx hx=>by have:=hKd x hx; omega
 have htot:=AE (g:=g) i
 have htot2:xk (b_ g i).2<=33280:=WC htot (XT (show i<=256 by omega) (show g.T + g.N<=130 by omega))
 have hes:=E_ (g:=g) i (by rw [<- hB.ks,dI]; omega)
 have hkap:∀ q∈ss,q.1.2.length<=29100:=λq hq=>by
  obtain ⟨j,hj⟩:=WH hq
  have e:(b_ g i).1[j]? = some q.1.2:=by rw [<- hB.ks]; unfold bL; rw [Wc,hj]; rfl
  have hm:=V_ e
  have hjl:=(V9.1 hj).1
  exact xj hP (hI.Pd _ hm) (hI.fit _ hm) λx hx=>by have:=hI.dots j _ e x hx; omega
 have hql:q.1.2.length = K.length:=by rw [hKq]
 have hz16:q.1.2.length * 16<=140737488351232:=by rw [hql]; omega
 intro w12 hd
 have h:=h.eq (aB hd)
 have s12:sub (hp w1) (hp w12):=aU 5 h.l
 have rt:av (hp w12) (aM kt) [.slice o ss.length c,.int .i64 asked,.int .i64 (ss.length:Int)]:=ai 0 h.l
 obtain ⟨ad,rfl,rs,rk0,_⟩:=tS (h.pick 4 [1,2,3]).l i q hq
 have rk:a_ (hp w12) K q.1.1.1 q.1.2.length:=by rw [hKq]; exact rk0
 clear rk0
 refine ⟨λu=>Gr w12 u,Gr.refl _,_,_,_,_,_,_,_,_,_,_,_,_,_,λu s=>B.row (sub.trans s12 s),_,_,_,λu s=>rt.cell0 s,au rfl h1 ⟨_,_,_,λu s=>rs.cell0 s,(D0 (hg.mono s12) hb hc rk hKf hz16).mono ?_⟩⟩
 rintro _ w16 ⟨oc,cc,rfl,h16⟩
 have h:=h16.qV h.l
 have hcl:=xi g K
 refine ⟨_,_,_,rfl,h16.aZ,λz w'=>∃ (s:Nat) (ss' : List SQ) (es:List aO) (o' : Yg) (c' : Nat) (asked' : Int),z = s/\1<=s/\s<=g.T + g.N/\xm g K ss' asked' i s es/\ss.length<=ss'.length/\(∀ q∈ss',q.1.2.length<=29300) /\
   St w' (aK kt [.slice o' ss'.length c',.int .i64 asked',.int .i64 (ss'.length:Int)] :: own 2 o' ss'.length c' (wb ss') :: aG (Ab ss') :: aG (we ss') :: own 2 oc (cls g K).length cc (tv (cls g K)) :: aK k2 z3 :: all w1),λz _=>200 - z.toNat,
  ⟨1,ss,[],some ad,c,asked,rfl,Wr _,by omega,hB.inner h1 (N7 hc hKf),Wr _,λq hq=>WC (hkap q hq) (by omega),h.pick 5 [1,2,3,4,0]⟩,?_⟩
 clear h h16 rs rk rt hq hKq hql
 rintro _ _ w17 ⟨s,ss',es,o',c',asked',rfl,hs1,hs2,hL,hle,hkap,h⟩
 have hle2:ss'.length<=256:=hL.le
 have hesl:=hL.len hs2
 have s17:sub (hp w1) (hp w17):=aU 6 h.l
 refine ⟨_,_,_,_,_,_,_,_,_,_,_,_,_,B.row s17,(jh (hg.mono s17) hb).mono ?_⟩
 rintro _ w18 ⟨rfl,g18⟩
 have h:=h.gr g18
 refine ⟨_,rfl,ae (λh2=>?_) λh2=>?_⟩
 rotate_left
 ·have h2:s = g.T + g.N:=by have:=V8 h2; omega
  rw [h2] at hL
  exact ⟨⟨by omega,by omega⟩,⟨i + 1,ss',o',c',asked',by simp,by omega,hL.done hB.lt hK,h.pick 6 [0,1,2,3,5]⟩,by dsimp only; omega⟩
 have h2:s < g.T + g.N:=by have:=V7 h2; omega
 have s18:sub (hp w1) (hp w18):=aU 6 h.l
 have hsI:ax ((s:Int) + 1):=⟨by omega,by omega⟩
 have hms:200 - ((s:Int) + 1).toNat < 200 - (s:Int).toNat:=by omega
 have hKk:∀ x∈aF g K (s:Int),jV g x:=BP hKf (WJ _)
 have hkl2:(aF g K (s:Int)).length<=(cls g K).length:=tQ g _ _
 have hkl3:(aF g K (s:Int)).length<=29300:=WC hkl2 (WC hcl (by omega))
 have hcf:xh g (cls g K):=QR hKf
 refine ⟨_,_,_,_,_,_,_,_,_,_,_,_,_,B.row s18,(Tc (s:=(s:Int)) (hg.mono s18) hb (cq (h.pick 5 [4])) hcf (WC hcl (by omega))).mono ?_⟩
 rintro _ w19 ⟨o24,c24,rfl,h19⟩
 have h:=h19.qV h.l
 have elk:lay (dP g (cls g K) (s:Int)) = aF g K (s:Int):=nS BM
 rw [elk] at h ⊢
 clear h19
 refine ⟨_,_,_,rfl,ae (λh3=>?_) λh3=>?_⟩
 ·have h3:aF g K (s:Int) = []:=by
   have:=eq_of_beq h3
   exact Wv (by omega)
  exact ⟨hsI,⟨s + 1,ss',es,o',c',asked',by simp,by omega,h2,hL.skip h3,hle,hkap,h.pick 8 [1,2,3,4,5,6,7]⟩,hms⟩
 have h3:aF g K (s:Int)≠[]:=λe=>by rw [e] at h3; simp at h3
 have hask:=hL.ask
 refine ⟨_,(ai 1 h.l).cell (sub.refl _) (j:=1) rfl,⟨by omega,by omega⟩,?_⟩
 rw [aL]
 refine bh (h.pick 2 [1,0]) (by simp) λw20 h=>?_
 have h:St w20 (aK kt [.slice o' ss'.length c',.int .i64 (asked' + 1),.int .i64 (ss'.length:Int)] :: own 2 o24 (aF g K (s:Int)).length c24 (tv (aF g K (s:Int))) :: own 2 o' ss'.length c' (wb ss') :: aG (Ab ss') :: aG (we ss') :: own 2 oc (cls g K).length cc (tv (cls g K)) :: aK k2 z3 :: all w1):=h
 refine ⟨_,_,_,(ai 0 h.l).cell0 (sub.refl _),(QU (c:=c') (c2:=c24) (tS (h.pick 5 [2,3,4]).l) (cq (h.pick 2 [1])) (by omega) λq hq=>WC (hkap q hq) (by decide)).mono ?_⟩
 rintro _ w21 ⟨rfl,e21⟩
 have h:=h.eq e21
 have hnl:=BZ ss' o24 c24 (aF g K (s:Int))
 obtain ⟨q,hq⟩ : ∃ q,ss'[i]? = some q:=⟨_,Wa (by omega)⟩
 have hqe:=hL.get hes hq
 refine ⟨_,rfl,ae (λh4=>?_) λh4=>?_⟩
 rotate_left
 ·have hm:aF g K (s:Int)∈bL ss':=Xa λhn=>by rw [Wg hn] at h4; exact absurd (V8 h4) (by decide)
  have hnS:fk ss' o24 c24 (aF g K (s:Int)) = ss':=by unfold fk; rw [Wn hm]
  rw [Wn hm]
  refine N8 (h.pick 5 [0,2,4,3]) hq (by rw [hqe]; omega) λw40 E hE h=>?_
  have hn:=hL.next (b:=o24) (d:=c24) (q:=q) h3 (by omega) hes (by rw [hnS]; exact hle2) (by rw [hnS]; exact hq) E (by rw [hE,hqe])
  rw [hnS] at hn
  have e2:=yF hq E
  refine ⟨hsI,⟨s + 1,ss'.set i (q.1,E),E.2,o',c',asked' + 1,by simp,by omega,h2,hn,by rw [WE]; exact hle,λr hr=>?_,?_⟩,hms⟩
  ·rcases XO hr with hr | rfl
   ·exact hkap r hr
   ·exact hkap q (V_ hq)
  ·rw [WE,e2.2.1]
   exact h.pick 4 [0,1,3,2]
 have hm:aF g K (s:Int)∉bL ss':=λhm=>by
  rw [Wn hm] at h4
  have:=V7 h4; omega
 have hnS:fk ss' o24 c24 (aF g K (s:Int)) = ss' ++ [(((o24,c24),aF g K (s:Int)),((none,0),[]))]:=by unfold fk; rw [Wg hm]
 refine ⟨_,_,_,(ai 0 h.l).cell0 (sub.refl _),ae (λh5=>?_) λh5=>?_⟩
 ·have h5:256<=ss'.length:=by have:=V7 h5; omega
  refine bx (h.pick 8 [6,7]) rfl (by simp [aV]) λw22 h=>⟨_,_,_,_,_,(ai 0 h.l).at (sub.refl _) rfl,.inr (.inl ⟨hc,⟨i,K,(dU g K (s + 1)).length,hK,λj hj=>?_,?_⟩,rfl,sub.trans gw (aU 1 h.l)⟩)⟩
  ·by_cases e:j = i
   ·subst e; exact (V9.1 hK).1
   ·exact hB.lt j (by omega)
  ·rw [<- Hj (g:=g) (K:=K) (s:=s + 1) h2,jN,Wn h3,xd,<- hL.ks]
   show 256 < (p8 _ _).length
   unfold p8
   rw [Wg hm,We,dI]; simp; omega
 have h5:ss'.length < 256:=by have:=V8 h5; omega
 refine ⟨_,(ai 0 h.l).cell (sub.refl _) (j:=2) rfl,⟨by omega,by omega⟩,?_⟩
 rw [aL]
 refine bh h (by simp) λw23 h=>⟨_,_,_,(ai 0 h.l).cell0 (sub.refl _),ah h λk62 w24 h=>?_⟩
 have z1:(ss'.length + 1) * 48<=140737488355328/\ss'.length < 9223372036854775807:=by omega
 refine (aP (us:=wb ss') aQ (rfl:aj Ty _ = .slice _) (rfl:aj Ty _ = .slice _) rfl rfl rfl (h.pick 4 [0,3,1,2]) rfl (by simp [aV]) z1.1 z1.2).mono ?_
 rintro _ w25 ⟨o29,c29,rfl,h⟩
 refine ⟨_,_,_,rfl,bh (h.pick 4 [2,0,3]) (by simp) λw26 h=>?_⟩
 have h:St w26 (aK kt [.slice o29 (ss'.length + 1) c29,.int .i64 (asked' + 1),.int .i64 ((ss'.length:Int) + 1)] :: own 2 o29 (ss'.length + 1) c29 (wb ss' ++ [.slice o24 (aF g K (s:Int)).length c24,.slice none 0 0]) :: own 2 o24 (aF g K (s:Int)).length c24 (tv (aF g K (s:Int))) :: aG (Ab ss') :: aG (we ss') :: own 2 oc (cls g K).length cc (tv (cls g K)) :: aK k2 z3 :: all w1):=h
 have h:=St.snoc (h.pick 4 [2,3,0,1])
 have h:=St.snoc ((az 2 h).pick 5 [0,4,1,2,3])
 have h:St w26 (aG (we ss' ++ [own 2 none 0 0 []]) :: aG (Ab ss' ++ [own 2 o24 (aF g K (s:Int)).length c24 (tv (aF g K (s:Int)))]) :: aK kt [.slice o29 (ss'.length + 1) c29,.int .i64 (asked' + 1),.int .i64 ((ss'.length:Int) + 1)] :: own 2 o29 (ss'.length + 1) c29 (wb ss' ++ [.slice o24 (aF g K (s:Int)).length c24,.slice none 0 0]) :: own 2 oc (cls g K).length cc (tv (cls g K)) :: aK k2 z3 :: all w1):=h
 have e3:wb (ss' ++ [(((o24,c24),aF g K (s:Int)),((none,0),[]))]) = wb ss' ++ [.slice o24 (aF g K (s:Int)).length c24,.slice none 0 0]:=by rw [Hc]; rfl
 have e4:Ab (ss' ++ [(((o24,c24),aF g K (s:Int)),((none,0),[]))]) = Ab ss' ++ [own 2 o24 (aF g K (s:Int)).length c24 (tv (aF g K (s:Int)))]:=by simp [Ab,dm]
 have e5:we (ss' ++ [(((o24,c24),aF g K (s:Int)),((none,0),[]))]) = we ss' ++ [own 2 none 0 0 []]:=by simp [we,dm,Ia]
 have e6:(ss' ++ [(((o24,c24),aF g K (s:Int)),(((none,0),[]):Lq aO))]).length = ss'.length + 1:=by simp
 have e7:((ss'.length:Int) + 1) = ((ss'.length + 1:Nat):Int):=by omega
 have eix:((bL ss').idxOf (aF g K (s:Int)):Nat) = ss'.length:=by rw [List.idxOf_eq_length hm,dI]
 rw [<- e3,<- e4,<- e5,e7,<- e6] at h
 obtain ⟨q2,hq2⟩ : ∃ q2,(fk ss' o24 c24 (aF g K (s:Int)))[i]? = some q2:=⟨_,Wa (by omega)⟩
 have hq3:=hq2
 rw [hnS] at hq3
 have e8:q2 = q:=by rw [Wl (by omega),hq] at hq3; exact (Option.some.inj hq3).symm
 subst e8
 refine N8 (t:=(ss'.length:Int)) (h.pick 4 [2,3,0,1]) hq3 (by rw [hqe]; omega) λw40 E hE h=>?_
 have hn:=hL.next (b:=o24) (d:=c24) (q:=q2) h3 (by omega) hes (by rw [hnS,e6]; omega) hq2 E (by rw [hE,hqe,eix])
 rw [hnS] at hn
 have e2:=yF hq3 E
 refine ⟨hsI,⟨s + 1,_,E.2,o29,c29,asked' + 1,by simp,by omega,h2,hn,by rw [WE,e6]; omega,λr hr=>?_,?_⟩,hms⟩
 ·rcases XO hr with hr | rfl
  ·rcases Wd.1 hr with hr | hr
   ·exact hkap r hr
   ·rw [Wy] at hr; subst hr; exact hkl3
  ·exact hkap q2 (V_ hq)
 ·rw [WE,e2.2.1]
  exact h.pick 4 [0,1,3,2]
end Go.Proofs.YtndaepmjkbmjmaaGreatDoor

namespace Go.V
theorem Hk {α : Type} [oF α] {h:Hp} {xs:List α} {b:Nat} {vs:List Value} (r:av h ⟨b,0,none⟩ vs) (hx:∀ (i:Nat) x,xs[i]? = some x->rd h x ((vs.drop (i * oF.n α)).take (oF.n α))):a_ h xs (some ⟨b,0,none⟩) xs.length :=
 ⟨rfl,λi x hi=>by
  refine ⟨_,_,rfl,λj v hj=>?_,hx i x hi⟩
  rw [Xg] at hj
  split at hj
  ·rw [WL] at hj
   rw [add_add,aJ]
   exact r _ v hj
  ·cases hj⟩
end Go.V


namespace Go.V
def tT (g:af) (ss:List SQ) (ask int f:Int):Prop :=
 (¬ak g/\ss = []/\ask = 0/\int = 0/\f = 1)\/(ak g/\QC g/\ss = []/\ask = 0/\int = 0/\f = 11)\/(ak g/\bm g ss/\ask = 1 + (xk (bu ss):Int)/\int = (ss.length:Int)/\f = 0)
theorem tT.one {g:af} {ss ss' : List SQ} {a i f a' i' f' : Int} (h:tT g ss a i f) (h' : tT g ss' a' i' f'):bL ss = bL ss'/\bu ss = bu ss'/\a = a'/\i = i'/\f = f'/\ss.length = ss'.length:=by
 rcases h with ⟨h1,rfl,rfl,rfl,rfl⟩ | ⟨h1,hb,rfl,rfl,rfl,rfl⟩ | ⟨h1,hA,rfl,rfl,rfl⟩
 ·rcases h' with ⟨h2,rfl,rfl,rfl,rfl⟩ | ⟨h2,_⟩ | ⟨h2,_⟩
  ·exact ⟨rfl,rfl,rfl,rfl,rfl,rfl⟩
  ·exact absurd h2 h1
  ·exact absurd h2 h1
 ·rcases h' with ⟨h2,_⟩ | ⟨h2,_,rfl,rfl,rfl,rfl⟩ | ⟨h2,hA,_⟩
  ·exact absurd h1 h2
  ·exact ⟨rfl,rfl,rfl,rfl,rfl,rfl⟩
  ·exact (BQ hA.dn hb).elim
 ·rcases h' with ⟨h2,_⟩ | ⟨h2,hb,_⟩ | ⟨h2,hA',rfl,rfl,rfl⟩
  ·exact absurd h1 h2
  ·exact (BQ hA.dn hb).elim
  ·have e:=G4 hA.dn hA'.dn
   have e2:bu ss = bu ss':=by rw [hA.es,hA'.es,e]
   refine ⟨by rw [hA.ks,hA'.ks,e],e2,by rw [e2],by rw [e],rfl,e⟩
theorem bm.yG {g:af} {ss:List SQ} (hc:ak g) (h:bm g ss):∀ q∈ss,q.1.2.length<=29100/\q.2.2.length<=130:=λq hq=>by
 obtain ⟨hT,hN,hP,hP2,_,_⟩:=hc.ct
 have hI:=dg (g:=g) (by omega) ss.length
 obtain ⟨j,hj⟩:=WH hq
 have e:(b_ g ss.length).1[j]? = some q.1.2:=by rw [<- h.ks]; unfold bL; rw [Wc,hj]; rfl
 have e2:(b_ g ss.length).2[j]? = some q.2.2:=by rw [<- h.es]; unfold bu; rw [Wc,hj]; rfl
 have hm:=V_ e
 have hjl:=(V9.1 hj).1
 have h256:=h.dn.2.1
 refine ⟨xj hP (hI.Pd _ hm) (hI.fit _ hm) λx hx=>by have:=hI.dots j _ e x hx; omega,?_⟩
 have key:∀ i,∀ es∈(b_ g i).2,es.length<=g.T + g.N:=by
  intro i
  induction i with
  | zero=>intro es hes; simp [b_] at hes
  | succ i ih =>
   intro es hes
   cases hi:(b_ g i).1[i]? with
   | none=>rw [nU hi] at hes; exact ih es hes
   | some K =>
    rw [d_ hi] at hes
    rcases Wd.1 hes with hes | hes
    ·exact ih es hes
    ·rw [Wy] at hes
     subst hes
     rw [kX]
     have:=WM (λs=>decide (aF g K (s:Nat)≠[])) (List.range (g.T + g.N))
     rw [Xs] at this
     simpa [bC] using this
 have:=key _ _ (V_ e2)
 omega
end Go.V
namespace Go.Proofs.YtndaepmjkbmjmaaGreatDoor
open Go.V
section
variable {w:World} {L:List ay} {g:af} {x:GA}
theorem B5 (hg:gR (hp w) g x) (hb:iE g):aA Tryz.prog zE [.agg ⟨x.cells⟩] w λv w'=>∃ (o:Yg) (c:Nat) (ss:List SQ) (ask int f:Int),v = .tuple #[.agg #[.slice o ss.length c,.int .i64 ask,.int .i64 int],.int .i64 f]/\tT g ss ask int f/\St w' (own 2 o ss.length c (wb ss) :: aG (Ab ss) :: aG (we ss) :: all w):=by
 refine (QM hg hb).mono ?_
 have z:∀ {w' : World},Gr w w'->St w' (own 2 none 0 0 (wb []) :: aG (Ab []) :: aG (we []) :: all w):=λgr=>az 2 ((St.flat (M:=[])).2 ((St.flat (M:=[])).2 (St.here gr)))
 rintro _ w' (⟨hn,rfl,gr⟩ | ⟨hc,hbig,rfl,gr⟩ | ⟨hc,o,ss,hA,rfl,h⟩)
 ·exact ⟨none,0,[],0,0,1,rfl,.inl ⟨hn,rfl,rfl,rfl,rfl⟩,z gr⟩
 ·exact ⟨none,0,[],0,0,11,rfl,.inr (.inl ⟨hc,hbig,rfl,rfl,rfl,rfl⟩),z gr⟩
 ·exact ⟨o,_,ss,_,_,0,rfl,.inr (.inr ⟨hc,hA,rfl,rfl,rfl⟩),h⟩
theorem N9 (hg:gR (hp w) g x) (hb:iE g):aA Tryz.prog jM [.agg ⟨x.cells⟩] w λv w'=>∃ (o:Yg) (c:Nat) (ss:List SQ) (ask int f:Int),v = .tuple #[.agg #[.slice o ss.length c,.int .i64 ask,.int .i64 int],.int .i64 f]/\tT g ss ask int f/\St w' (own 2 o ss.length c (wb ss) :: aG (Ab ss) :: aG (we ss) :: all w):=by
 refine (QV hg hb).mono ?_
 have z:∀ {w' : World},Gr w w'->St w' (own 2 none 0 0 (wb []) :: aG (Ab []) :: aG (we []) :: all w):=λgr=>az 2 ((St.flat (M:=[])).2 ((St.flat (M:=[])).2 (St.here gr)))
 rintro _ w' (⟨hn,rfl,gr⟩ | ⟨hc,hbig,rfl,gr⟩ | ⟨hc,o,c,ss,hA,rfl,h⟩)
 ·exact ⟨none,0,[],0,0,1,rfl,.inl ⟨hn,rfl,rfl,rfl,rfl⟩,z gr⟩
 ·exact ⟨none,0,[],0,0,11,rfl,.inr (.inl ⟨hc,hbig,rfl,rfl,rfl,rfl⟩),z gr⟩
 ·exact ⟨o,_,ss,_,_,0,rfl,.inr (.inr ⟨hc,hA,rfl,rfl,rfl⟩),h⟩
end
end Go.Proofs.YtndaepmjkbmjmaaGreatDoor


namespace Go.V
section
variable {g:af} {K:cg} {st:List cg} {n i j:Nat}
theorem KE {k:cg}:(p8 st k)[st.idxOf k]? = some k:=by
 unfold p8
 split
 ·rename_i h
  rw [Wa (XY h),List.getElem_idxOf]
 ·rename_i h
  rw [List.idxOf_eq_length h,Wm (Wr _),Xe]; rfl
theorem B6:∀ (l:List Nat) (st:List cg) (es:List aO) (k s:Nat),l[k]? = some s->∃ to:Nat,(kJ g K l (st,es)).2[es.length + k]? = some ⟨(s:Int),(to:Int)⟩/\(kJ g K l (st,es)).1[to]? = some (aF g K (s:Int))
 | [],_,_,_,_,h=>by simp at h
 | a :: l,st,es,0,s,h=>by
  simp at h; subst h
  refine ⟨st.idxOf (aF g K (a:Int)),?_,?_⟩
  ·show (kJ g K l (p8 st (aF g K (a:Int)),es ++ [⟨(a:Int),_⟩])).2[es.length + 0]? = _
   have pre:∀ (l:List Nat) (st:List cg) (es:List aO) (k:Nat) e,es[k]? = some e->(kJ g K l (st,es)).2[k]? = some e:=by
    intro l
    induction l with
    | nil=>exact λst es k e h=>h
    | cons b l ih =>
     intro st es k e h
     exact ih _ _ k e (by rw [Wl (V9.1 h).1]; exact h)
   exact pre l _ _ _ _ (by rw [Nat.add_zero,Wm (Wr _),Xe]; rfl)
  ·show (kJ g K l (p8 st (aF g K (a:Int)),es ++ [⟨(a:Int),_⟩])).1[_]? = _
   exact sk l _ _ _ _ KE
 | a :: l,st,es,k + 1,s,h=>by
  obtain ⟨to,h1,h2⟩:=B6 l (p8 st (aF g K (a:Int))) (es ++ [⟨(a:Int),((st.idxOf (aF g K (a:Int)):Nat):Int)⟩]) k s (by simpa using h)
  refine ⟨to,?_,h2⟩
  rw [We,X5] at h1
  rw [show es.length + (k + 1) = es.length + 1 + k by omega]
  exact h1
theorem L3 {i n:Nat} (h:i<=n) (j:Nat) (e:List aO) (he:(b_ g i).2[j]? = some e):(b_ g n).2[j]? = some e:=by
 induction h with
 | refl=>exact he
 | @step m _ ih =>
  cases hi:(b_ g m).1[m]? with
  | none=>rw [nU hi]; exact ih
  | some K=>rw [d_ hi,Wl (V9.1 ih).1]; exact ih
theorem fl {ss:List SQ} (h:bm g ss) {i:Nat} {q:SQ} (hq:ss[i]? = some q):(b_ g i).1[i]? = some q.1.2/\q.2.2 = (kJ g q.1.2 (bC g q.1.2) ((b_ g i).1,[])).2/\∀ (j:Nat) K,(b_ g (i + 1)).1[j]? = some K->∃ r,ss[j]? = some r/\r.1.2 = K:=by
 have hil:=(V9.1 hq).1
 have hlt:=h.dn.2.2 i hil
 have e1:(b_ g ss.length).1[i]? = some q.1.2:=by rw [<- h.ks]; unfold bL; rw [Wc,hq]; rfl
 obtain ⟨K,hK⟩ : ∃ K,(b_ g i).1[i]? = some K:=⟨_,Wa hlt⟩
 have e2:=xf (Nat.le_of_lt hil) i K hK
 rw [e1] at e2
 cases e2
 refine ⟨hK,?_,λj K' hj=>?_⟩
 ·have hb:=d_ hK
  have hes:=E_ (g:=g) i (by omega)
  have e3:(b_ g (i + 1)).2[i]? = some (kJ g q.1.2 (bC g q.1.2) ((b_ g i).1,[])).2:=by
   rw [hb,Wm (by omega),hes,Xe]; rfl
  have e4:=L3 hil i _ e3
  rw [<- h.es] at e4
  unfold bu at e4
  rw [Wc,hq] at e4
  exact Option.some.inj e4
 ·have e5:=xf hil j K' hj
  rw [<- h.ks] at e5
  unfold bL at e5
  rw [Wc] at e5
  cases hr:ss[j]? with
  | none=>rw [hr] at e5; cases e5
  | some r=>rw [hr] at e5; exact ⟨r,rfl,Option.some.inj e5⟩
theorem bm.pos {ss:List SQ} (h:bm g ss):0 < ss.length:=by
 refine X6 λh0=>?_
 have:=h.dn.1
 rw [h0] at this
 simp [b_] at this
end
end Go.V
namespace Go.V
section
variable {g:af} {K K' : cg} {s s' : Int} {ss:List SQ}
theorem N_ (h:aF g K s = aF g K' s') (hne:aF g K s≠[]):s = s':=by
 obtain ⟨x,hx⟩:=Xu _ hne
 have hx':=hx
 rw [h] at hx'
 obtain ⟨y,_,h1,rfl⟩:=cH.1 hx
 obtain ⟨z,_,h2,e⟩:=cH.1 hx'
 injection e with e1 e2
 have:y = z:=ag.ext' e1 (by omega)
 rw [<- h1,<- h2,this]
theorem KF:∀ (l:List Nat) (st:List cg) (es:List aO) (j:Nat) (L:cg),st.length<=j->(kJ g K l (st,es)).1[j]? = some L->∃ k s:Nat,l[k]? = some s/\L = aF g K (s:Int)/\(kJ g K l (st,es)).2[es.length + k]? = some ⟨(s:Int),(j:Int)⟩
 | [],st,es,j,L,hj,h=>by
  have:=(V9.1 h).1
  have h2:(kJ g K [] (st,es)).1.length = st.length:=rfl
  omega
 | a :: l,st,es,j,L,hj,h=>by
  by_cases hlt:(p8 st (aF g K (a:Int))).length<=j
  ·obtain ⟨k,s,h1,h2,h3⟩:=KF l (p8 st (aF g K (a:Int))) (es ++ [(⟨(a:Int),((st.idxOf (aF g K (a:Int)):Nat):Int)⟩ : aO)]) j L hlt h
   refine ⟨k + 1,s,by simpa using h1,h2,?_⟩
   rw [We,X5] at h3
   rw [show es.length + (k + 1) = es.length + 1 + k by omega]
   exact h3
  ·have hn:aF g K (a:Int)∉st:=λhm=>by
    have:(p8 st (aF g K (a:Int))).length = st.length:=by unfold p8; rw [Wn hm]
    omega
   have hlen:(p8 st (aF g K (a:Int))).length = st.length + 1:=by unfold p8; rw [Wg hn]; simp
   have hjs:j = st.length:=by omega
   obtain ⟨to,h1,h2⟩:=B6 (g:=g) (K:=K) (a :: l) st es 0 a rfl
   have e:st.idxOf (aF g K (a:Int)) = st.length:=List.idxOf_eq_length hn
   have hj2:(p8 st (aF g K (a:Int)))[j]? = some (aF g K (a:Int)):=by rw [hjs,<- e]; exact KE
   have hL:=sk l (p8 st (aF g K (a:Int))) (es ++ [(⟨(a:Int),((st.idxOf (aF g K (a:Int)):Nat):Int)⟩ : aO)]) j _ hj2 (g:=g) (K:=K)
   have h:(kJ g K l (p8 st (aF g K (a:Int)),es ++ [(⟨(a:Int),((st.idxOf (aF g K (a:Int)):Nat):Int)⟩ : aO)])).1[j]? = some L:=h
   rw [hL] at h
   refine ⟨0,a,rfl,(Option.some.inj h).symm,?_⟩
   have pre:∀ (l:List Nat) (st:List cg) (es:List aO) (k:Nat) e,es[k]? = some e->(kJ g K l (st,es)).2[k]? = some e:=by
    intro l
    induction l with
    | nil=>exact λst es k e h=>h
    | cons b l ih =>
     intro st es k e h
     exact ih _ _ k e (by rw [Wl (V9.1 h).1]; exact h)
   show (kJ g K l (p8 st (aF g K (a:Int)),es ++ [⟨(a:Int),_⟩])).2[es.length + 0]? = _
   exact pre l _ _ _ _ (by rw [Nat.add_zero,Wm (Wr _),Xe,hjs,e]; rfl)
theorem fm (hc:ak g) (h:bm g ss) {i:Nat} {q:SQ} (hq:ss[i]? = some q) {m:Nat} {e:aO} (he:q.2.2[m]? = some e):1<=e.sym/\e.sym < g.T + g.N/\∃ (j:Nat) (r:SQ),e.to = j/\1<=j/\ss[j]? = some r/\r.1.2 = aF g q.1.2 e.sym/\aF g q.1.2 e.sym≠[]:=by
 obtain ⟨hK,hE,hto⟩:=fl h hq
 obtain ⟨_,_,_,hP2,_,_⟩:=hc.ct
 have hI:=dg (g:=g) (by omega) i
 have hKf:=hI.fit _ (V_ hK)
 have hml:m < (bC g q.1.2).length:=by
  have:=(V9.1 he).1
  rw [hE,kX] at this
  simpa using this
 obtain ⟨to,h1,h2⟩:=B6 (g:=g) (K:=q.1.2) (bC g q.1.2) (b_ g i).1 [] m _ (Wa hml)
 rw [<- hE] at h1
 have h1:q.2.2[m]? = some ⟨(((bC g q.1.2)[m] : Nat):Int),(to:Int)⟩:=by simpa using h1
 rw [he] at h1
 have h1:=Option.some.inj h1
 have hne:=tN (g:=g) (K:=q.1.2) _ (List.getElem_mem hml)
 obtain ⟨r,hr,hrK⟩:=hto to _ (by rw [d_ hK]; exact h2)
 have hsy:=sE hc hKf (WJ _) hne
 rw [h1]
 refine ⟨hsy.1,hsy.2,to,r,rfl,X6 λh0=>?_,hr,hrK,hne⟩
 subst h0
 have e0:(b_ g ss.length).1[0]? = some [⟨0,0⟩]:=xf (Wi _) 0 _ rfl
 rw [<- h.ks] at e0
 unfold bL at e0
 rw [Wc,hr] at e0
 have e0:r.1.2 = [⟨0,0⟩]:=Option.some.inj e0
 rw [hrK] at e0
 have hm:(⟨0,0⟩ : ag)∈aF g q.1.2 (((bC g q.1.2)[m] : Nat):Int):=by rw [e0]; simp
 obtain ⟨y,hy,_,e⟩:=cH.1 hm
 injection e with _ e2
 have:=(hy.fit hKf).2.1
 omega
theorem Hl (hc:ak g) (h:bm g ss) {j:Nat} (hj:1<=j) (hjl:j < ss.length):∃ (i:Nat) (q:SQ) (m:Nat) (e:aO),i < j/\ss[i]? = some q/\q.2.2[m]? = some e/\e.to = j:=by
 have key:∀ n,n<=ss.length->j < (b_ g n).1.length->∃ (i:Nat) (K:cg),i < n/\(b_ g i).1[i]? = some K/\(b_ g i).1.length<=j/\j < (b_ g (i + 1)).1.length:=by
  intro n
  induction n with
  | zero=>intro _ h2; have:(b_ g 0).1.length = 1:=rfl; omega
  | succ n ih =>
   intro hn h2
   by_cases h3:j < (b_ g n).1.length
   ·obtain ⟨i,K,h4,h5⟩:=ih (by omega) h3
    exact ⟨i,K,by omega,h5⟩
   ·exact ⟨n,_,Nat.lt_succ_self n,Wa (h.dn.2.2 n (by omega)),by omega,h2⟩
 obtain ⟨i,K,h1,h2,h3,h4⟩:=key ss.length (Wr _) (by rw [h.dn.1]; exact hjl)
 have hil:i < ss.length:=h1
 obtain ⟨q,hq⟩ : ∃ q,ss[i]? = some q:=⟨_,Wa hil⟩
 obtain ⟨hK,hE,_⟩:=fl h hq
 rw [h2] at hK
 cases hK
 have hlt:=h.dn.2.2 i hil
 rw [d_ h2] at h4
 obtain ⟨m,s,h5,h6,h7⟩:=KF (g:=g) (bC g q.1.2) (b_ g i).1 [] j _ h3 (Wa h4)
 exact ⟨i,q,m,_,by omega,hq,by rw [hE]; simpa using h7,rfl⟩
noncomputable def Ux (g:af) (ss:List SQ) (j:Nat):Int:=Classical.epsilon λs:Int=>∃ (r:SQ) (K:cg),ss[j]? = some r/\(∀ x∈K,jV g x)/\r.1.2 = aF g K s/\aF g K s≠[]/\1<=s
theorem QW {j:Nat} {r:SQ} {K:cg} {s:Int} (hr:ss[j]? = some r) (hf:∀ x∈K,jV g x) (hk:r.1.2 = aF g K s) (hne:aF g K s≠[]) (hs:1<=s):Ux g ss j = s:=by
 obtain ⟨r',K',h1,_,h2,h3,_⟩:=Classical.epsilon_spec (p:=λs:Int=>∃ (r:SQ) (K:cg),ss[j]? = some r/\(∀ x∈K,jV g x)/\r.1.2 = aF g K s/\aF g K s≠[]/\1<=s) ⟨s,r,K,hr,hf,hk,hne,hs⟩
 rw [hr] at h1
 cases h1
 show Classical.epsilon _ = s
 exact N_ (h2.symm.trans hk) h3
theorem QX (hc:ak g) (h:bm g ss) {j:Nat} (hj:1<=j) {r:SQ} (hr:ss[j]? = some r) {x:ag} (hx:x∈r.1.2):0<=x.prod/\1<=x.dot/\∃ p,g.prods[x.prod.toNat]? = some p/\x.dot<=p.right.length/\p.right[(x.dot - 1).toNat]? = some (Ux g ss j):=by
 obtain ⟨i,q,m,e,hij,hq,he,hto⟩:=Hl hc h hj (V9.1 hr).1
 obtain ⟨h1,h2,j',r',e1,_,hr',hk,hne⟩:=fm hc h hq he
 have:j' = j:=by omega
 subst this
 rw [hr] at hr'
 cases hr'
 obtain ⟨hK,_⟩:=fl h hq
 obtain ⟨_,_,_,hP2,_,_⟩:=hc.ct
 have hKf:=(dg (g:=g) (by omega) i).fit _ (V_ hK)
 rw [QW hr hKf hk hne h1]
 rw [hk] at hx
 obtain ⟨y,hy,ha,rfl⟩:=cH.1 hx
 obtain ⟨p,hp,h3,h4⟩:=BO (hy.fit hKf) ha (by omega)
 have hyf:=hy.fit hKf
 refine ⟨hyf.1,by have:=hyf.2.1; show 1<=y.dot + 1; omega,p,hp,by show y.dot + 1<=_; omega,?_⟩
 show p.right[(y.dot + 1 - 1).toNat]? = _
 rw [show y.dot + 1 - 1 = y.dot by omega]
 exact h4
end
end Go.V


namespace Go.V
class j_ (κ : Type) extends MVal κ where
 a:κ->Int
 b:κ->Int
 val2:∀ k,toMVal.val k = .agg ⟨[.int .i64 (a k),.int .i64 (b k)]⟩
 ext:∀ k l,a k = a l->b k = b l->k = l
section
variable {P:Program} {κ : Type} [DecidableEq κ] [j_ κ] {kt ti:TypeId} {f0 f1:Field}
structure T7 (P:Program) (kt ti:TypeId) (f0 f1:Field):Prop where
 ht:P.underlying kt = some (.struct (P.fieldsOf kt))
 hf:P.fieldsOf kt = #[f0,f1]
 hi:P.underlying ti = some (.int .i64)
 ht0:f0.type = ti
 ht1:f1.type = ti
 n0 : f0.name ≠ "_"
 n1 : f1.name ≠ "_"
 o0:f0.offset = 0
 o1:f1.offset = 1
 sih:P.stoodInHeld kt = false
theorem Jg (T:T7 P kt ti f0 f1) (w:World) (x y u v:Int):(Op.equal kt (.agg #[.int .i64 x,.int .i64 y]) (.agg #[.int .i64 u,.int .i64 v])).run P w = .ok (decide (x = u/\y = v)) w:=by
 have p0:∀ (v u:Value) (w:World),(part ti #[v,u] 0).run P w = .ok v w:=λv u w=>by simp [part,dy T.hi,dZ,Kd.isAgg]
 have p1:∀ (v u:Value) (w:World),(part ti #[v,u] 1).run P w = .ok u w:=λv u w=>by simp [part,dy T.hi,dZ,Kd.isAgg]
 have eqI:∀ n m d w,(Op.equalIn (d + 1) ti (.int .i64 n) (.int .i64 m)).run P w = .ok (n == m) w:=λn m d w=>run_equalIn_int w d _ _ _ _ _ T.hi
 show (Op.equalIn (9998 + 1 + 1) kt _ _).run P w = _
 rw [run_equalIn_agg w (9998 + 1) kt _ _ T.ht T.sih,T.hf]
 have n0:=T.n0
 have n1:=T.n1
 have e:decide (x = u/\y = v) = (x == u && y == v):=by
  rw [WX]; simp
 rw [e]
 unfold Op.eqFields
 simp only [ne_eq,n0,not_false_eq_true,if_true,Sem.run_bind,T.ht0,T.o0,p0,Result.andThen_ok,eqI]
 cases hq:(x == u)
 ·simp
 ·unfold Op.eqFields
  simp only [ne_eq,n1,not_false_eq_true,if_true,Sem.run_bind,T.ht1,T.o1,p1,Result.andThen_ok,eqI,Bool.not_true,XF,if_false]
  cases hn:(y == v)
  ·simp
  ·unfold Op.eqFields; simp
theorem Hm (T:T7 P kt ti f0 f1) (w:World) (k:κ):∀ (es:List MapEntry) (m:List (κ × Value)) (i:Nat),es.map (λe=>(e.key,e.val)) = m.map (λx=>(MVal.val x.1,x.2)) ->
  ∃ r,(Instr.findAsking kt (MVal.val k) es i).run P w = .ok r w/\(r.map (·.2)) = assoc k m/\(∀ j v,r = some (j,v)->i<=j/\j < i + m.length/\(m[j - i]?).map (·.1) = some k/\∀ u,bK k u m = m.set (j - i) (k,u))/\(r = none->∀ u,bK k u m = m ++ [(k,u)])
 | [],[],i,_=>⟨none,rfl,rfl,λj v h=>(by cases h),λ_ u=>rfl⟩
 | [],_ :: _,i,h=>by simp at h
 | _ :: _,[],i,h=>by simp at h
 | e :: es,(a,v) :: m,i,h=>by
  simp only [WV,List.cons.injEq,Prod.mk.injEq] at h
  obtain ⟨⟨h1,h2⟩,h3⟩:=h
  have he:(Op.equal kt (MVal.val k) e.key).run P w = .ok (decide (k = a)) w:=by
   rw [h1,j_.val2,j_.val2]
   have:=Jg T w (j_.a k) (j_.b k) (j_.a a) (j_.b a)
   have e2:decide (j_.a k = j_.a a/\j_.b k = j_.b a) = decide (k = a):=decide_eq_decide.2 ⟨λ⟨h1,h2⟩=>j_.ext k a h1 h2,λh=>by rw [h]; exact ⟨rfl,rfl⟩⟩
   rw [e2] at this
   exact this
  unfold Instr.findAsking
  simp only [Sem.run_bind,he,Result.andThen_ok]
  by_cases hk:k = a
  ·subst hk
   refine ⟨some (i,e.val),by simp,by simp [assoc,h2],λj u hj=>?_,λhn=>by cases hn⟩
   cases hj
   simp [bK]
  ·obtain ⟨r,q1,q2,q3,q4⟩:=Hm T w k es m (i + 1) h3
   refine ⟨r,by simp [hk,q1],by simp [assoc,hk,q2],λj u hj=>?_,λhn u=>by simp [bK,hk,q4 hn u]⟩
   obtain ⟨p1,p2,p3,p4⟩:=q3 j u hj
   have e1:j - i = (j - (i + 1)) + 1:=by omega
   refine ⟨by omega,by simp; omega,by rw [e1]; simpa using p3,λu=>by rw [e1]; simp [bK,hk,p4 u]⟩
theorem rZ.two (T:T7 P kt ti f0 f1):rZ P kt κ where
 check:=λw em k=>by
  rw [j_.val2]
  have hd:=T.ht
  rw [T.hf] at hd
  have p0:∀ (v u:Value) (w:World),(part ti #[v,u] 0).run P w = .ok v w:=λv u w=>by simp [part,dy T.hi,dZ,Kd.isAgg]
  have p1:∀ (v u:Value) (w:World),(part ti #[v,u] 1).run P w = .ok u w:=λv u w=>by simp [part,dy T.hi,dZ,Kd.isAgg]
  have ci:∀ (n:Nat) (z:Int) (w:World),(Instr.checkKey em (n + 1) ti (.int .i64 z)).run P w = .ok () w:=λn z w=>MapKept.run_checkKey (P:=P) (w:=w) T.hi (by exact rfl) em n
  show (Instr.checkKey em (9998 + 1 + 1) kt _).run P w = _
  unfold Instr.checkKey
  simp only [Sem.run_bind,run_underlying hd,Result.andThen_ok]
  have n0:=T.n0
  have n1:=T.n1
  simp [n0,n1,T.ht0,T.ht1,T.o0,T.o1,Sem.run_bind,p0,p1,ci]
 find:=λw k es m he=>by
  obtain ⟨r,q1,q2,q3,q4⟩:=Hm T w k es m 0 he
  refine ⟨r,?_,q2,λj v hj=>?_,q4⟩
  ·have hd:=T.ht
   cases es with
   | nil =>
    cases m with
    | nil=>simp [Instr.findKey,run_underlying hd,Instr.findNow]; unfold Instr.findAsking at q1; simpa using q1
    | cons _ _=>simp at he
   | cons e es =>
    have hn:Instr.findNow (.struct (P.fieldsOf kt)) (MVal.val k) (e :: es) 0 = none:=by
     unfold Instr.findNow
     simp [Instr.sameNow]
    simp only [Instr.findKey,Sem.run_bind,run_underlying hd,Result.andThen_ok,hn]
    exact q1
  ·obtain ⟨_,p2,p3,p4⟩:=q3 j v hj
   rw [Nat.sub_zero] at p3 p4
   exact ⟨by omega,p3,p4⟩
 bits:=λk=>by rw [j_.val2]; simp [Instr.sameBits]
end
end Go.V
namespace Go.V
structure aq where
 st:Int
 sym:Int
deriving DecidableEq
instance:Inhabited aq:=⟨⟨0,0⟩⟩
instance:oF aq:={ n:=2,rd:=λ_ x vs=>vs = [.int .i64 x.st,.int .i64 x.sym],mono:=λ_ h=>h,len:=λh=>by rw [h]; rfl }
instance:j_ aq:={ val:=λk=>.agg ⟨[.int .i64 k.st,.int .i64 k.sym]⟩,inj:=λa b h=>by cases a; cases b; simp at h; obtain ⟨h1,h2⟩:=h; subst h1; subst h2; rfl,a:=aq.st,b:=aq.sym,val2:=λ_=>rfl,ext:=λk l h1 h2=>by cases k; cases l; cases h1; cases h2; rfl }
def B7 (x:aq):List Value:=[.int .i64 x.st,.int .i64 x.sym]
def D3 (xs:List aq):List Value:=xs.flatMap B7
theorem QY (xs:List aq):(D3 xs).length = xs.length * 2:=mN (f:=B7) (n:=2) (λ_=>rfl) xs
theorem QZ (xs ys:List aq):D3 (xs ++ ys) = D3 xs ++ D3 ys:=WU
theorem AG {h:Hp} {xs:List aq} {a:Yg} {l:Nat} (hl:xs.length = l) (r:eR a (D3 xs) h):a_ h xs a l:=by
 refine ⟨hl,λi x hx=>?_⟩
 rcases r with e | ⟨ad,rfl,hc⟩
 ·have h1:=congrArg List.length e
  rw [QY,W0] at h1
  have:=(V9.1 hx).1; omega
 ·exact ⟨ad,B7 x,rfl,bR (n:=2) (λ_=>rfl) xs ad hc i x hx,rfl⟩
theorem sM {h:Hp} {xs:List aq} {a:Yg} {l:Nat} (r:a_ h xs a l) {i:Nat} (hi:i < l):∃ x ad,xs[i]? = some x/\a = some ad/\av h (ad.add (cV i 2)) (B7 x):=by
 obtain ⟨x,ad,vs,hx,ha,hr,e⟩:=r.get hi
 rw [show vs = B7 x from e] at hr
 exact ⟨x,ad,hx,ha,hr⟩
def eW (ss:List SQ) (i:Nat) (s:Int):Option Int:=match ss[i]? with
 | none=>none
 | some q=>(q.2.2.find? λe=>decide (e.sym = s)).map (·.to)
def fo (g:af) (i:Nat) (es:List aO):List aq:=(es.filter λe=>decide ((g.T:Int)<=e.sym)).map λe=>⟨(i:Int),e.sym⟩
def tU (g:af) (ss:List SQ):Nat->List aq
 | 0=>[]
 | i + 1=>tU g ss i ++ (match ss[i]? with | some q=>fo g i q.2.2 | none=>[])
def bj (g:af) (ss:List SQ):List aq:=tU g ss ss.length
def ig (g:af) (ss:List SQ) (t:aq):List Int :=
 (if t = ⟨0,g.start⟩ then [0] else []) ++ (match eW ss t.st.toNat t.sym with
  | none=>[]
  | some j=>(match ss[j.toNat]? with | none=>[] | some q=>(q.2.2.filter λe=>decide (e.sym < (g.T:Int))).map (·.sym)))
def b9 (ss:List SQ):Int->List Int->Int
 | q,[]=>q
 | q,s :: l=>match eW ss q.toNat s with
  | none=>-1
  | some j=>b9 ss j l
section
variable {g:af} {ss:List SQ}
theorem nZ {i:Nat} {q:SQ} (hq:ss[i]? = some q):tU g ss (i + 1) = tU g ss i ++ fo g i q.2.2:=by
 show tU g ss i ++ (match ss[i]? with | some q=>fo g i q.2.2 | none=>[]) = _
 rw [hq]
theorem D4 {i:Nat} {es:List aO} {e:aO}:fo g i (es ++ [e]) = if (g.T:Int)<=e.sym then fo g i es ++ [⟨(i:Int),e.sym⟩] else fo g i es:=by
 unfold fo
 rw [WK,WB]
 by_cases h:(g.T:Int)<=e.sym <;> simp [h]
theorem n_ {i:Nat} {q:SQ} (hq:ss[i]? = some q) (s:Int):eW ss i s = (q.2.2.find? λe=>decide (e.sym = s)).map (·.to):=by unfold eW; rw [hq]
theorem B8 (h:bm g ss) {i:Nat} {q:SQ} (hq:ss[i]? = some q):q.2.2.map (·.sym) = (bC g q.1.2).map Int.ofNat:=by
 obtain ⟨hK,hE,_⟩:=fl h hq
 have key:∀ (l:List Nat) (st:List cg) (es:List aO),(kJ g q.1.2 l (st,es)).2.map (·.sym) = es.map (·.sym) ++ l.map Int.ofNat:=by
  intro l
  induction l with
  | nil=>intro st es; simp [kJ]
  | cons a l ih =>
   intro st es
   show (kJ g q.1.2 l _).2.map _ = _
   rw [ih]; simp
 have:=key (bC g q.1.2) (b_ g i).1 []
 rw [<- hE] at this
 simpa using this
theorem KG:∀ {es:List aO} {k:Nat} {e:aO},(es.map (·.sym)).Nodup->es[k]? = some e->(es.find? λx=>decide (x.sym = e.sym)) = some e
 | [],k,e,_,h=>by simp at h
 | x :: es,0,e,_,h=>by simp at h; subst h; simp
 | x :: es,k + 1,e,hn,h=>by
  rw [WV,W5] at hn
  have h:es[k]? = some e:=by simpa using h
  have hne:x.sym≠e.sym:=λe2=>hn.1 (by rw [e2]; exact Wu.2 ⟨e,V_ h,rfl⟩)
  rw [List.find?_cons,W2 hne]
  exact KG hn.2 h
theorem B9 (h:bm g ss) {i:Nat} {q:SQ} (hq:ss[i]? = some q):(q.2.2.map (·.sym)).Nodup:=by
 rw [B8 h hq,WY,W3]
 exact (vr g q.1.2).imp λh e=>by simp at e; omega
theorem ob (h:bm g ss) {i:Nat} {q:SQ} (hq:ss[i]? = some q) {k:Nat} {e:aO} (he:q.2.2[k]? = some e):eW ss i e.sym = some e.to:=by
 rw [n_ hq,KG (B9 h hq) he]; rfl
theorem py {i:Nat} {s:Int} {j:Int} (h:eW ss i s = some j):∃ (q:SQ) (k:Nat) (e:aO),ss[i]? = some q/\q.2.2[k]? = some e/\e.sym = s/\e.to = j:=by
 unfold eW at h
 cases hq:ss[i]? with
 | none=>rw [hq] at h; cases h
 | some q =>
  rw [hq] at h
  simp only [X0] at h
  obtain ⟨e,he,rfl⟩:=h
  obtain ⟨k,hk⟩:=WH (List.mem_of_find?_eq_some he)
  have:=List.find?_some he
  exact ⟨q,k,e,rfl,hk,V7 this,rfl⟩
end
end Go.V
namespace Go.Proofs.YtndaepmjkbmjmaaGreatDoor
open Go.V
def mR:bn:={ rngs:=[],loops:=[],joins:=[],blocks:=[] }
theorem dq {a:Yg} {b c:Nat} {w:World} {R:Value->WP} (h:uc a b c none (some (b:Int)) (some (b:Int)) 1 λ(o1:Yg) (k1 k2:Nat)=>R (vS o1 k1 k2) w):aA Tryz.prog 107 [(.slice a b c)] w R:=rv Tryz.func107 mR (by kernel_rfl) h
def gQ:bn:={ rngs:=[],loops:=[],joins:=[],blocks:=[] }
theorem gT {a:Yg} {b c:Nat} {w:World} {R:Value->WP} (h:uc a b c none (some (b:Int)) (some (b:Int)) 3 λ(o1:Yg) (k1 k2:Nat)=>R (vS o1 k1 k2) w):aA Tryz.prog 108 [(.slice a b c)] w R:=rv Tryz.func108 gQ (by kernel_rfl) h
abbrev lq:FuncId:=158
def yH:bn:={ rngs:=[],loops:=[(6,[(6,(.one .slice)),(23,(.one (.int .i64)))]),(12,[(9,(.one .slice)),(50,(.one (.int .i64)))])],joins:=[(11,[(9,(.one .slice))])],blocks:=[] }
theorem yI {a:Yg} {b c:Nat} {d:Yg} {e f:Nat} {g:Yg} {i j:Nat} {k:Int} {l:Yg} {m n:Nat} {w:World} {R:Value->WP} (h:new w (oC [vS a b c,vS d e f,vS g i j,iI k,vS l m n] 27) λk1 w1=>∃ o1 k2 k3 o2 k4 k5 o3 k6 k7 n1 o4 k8 k9,V.rowAt w1 (aM k1) 0 5 = some [vS o1 k2 k3,vS o2 k4 k5,vS o3 k6 k7,iI n1,vS o4 k8 k9]/\rE 200 [vA (Array.mk [vS o1 k2 k3,vS o2 k4 k5,vS o3 k6 k7,iI n1,vS o4 k8 k9])] w1 λv1 w2=>∃ o5 n2,v1 = vT (Array.mk [vP o5,iI n2])/\br (n2 != 0) (R (vT (Array.mk [vS none 0 0,iI n2])) w2) (rE 201 [vP o5] w2 λv2 w3=>∃ o6 k10 k11,v2 = vS o6 k10 k11/\∃ (x1:lP [(6,gD),(23,aD)]),∃ (x2:lN [(6,gD),(23,aD)]),x1 none 0 0 0 w3/\∀ (I1:Nat->Value) (o7:Yg) (k12 k13:Nat) (n3:Int) (w4:World),x1 o7 k12 k13 n3 w4->br (decide (n3 < (k10:Int))) (idx o6 k10 n3 2 λa1=>∃ n4 n5,V.rowAt w4 a1 0 2 = some [iI n4,iI n5]/\new w4 (oC [iI 0,iI 0] 184) λk14 w5=>fV w5 (aM k14) [iI n4,iI n5] λw6=>∃ (x3:lP [(9,gD)]),(∃ n6 n7,V.rowAt w6 (aM k14) 0 2 = some [iI n6,iI n7]/\∃ n8,World.cell? w6 (Addr.add (aM k1) 3) = some (iI n8)/\∃ v3,Sem.run Proofs.Tryz.prog (iu BinOp.eql 184 (Operand.tmp 27) (Operand.tmp 30) (vG [iI n6,iI n7]) (vG [iI 0,iI n8])) w6 = Result.ok v3 w6/\∃ b1,v3 = vB b1/\br b1 (new w6 (oC [iI 0] 3) λk15 w7=>rS (ir 24 (Array.mk [vS none 0 0,vS (some (aM k15)) 1 1])) w7 λv4 w8=>∃ o8 k16 k17,v4 = vS o8 k16 k17/\x3 o8 k16 k17 w8) (x3 none 0 0 w6))/\∀ (I2:Nat->Value) (o9:Yg) (k18 k19:Nat) (w9:World),x3 o9 k18 k19 w9->∀ w10,drawn w9 w10->∃ (I3:WP),I3 w10/\nn o5 λa2=>∃ o10 k20 k21,(∀ w11,I3 w11->World.cell? w11 (Addr.add a2 5) = some (vS o10 k20 k21))/\nn o5 λa3=>∃ o11,(∀ w12,I3 w12->World.cell? w12 (Addr.add a3 8) = some (Value.map o11))/\∃ n9 n10,(∀ w13,I3 w13->V.rowAt w13 (aM k14) 0 2 = some [iI n9,iI n10])/\aX Proofs.Tryz.prog (Instr.lookup 180 (Value.map o11) (vG [iI n9,iI n10]) false) w10 λv5 w14=>∃ n11,v5 = iI n11/\∃ (I4:WP),I4 w14/\(∀ w15,I4 w15->I3 w15)/\idx o10 k20 n11 2 λa4=>∃ o12 k22 k23,(∀ w16,I4 w16->World.cell? w16 (Addr.add a4 1) = some (vS o12 k22 k23))/\∃ (x4:lP [(9,gD),(50,aD)]),∃ (x5:lN [(9,gD),(50,aD)]),x4 o9 k18 k19 0 w14/\∀ (I5:Nat->Value) (o13:Yg) (k24 k25:Nat) (n12:Int) (w17:World),x4 o13 k24 k25 n12 w17->br (decide (n12 < (k22:Int))) (idx o12 k22 n12 2 λa5=>∃ n13 n14,V.rowAt w17 a5 0 2 = some [iI n13,iI n14]/\new w17 (oC [iI 0,iI 0] 56) λk26 w18=>fV w18 (aM k26) [iI n13,iI n14] λw19=>∃ n15,World.cell? w19 (aM k26) = some (iI n15)/\∃ o14 k27 k28,World.cell? w19 (aM k1) = some (vS o14 k27 k28)/\br (decide (n15 < (k27:Int))) (∃ n16,World.cell? w19 (aM k26) = some (iI n16)/\new w19 (oC [iI n16] 3) λk29 w20=>rS (ir 24 (Array.mk [vS o13 k24 k25,vS (some (aM k29)) 1 1])) w20 λv6 w21=>∃ o15 k30 k31,v6 = vS o15 k30 k31/\ax (n12 + 1)/\x4 o15 k30 k31 (n12 + 1) w21/\x5 o15 k30 k31 (n12 + 1) w21 < x5 o13 k24 k25 n12 w17) (ax (n12 + 1)/\x4 o13 k24 k25 (n12 + 1) w19/\x5 o13 k24 k25 (n12 + 1) w19 < x5 o13 k24 k25 n12 w17)) (rE 107 [vS o13 k24 k25] w17 λv7 w22=>∃ o16 k32 k33,v7 = vS o16 k32 k33/\new w22 (oC [vS o16 k32 k33] 24) λk34 w23=>rS (ir 71 (Array.mk [vS o7 k12 k13,vS (some (aM k34)) 1 1])) w23 λv8 w24=>∃ o17 k35 k36,v8 = vS o17 k35 k36/\ax (n3 + 1)/\x1 o17 k35 k36 (n3 + 1) w24/\x2 o17 k35 k36 (n3 + 1) w24 < x2 o7 k12 k13 n3 w4)) (rE 202 [vS o7 k12 k13] w4 λv9 w25=>∃ o18 k37 k38,v9 = vS o18 k37 k38/\R (vT (Array.mk [vS o18 k37 k38,iI 0])) w25))):aA Tryz.prog 158 [(.agg #[(.slice a b c),(.slice d e f),(.slice g i j),(.int .i64 k),(.slice l m n)])] w R:=rv Tryz.func158 yH (by kernel_rfl) h
abbrev Fl:FuncId:=163
def B_:bn:={ rngs:=[],loops:=[],joins:=[],blocks:=[] }
theorem Ca {a:Yg} {b c:Nat} {d:Yg} {e f:Nat} {g:Yg} {i j:Nat} {k:Int} {l:Yg} {m n:Nat} {w:World} {R:Value->WP} (h:new w (oC [vS a b c,vS d e f,vS g i j,iI k,vS l m n] 27) λk1 w1=>∃ o1 k2 k3 o2 k4 k5 o3 k6 k7 n1 o4 k8 k9,V.rowAt w1 (aM k1) 0 5 = some [vS o1 k2 k3,vS o2 k4 k5,vS o3 k6 k7,iI n1,vS o4 k8 k9]/\rE 200 [vA (Array.mk [vS o1 k2 k3,vS o2 k4 k5,vS o3 k6 k7,iI n1,vS o4 k8 k9])] w1 λv1 w2=>∃ o5 n2,v1 = vT (Array.mk [vP o5,iI n2])/\br (n2 != 0) (R (vT (Array.mk [vS none 0 0,iI n2])) w2) (rE 201 [vP o5] w2 λv2 w3=>∃ o6 k10 k11,v2 = vS o6 k10 k11/\R (vT (Array.mk [vS o6 k10 k11,iI 0])) w3)):aA Tryz.prog 163 [(.agg #[(.slice a b c),(.slice d e f),(.slice g i j),(.int .i64 k),(.slice l m n)])] w R:=rv Tryz.func163 B_ (by kernel_rfl) h
abbrev Jh:FuncId:=200
def Fm:bn:={ rngs:=[],loops:=[(6,[(27,(.one (.int .i64)))]),(9,[(35,(.one (.int .i64)))])],joins:=[],blocks:=[] }
theorem Fo {a:Yg} {b c:Nat} {d:Yg} {e f:Nat} {g:Yg} {i j:Nat} {k:Int} {l:Yg} {m n:Nat} {w:World} {R:Value->WP} (h:new w (oC [vS a b c,vS d e f,vS g i j,iI k,vS l m n] 27) λk1 w1=>∃ o1 k2 k3 o2 k4 k5 o3 k6 k7 n1 o4 k8 k9,V.rowAt w1 (aM k1) 0 5 = some [vS o1 k2 k3,vS o2 k4 k5,vS o3 k6 k7,iI n1,vS o4 k8 k9]/\rE 26 [vA (Array.mk [vS o1 k2 k3,vS o2 k4 k5,vS o3 k6 k7,iI n1,vS o4 k8 k9])] w1 λv1 w2=>∃ o5 k10 k11 n2 n3 n4,v1 = vT (Array.mk [vA (Array.mk [vS o5 k10 k11,iI n2,iI n3]),iI n4])/\new w2 (oC [vS none 0 0,iI 0,iI 0] 45) λk12 w3=>fV w3 (aM k12) [vS o5 k10 k11,iI n2,iI n3] λw4=>br (n4 != 0) (R (vT (Array.mk [vP none,iI n4])) w4) (∃ o6 k13 k14 o7 k15 k16 o8 k17 k18 n5 o9 k19 k20,V.rowAt w4 (aM k1) 0 5 = some [vS o6 k13 k14,vS o7 k15 k16,vS o8 k17 k18,iI n5,vS o9 k19 k20]/\∃ o10 k21 k22 n6 n7,V.rowAt w4 (aM k12) 0 3 = some [vS o10 k21 k22,iI n6,iI n7]/\new w4 (Obj.map (Array.mk []) 0) λk23 w5=>new w5 (oC [vS o6 k13 k14,vS o7 k15 k16,vS o8 k17 k18,iI n5,vS o9 k19 k20,vS o10 k21 k22,iI n6,iI n7,Value.map (some k23)] 279) λk24 w6=>∃ o11 k25 k26,World.cell? w6 (aM k12) = some (vS o11 k25 k26)/\∃ (x1:lP [(27,aD)]),∃ (x2:lN [(27,aD)]),x1 0 w6/\∀ (I1:Nat->Value) (n8:Int) (w7:World),x1 n8 w7->br (decide (n8 < (k25:Int))) (idx o11 k25 n8 2 λa1=>∃ o12 k27 k28 o13 k29 k30,V.rowAt w7 a1 0 2 = some [vS o12 k27 k28,vS o13 k29 k30]/\new w7 (oC [vS none 0 0,vS none 0 0] 54) λk31 w8=>fV w8 (aM k31) [vS o12 k27 k28,vS o13 k29 k30] λw9=>∃ o14 k32 k33,World.cell? w9 (Addr.add (aM k31) 1) = some (vS o14 k32 k33)/\∃ (x3:lP [(35,aD)]),∃ (x4:lN [(35,aD)]),x3 0 w9/\∀ (I2:Nat->Value) (n9:Int) (w10:World),x3 n9 w10->br (decide (n9 < (k32:Int))) (idx o14 k32 n9 2 λa2=>∃ n10 n11,V.rowAt w10 a2 0 2 = some [iI n10,iI n11]/\new w10 (oC [iI 0,iI 0] 56) λk34 w11=>fV w11 (aM k34) [iI n10,iI n11] λw12=>∀ w13,drawn w12 w13->∃ (I3:WP),I3 w13/\∃ o15,(∀ w14,I3 w14->World.cell? w14 (Addr.add (aM k24) 8) = some (Value.map o15))/\∃ n12,(∀ w15,I3 w15->World.cell? w15 (aM k34) = some (iI n12))/\∃ n13,(∀ w16,I3 w16->World.cell? w16 (Addr.add (aM k34) 1) = some (iI n13))/\aX Proofs.Tryz.prog (Instr.mapUpdate 180 (Value.map o15) (vG [iI n8,iI n12]) (iI n13)) w13 λ(x5:Unit) (w17:World)=>ax (n9 + 1)/\x3 (n9 + 1) w17/\x4 (n9 + 1) w17 < x4 n9 w10) (ax (n8 + 1)/\x1 (n8 + 1) w10/\x2 (n8 + 1) w10 < x2 n8 w7)) (R (vT (Array.mk [vP (some (aM k24)),iI 0])) w7))):aA Tryz.prog 200 [(.agg #[(.slice a b c),(.slice d e f),(.slice g i j),(.int .i64 k),(.slice l m n)])] w R:=rv Tryz.func200 Fm (by kernel_rfl) h
abbrev xn:FuncId:=201
def uw:bn:={ rngs:=[],loops:=[(3,[(3,(.one .slice)),(14,(.one (.int .i64)))]),(6,[(3,(.one .slice)),(22,(.one (.int .i64)))])],joins:=[],blocks:=[] }
theorem ux {a:Yg} {w:World} {R:Value->WP} (h:nn a λa1=>∃ o1 k1 k2,World.cell? w (Addr.add a1 5) = some (vS o1 k1 k2)/\∃ (x1:lP [(3,gD),(14,aD)]),∃ (x2:lN [(3,gD),(14,aD)]),x1 none 0 0 0 w/\∀ (I1:Nat->Value) (o2:Yg) (k3 k4:Nat) (n1:Int) (w1:World),x1 o2 k3 k4 n1 w1->br (decide (n1 < (k1:Int))) (idx o1 k1 n1 2 λa2=>∃ o3 k5 k6 o4 k7 k8,V.rowAt w1 a2 0 2 = some [vS o3 k5 k6,vS o4 k7 k8]/\new w1 (oC [vS none 0 0,vS none 0 0] 54) λk9 w2=>fV w2 (aM k9) [vS o3 k5 k6,vS o4 k7 k8] λw3=>∃ o5 k10 k11,World.cell? w3 (Addr.add (aM k9) 1) = some (vS o5 k10 k11)/\∃ (x3:lP [(3,gD),(22,aD)]),∃ (x4:lN [(3,gD),(22,aD)]),x3 o2 k3 k4 0 w3/\∀ (I2:Nat->Value) (o6:Yg) (k12 k13:Nat) (n2:Int) (w4:World),x3 o6 k12 k13 n2 w4->br (decide (n2 < (k10:Int))) (idx o5 k10 n2 2 λa3=>∃ n3 n4,V.rowAt w4 a3 0 2 = some [iI n3,iI n4]/\new w4 (oC [iI 0,iI 0] 56) λk14 w5=>fV w5 (aM k14) [iI n3,iI n4] λw6=>∀ w7,drawn w6 w7->∃ (I3:WP),I3 w7/\∃ n5,(∀ w8,I3 w8->World.cell? w8 (aM k14) = some (iI n5))/\nn a λa4=>∃ o7 k15 k16,(∀ w9,I3 w9->World.cell? w9 a4 = some (vS o7 k15 k16))/\br (decide ((k15:Int)<=n5)) (∃ n6,World.cell? w7 (aM k14) = some (iI n6)/\new w7 (oC [iI n1,iI n6] 184) λk17 w10=>rS (ir 179 (Array.mk [vS o6 k12 k13,vS (some (aM k17)) 1 1])) w10 λv1 w11=>∃ o8 k18 k19,v1 = vS o8 k18 k19/\ax (n2 + 1)/\x3 o8 k18 k19 (n2 + 1) w11/\x4 o8 k18 k19 (n2 + 1) w11 < x4 o6 k12 k13 n2 w4) (ax (n2 + 1)/\x3 o6 k12 k13 (n2 + 1) w7/\x4 o6 k12 k13 (n2 + 1) w7 < x4 o6 k12 k13 n2 w4)) (ax (n1 + 1)/\x1 o6 k12 k13 (n1 + 1) w4/\x2 o6 k12 k13 (n1 + 1) w4 < x2 o2 k3 k4 n1 w1)) (rE 238 [vS o2 k3 k4] w1 λv2 w12=>∃ o9 k20 k21,v2 = vS o9 k20 k21/\R (vS o9 k20 k21) w12)):aA Tryz.prog 201 [(.pointer a)] w R:=rv Tryz.func201 uw (by kernel_rfl) h
def lr:bn:={ rngs:=[],loops:=[],joins:=[],blocks:=[] }
theorem lu {a:Yg} {b c:Nat} {w:World} {R:Value->WP} (h:uc a b c none (some (b:Int)) (some (b:Int)) 1 λ(o1:Yg) (k1 k2:Nat)=>R (vS o1 k1 k2) w):aA Tryz.prog 202 [(.slice a b c)] w R:=rv Tryz.func202 lr (by kernel_rfl) h
def fQ:bn:={ rngs:=[],loops:=[],joins:=[],blocks:=[] }
theorem fR {a:Yg} {b c:Nat} {w:World} {R:Value->WP} (h:uc a b c none (some (b:Int)) (some (b:Int)) 2 λ(o1:Yg) (k1 k2:Nat)=>R (vS o1 k1 k2) w):aA Tryz.prog 238 [(.slice a b c)] w R:=rv Tryz.func238 fQ (by kernel_rfl) h
abbrev l5:FuncId:=240
def kB:bn:={ rngs:=[],loops:=[(4,[(3,(.one (.int .i64)))]),(9,[(3,(.one (.int .i64))),(5,(.one (.int .i64)))])],joins:=[],blocks:=[] }
theorem kC {a:Yg} {b c:Nat} {w:World} {R:Value->WP} (h:br (decide ((b:Int) < 2)) (R (vS a b c) w) (∃ (x1:lP [(3,aD)]),∃ (x2:lN [(3,aD)]),x1 1 w/\∀ (I1:Nat->Value) (n1:Int) (w1:World),x1 n1 w1->br (decide (n1 < (b:Int))) (∀ w2,drawn w1 w2->∃ (I2:WP),I2 w2/\idx a b n1 1 λa1=>∃ n2,(∀ w3,I2 w3->World.cell? w3 a1 = some (iI n2))/\ax (n1 - 1)/\idx a b (n1 - 1) 1 λa2=>∃ n3,(∀ w4,I2 w4->World.cell? w4 a2 = some (iI n3))/\br (n2 == n3) (uc a b c (some n1) none none 1 λ(o1:Yg) (k1 k2:Nat)=>∃ (x3:lP [(3,aD),(5,aD)]),∃ (x4:lN [(3,aD),(5,aD)]),x3 n1 1 w2/\∀ (I3:Nat->Value) (n4 n5:Int) (w5:World),x3 n4 n5 w5->br (decide (n5 < (k1:Int))) (∀ w6,drawn w5 w6->∃ (I4:WP),I4 w6/\idx o1 k1 n5 1 λa3=>∃ n6,(∀ w7,I4 w7->World.cell? w7 a3 = some (iI n6))/\ax (n5 - 1)/\idx o1 k1 (n5 - 1) 1 λa4=>∃ n7,(∀ w8,I4 w8->World.cell? w8 a4 = some (iI n7))/\br (n6 != n7) (idx o1 k1 n5 1 λa5=>∃ n8,World.cell? w6 a5 = some (iI n8)/\idx a b n4 1 λa6=>st1 w6 a6 (iI n8) λw9=>ax (n4 + 1)/\ax (n5 + 1)/\x3 (n4 + 1) (n5 + 1) w9/\x4 (n4 + 1) (n5 + 1) w9 < x4 n4 n5 w5) (ax (n5 + 1)/\x3 n4 (n5 + 1) w6/\x4 n4 (n5 + 1) w6 < x4 n4 n5 w5)) (uc a b c (some n4) none none 1 λ(o2:Yg) (k3 k4:Nat)=>rS (Builtin.clear_ (Array.mk [24]) 0 (Array.mk [vS o2 k3 k4])) w5 λv1 w10=>uc a b c none (some n4) none 1 λ(o3:Yg) (k5 k6:Nat)=>R (vS o3 k5 k6) w10)) (ax (n1 + 1)/\x1 (n1 + 1) w2/\x2 (n1 + 1) w2 < x2 n1 w1)) (R (vS a b c) w1))):aA Tryz.prog 240 [(.slice a b c)] w R:=rv Tryz.func240 kB (by kernel_rfl) h
end Go.Proofs.YtndaepmjkbmjmaaGreatDoor
namespace Go.V
def yJ (ss:List SQ) (m:List (aq × Value)) (i:Nat) (es:List aO):Prop:=∀ k:aq,assoc k m =
 if k.st < 0 then none else if k.st.toNat < i then (eW ss k.st.toNat k.sym).map (Value.int .i64) else if k.st.toNat = i then (es.find? λe=>decide (e.sym = k.sym)).map (λe=>Value.int .i64 e.to) else none
section
variable {ss:List SQ} {m:List (aq × Value)} {i:Nat}
theorem yJ.start:yJ ss [] 0 []:=λk=>by simp [assoc]
theorem D5 {es:List aO} {e:aO} (hn:e.sym∉es.map (·.sym)) (s:Int):((es ++ [e]).find? λx=>decide (x.sym = s)) = if s = e.sym then some e else es.find? λx=>decide (x.sym = s):=by
 rw [List.find?_append]
 by_cases h:s = e.sym
 ·subst h
  have:(es.find? λx=>decide (x.sym = e.sym)) = none:=List.find?_eq_none.2 λx hx h2=>hn (Wu.2 ⟨x,hx,by simpa using h2⟩)
  rw [this]; simp
 ·rw [Wg h]
  have:([e].find? λx=>decide (x.sym = s)) = none:=by simp [XG h]
  rw [this]; simp
theorem yJ.step {es:List aO} (h:yJ ss m i es) {e:aO} (hn:e.sym∉es.map (·.sym)):yJ ss (bK ⟨(i:Int),e.sym⟩ (.int .i64 e.to) m) i (es ++ [e]):=λk=>by
 rw [dB,h k,D5 hn]
 by_cases hk:k = ⟨(i:Int),e.sym⟩
 ·subst hk
  simp
 ·rw [Wg hk]
  split
  ·rfl
  ·split
   ·rfl
   ·split
    ·have:k.sym≠e.sym:=λh=>hk (by cases k; simp at *; omega)
     rw [Wg this]
    ·rfl
theorem yJ.next {q:SQ} (hq:ss[i]? = some q) (h:yJ ss m i q.2.2):yJ ss m (i + 1) []:=λk=>by
 rw [h k]
 split
 ·rfl
 ·by_cases h1:k.st.toNat < i
  ·rw [Wn h1,Wn (by omega)]
  ·rw [Wg h1]
   by_cases h2:k.st.toNat = i
   ·rw [Wn h2,Wn (by omega),h2,n_ hq,Option.map_map]; rfl
   ·rw [Wg h2,Wg (by omega)]; simp
theorem yJ.all (h:yJ ss m ss.length []) {k:aq} (hk:0<=k.st):assoc k m = (eW ss k.st.toNat k.sym).map (Value.int .i64):=by
 rw [h k,Wg (by omega)]
 split
 ·rfl
 ·have:eW ss k.st.toNat k.sym = none:=by unfold eW; rw [Wt (by omega)]
  rw [this]; simp
end
abbrev Uy (x:GA) (o:Yg) (n c:Nat) (a int:Int) (kb:Nat):List Value:=x.cells ++ [.slice o n c,.int .i64 a,.int .i64 int,.map (some kb)]
structure Uz (h:Hp) (g:af) (ss:List SQ) (k:Nat):Prop where
 ex:∃ (x:GA) (o:Yg) (c kb:Nat) (a int:Int) (m:List (aq × Value)),av h (aM k) (Uy x o ss.length c a int kb)/\gR h g x/\xl h ss o/\mapA kb m h/\yJ ss m ss.length []
theorem Uz.mono {h h' : Hp} {g:af} {ss:List SQ} {k:Nat} (s:sub h h') (r:Uz h g ss k):Uz h' g ss k:=by
 obtain ⟨x,o,c,kb,a,int,m,h1,h2,h3,h4,h5⟩:=r.ex
 exact ⟨x,o,c,kb,a,int,m,h1.mono s,h2.mono s,h3.mono s,dH s h4,h5⟩
end Go.V
namespace Go.Proofs.YtndaepmjkbmjmaaGreatDoor
open Go.V
variable {w:World} {L:List ay} {g:af} {x:GA}
theorem D6 : T7 Tryz.prog kA cX { name := "State", type := cX, offset := 0, embedded := false, tag := "", pkgPath := "", byteOffset := 0 } { name := "Sym", type := cX, offset := 1, embedded := false, tag := "", pkgPath := "", byteOffset := 8 } where
 ht:=by kernel_rfl
 hf:=by kernel_rfl
 hi:=bB
 ht0:=rfl
 ht1:=rfl
 n0:=by decide
 n1:=by decide
 o0:=rfl
 o1:=rfl
 sih:=Da
theorem ew:rZ Tryz.prog kA aq:=rZ.two D6
theorem Oa (hg:gR (hp w) g x) (hb:iE g):aA Tryz.prog Jh [.agg ⟨x.cells⟩] w λv w'=>∃ (ss:List SQ) (ask int f:Int) (p:Yg),v = .tuple #[.pointer p,.int .i64 f]/\tT g ss ask int f/\Gr w w'/\(f = 0->∃ k,p = some (aM k)/\Uz (hp w') g ss k)/\(f≠0->p = none):=by
 refine Fo (cW hg λk1 w1 gw hg B=>?_)
 refine ⟨_,_,_,_,_,_,_,_,_,_,_,_,_,B.row (sub.refl _),(B5 hg hb).mono ?_⟩
 rintro _ w2 ⟨o,c,ss,ask,int,f,rfl,hR,h⟩
 have g12:Gr w1 w2:=aU 3 h.l
 have hg:=hg.mono g12
 have hs:=tS h.l
 refine ⟨_,_,_,_,_,_,rfl,ah (St.all w2) λk12 w3 h=>bx h rfl (by simp [aV]) λw4 h=>ae (λh1=>?_) λh1=>?_⟩
 ·have h1:f≠0:=by simpa using h1
  exact ⟨ss,ask,int,f,none,rfl,hR,gw.trans (g12.trans h.aZ),λh=>absurd h h1,λ_=>rfl⟩
 have h1:f = 0:=by simpa using h1
 subst h1
 obtain ⟨hc,hA⟩ : ak g/\bm g ss:=by
  rcases hR with ⟨_,_,_,_,e⟩ | ⟨_,_,_,_,_,e⟩ | ⟨hc,hA,_⟩
  ·omega
  ·omega
  ·exact ⟨hc,hA⟩
 have hkl:=hA.yG hc
 have h256:=hA.dn.2.1
 have g24:Gr w2 w4:=h.aZ
 have hg:=hg.mono g24
 have hs:=hs.mono g24
 have r12:av (hp w4) (aM k12) [.slice o ss.length c,.int .i64 ask,.int .i64 int]:=ai 0 h.l
 clear h
 refine ⟨_,_,_,_,_,_,_,_,_,_,_,_,_,B.row (g12.trans g24),_,_,_,_,_,r12.at (sub.refl _) rfl,mh (St.all w4) λkb w5 h=>?_⟩
 have h:=dC (κ:=aq) h
 refine ah (vs:=Uy x o ss.length c ask int kb) h λkm w6 h=>?_
 refine ⟨_,_,_,r12.cell0 (aU 2 h.l),λz w'=>∃ (i:Nat) (m:List (aq × Value)),z = i/\i<=ss.length/\yJ ss m i []/\St w' (aK km (Uy x o ss.length c ask int kb) :: mapA kb m :: all w4),λz _=>ss.length - z.toNat,
  ⟨0,[],rfl,Wi _,.start,h⟩,?_⟩
 clear h
 rintro _ _ w7 ⟨i,m,rfl,hi,hW,h⟩
 have s7:sub (hp w4) (hp w7):=aU 2 h.l
 refine ae (λh1=>?_) λh1=>?_
 rotate_left
 ·have h1:i = ss.length:=by have:=V8 h1; omega
  subst h1
  obtain ⟨hm,sm,hA2⟩:=PQ 1 h.l
  exact ⟨ss,ask,int,0,some (aM km),rfl,hR,gw.trans (g12.trans (g24.trans s7)),λ_=>⟨km,rfl,x,o,c,kb,ask,int,m,ai 0 h.l,hg.mono s7,hs.mono s7,dH sm hA2,hW⟩,λh=>absurd rfl h⟩
 have h1:i < ss.length:=by have:=V7 h1; omega
 obtain ⟨q,hq⟩ : ∃ q,ss[i]? = some q:=⟨_,Wa h1⟩
 obtain ⟨ad,rfl,rs,_,re⟩:=hs i q hq
 have hql:=(hkl q (V_ hq)).2
 have hnd:=B9 hA hq
 refine au rfl h1 ⟨_,_,_,_,_,_,rs.at s7 rfl,ah h λk31 w8 h=>bx h rfl (by simp [aV]) λw9 h=>?_⟩
 have r31:av (hp w9) (aM k31) (PR q):=ai 0 h.l
 refine ⟨_,_,_,r31.cell (sub.refl _) (j:=1) rfl,λz w'=>∃ (k:Nat) (m:List (aq × Value)),z = k/\k<=q.2.2.length/\yJ ss m i (q.2.2.take k)/\St w' (aK km (Uy x (some ad) ss.length c ask int kb) :: mapA kb m :: all w4),λz _=>q.2.2.length - z.toNat,
  ⟨0,m,rfl,Wi _,hW,h.pick 3 [1,2]⟩,?_⟩
 clear h hW
 rintro _ _ w10 ⟨k,m,rfl,hk,hW,h⟩
 have s10:sub (hp w4) (hp w10):=aU 2 h.l
 refine ae (λh2=>?_) λh2=>?_
 rotate_left
 ·have h2:k = q.2.2.length:=by have:=V8 h2; omega
  subst h2
  rw [Ww] at hW
  exact ⟨⟨by omega,by omega⟩,⟨i + 1,m,by simp,h1,hW.next hq,h⟩,bw h1⟩
 have h2:k < q.2.2.length:=by have:=V7 h2; omega
 obtain ⟨e,ead,he,hea,red⟩:=lj re h2
 refine au hea h2 ⟨_,_,red.at s10 rfl,ah h λk34 w11 h=>bx h rfl (by simp [aV]) λw12 h=>?_⟩
 intro w13 hd
 have h:=h.eq (aB hd)
 have r34:av (hp w13) (aM k34) [.int .i64 e.sym,.int .i64 e.to]:=ai 0 h.l
 have rm:av (hp w13) (aM km) (Uy x (some ad) ss.length c ask int kb):=ai 1 h.l
 refine ⟨λu=>Gr w13 u,Gr.refl _,_,λu s=>rm.cell s (j:=8) rfl,_,λu s=>r34.cell0 s,_,λu s=>r34.cell s (j:=1) rfl,(mj (κ:=aq) aQ (rfl:aj Ty _ = .map _ _) ew (h.pick 3 [2,0,1]) ⟨(i:Int),e.sym⟩ _).mono ?_⟩
 rintro _ w17 h
 have ht:q.2.2.take (k + 1) = q.2.2.take k ++ [e]:=by rw [Wf,he]; rfl
 have hn:e.sym∉(q.2.2.take k).map (·.sym):=λhm=>by
  have e1:q.2.2.map (·.sym) = (q.2.2.take k).map (·.sym) ++ e.sym :: (q.2.2.drop (k + 1)).map (·.sym):=by
   rw [<- WV,<- WB]
   congr 1
   have:=Wz (k + 1) q.2.2
   rw [ht] at this
   simpa using this.symm
  rw [e1,WR] at hnd
  exact hnd.2.2 _ hm _ (by simp) rfl
 have hW:=hW.step hn
 rw [<- ht] at hW
 exact ⟨⟨by omega,by omega⟩,⟨k + 1,_,by simp,h2,hW,h.pick 3 [2,0]⟩,bw h2⟩
end Go.Proofs.YtndaepmjkbmjmaaGreatDoor
namespace Go.V
section
variable {g:af} {ss:List SQ}
theorem Hn (g:af) (i:Nat) (es:List aO):(fo g i es).length<=es.length:=by
 unfold fo; rw [Wh]; exact WM _ _
theorem xp (hk:∀ q∈ss,q.2.2.length<=130):∀ i,(tU g ss i).length<=i * 130
 | 0=>by simp [tU]
 | i + 1=>by
  have:=xp hk i
  cases hq:ss[i]? with
  | none=>simp [tU,hq]; omega
  | some q =>
   rw [nZ hq,We]
   have h1:=Hn g i q.2.2
   have h2:=hk q (V_ hq)
   omega
theorem tT.L4 {a i f:Int} (h:tT g ss a i f) (hf:f = 0):ak g/\bm g ss:=by
 subst hf
 rcases h with ⟨_,_,_,_,e⟩ | ⟨_,_,_,_,_,e⟩ | ⟨hc,hA,_⟩
 ·omega
 ·omega
 ·exact ⟨hc,hA⟩
def sO (ss:List SQ) (i:Nat) (s:Int):Int:=(eW ss i s).getD (-1)
end
end Go.V
namespace Go.Proofs.YtndaepmjkbmjmaaGreatDoor
open Go.V
variable {w:World} {L:List ay} {g:af} {x:GA} {ss:List SQ}
theorem Ho {k:Nat} (hw:Uz (hp w) g ss k) (hn:ss.length<=256) (hk:∀ q∈ss,q.2.2.length<=130):aA Tryz.prog xn [.pointer (some (aM k))] w λv w'=>∃ (o:Yg) (c:Nat),v = .slice o (bj g ss).length c/\St w' (own 2 o (bj g ss).length c (D3 (bj g ss)) :: all w):=by
 obtain ⟨x,oa,ca,kb,a,int,m,rk,hg,hs,hm,hW⟩:=hw.ex
 have hTl:g.T = x.tl:=hg.t.1
 refine ux ⟨_,_,_,rk.cell (sub.refl _) (j:=5) rfl,λo n c z w'=>∃ i:Nat,z = i/\i<=ss.length/\n = (tU g ss i).length/\St w' (own 2 o n c (D3 (tU g ss i)) :: all w),λ_ _ _ z _=>ss.length - z.toNat,
  ⟨0,rfl,Wi _,rfl,az 2 (St.all w)⟩,?_⟩
 rintro _ o2 _ c2 _ w1 ⟨i,rfl,hi,rfl,h⟩
 have s1:sub (hp w) (hp w1):=aU 1 h.l
 refine ae (λh1=>?_) λh1=>?_
 rotate_left
 ·have h1:i = ss.length:=by have:=V8 h1; omega
  subst h1
  refine fR (gm (fa h) ⟨_,_,_,rfl,_,_,rfl,gl h⟩)
 have h1:i < ss.length:=by have:=V7 h1; omega
 obtain ⟨q,hq⟩ : ∃ q,ss[i]? = some q:=⟨_,Wa h1⟩
 obtain ⟨ad,rfl,rs,_,re⟩:=hs i q hq
 have hql:=hk q (V_ hq)
 have hNl:=xp (g:=g) hk i
 refine au rfl h1 ⟨_,_,_,_,_,_,rs.at s1 rfl,ah h λk9 w2 h=>bx h rfl (by simp [aV]) λw3 h=>?_⟩
 have r9:av (hp w3) (aM k9) (PR q):=ai 0 h.l
 refine ⟨_,_,_,r9.cell (sub.refl _) (j:=1) rfl,λo n c z w'=>∃ (j:Nat),z = j/\j<=q.2.2.length/\n = (tU g ss i ++ fo g i (q.2.2.take j)).length/\St w' (own 2 o n c (D3 (tU g ss i ++ fo g i (q.2.2.take j))) :: all w),λ_ _ _ z _=>q.2.2.length - z.toNat,
  ⟨0,rfl,Wi _,by simp [fo],by simpa [fo] using (show St w3 (own 2 o2 (tU g ss i).length c2 (D3 (tU g ss i)) :: all w) from h.pick 2 [1])⟩,?_⟩
 clear h
 rintro _ o6 _ c6 _ w4 ⟨j,rfl,hj,rfl,h⟩
 have s4:sub (hp w) (hp w4):=aU 1 h.l
 have hTA:=Hn g i (q.2.2.take j)
 rw [Wx] at hTA
 refine ae (λh2=>?_) λh2=>?_
 rotate_left
 ·have h2:j = q.2.2.length:=by have:=V8 h2; omega
  subst h2
  rw [Ww] at h ⊢
  exact ⟨⟨by omega,by omega⟩,⟨i + 1,by simp,h1,by rw [nZ hq],by rw [nZ hq]; exact h⟩,bw h1⟩
 have h2:j < q.2.2.length:=by have:=V7 h2; omega
 obtain ⟨e,ead,he,hea,red⟩:=lj re h2
 have ht:q.2.2.take (j + 1) = q.2.2.take j ++ [e]:=by rw [Wf,he]; rfl
 refine au hea h2 ⟨_,_,red.at s4 rfl,ah h λk14 w5 h=>bx h rfl (by simp [aV]) λw6 h=>?_⟩
 intro w7 hd
 have h:=h.eq (aB hd)
 have r14:av (hp w7) (aM k14) [.int .i64 e.sym,.int .i64 e.to]:=ai 0 h.l
 have s7:sub (hp w) (hp w7):=aU 2 h.l
 refine ⟨λu=>Gr w7 u,Gr.refl _,_,λu s=>r14.cell0 s,_,_,_,λu s=>rk.cell0 (sub.trans s7 s),ae (λh3=>?_) λh3=>?_⟩
 ·have h3:(g.T:Int)<=e.sym:=by rw [hTl]; exact V7 h3
  have z1:((tU g ss i ++ fo g i (q.2.2.take j)).length + 1) * 16<=140737488355328/\(tU g ss i ++ fo g i (q.2.2.take j)).length < 9223372036854775807:=by rw [We]; omega
  refine ⟨_,r14.cell0 (sub.refl _),ah h λk17 w10 h=>?_⟩
  refine (aP (us:=D3 (tU g ss i ++ fo g i (q.2.2.take j))) aQ (rfl:aj Ty _ = .slice _) (rfl:aj Ty _ = .slice _) rfl rfl rfl (h.pick 3 [0,2]) rfl (by simp [aV]) z1.1 z1.2).mono ?_
  rintro _ w11 ⟨o8,c8,rfl,h⟩
  have e2:fo g i (q.2.2.take (j + 1)) = fo g i (q.2.2.take j) ++ [⟨(i:Int),e.sym⟩]:=by rw [ht,D4,Wn h3]
  have e3:D3 (tU g ss i ++ fo g i (q.2.2.take (j + 1))) = D3 (tU g ss i ++ fo g i (q.2.2.take j)) ++ [.int .i64 (i:Int),.int .i64 e.sym]:=by rw [e2,<- Wj,QZ]; rfl
  refine ⟨_,_,_,rfl,⟨by omega,by omega⟩,⟨j + 1,by simp,h2,by rw [e2]; simp; omega,?_⟩,bw h2⟩
  rw [e3]; exact h.pick 2 [0]
 ·have h3:¬(g.T:Int)<=e.sym:=by rw [hTl]; exact V8 h3
  have e2:fo g i (q.2.2.take (j + 1)) = fo g i (q.2.2.take j):=by rw [ht,D4,Wg h3]
  exact ⟨⟨by omega,by omega⟩,⟨j + 1,by simp,h2,by rw [e2],by rw [e2]; exact h.pick 2 [1]⟩,bw h2⟩
theorem Ob (hg:gR (hp w) g x) (hb:iE g):aA Tryz.prog Fl [.agg ⟨x.cells⟩] w λv w'=>∃ (ss:List SQ) (ask int f:Int) (o:Yg) (c:Nat),v = .tuple #[.slice o (bj g ss).length c,.int .i64 f]/\tT g ss ask int f/\St w' (own 2 o (bj g ss).length c (D3 (bj g ss)) :: all w):=by
 refine Ca (cW hg λk1 w1 gw hg B=>?_)
 refine ⟨_,_,_,_,_,_,_,_,_,_,_,_,_,B.row (sub.refl _),(Oa hg hb).mono ?_⟩
 rintro _ w2 ⟨ss,ask,int,f,p,rfl,hR,g2,h0,hn⟩
 refine ⟨_,_,rfl,ae (λh1=>?_) λh1=>?_⟩
 ·have h1:f≠0:=by simpa using h1
  have hz:ss = []:=by rcases hR with ⟨_,e,_⟩ | ⟨_,_,e,_⟩ | ⟨_,_,_,_,e⟩ <;> first | exact e | exact absurd e h1
  subst hz
  exact ⟨[],ask,int,f,none,0,rfl,hR,az 2 (St.here (gw.trans g2))⟩
 have h1:f = 0:=by simpa using h1
 obtain ⟨k,rfl,hw⟩:=h0 h1
 obtain ⟨hc,hA⟩:=hR.L4 h1
 have hkl:=hA.yG hc
 refine (Ho hw hA.dn.2.1 λq hq=>(hkl q hq).2).mono ?_
 rintro _ w3 ⟨o,c,rfl,h⟩
 subst h1
 exact ⟨_,_,_,rfl,ss,ask,int,0,o,c,rfl,hR,St.qV h (bD (gw.trans g2))⟩
theorem Oc {o:Yg} {c:Nat} {ask int s:Int} {i:Nat} (hA:bm g ss) (hs:xl (hp w) ss o) (hi:i < ss.length) (hk:∀ q∈ss,q.2.2.length<=130) (hn:ss.length<=256):aA Tryz.prog uo [.agg #[.slice o ss.length c,.int .i64 ask,.int .i64 int],.int .i64 (i:Int),.int .i64 s] w λv w'=>v = .int .i64 (sO ss i s)/\Gr w w':=by
 obtain ⟨q,hq⟩ : ∃ q,ss[i]? = some q:=⟨_,Wa hi⟩
 have hql:=hk q (V_ hq)
 refine qC (ah (St.all w) λk1 w1 h=>?_)
 have g1:Gr w w1:=h.aZ
 obtain ⟨ad,rfl,rs,_,re⟩:=(hs.mono g1) i q hq
 refine ⟨_,_,_,(ai 0 h.l).cell0 (sub.refl _),au rfl hi ⟨_,_,_,rs.cell (sub.refl _) (j:=1) rfl,λz w'=>∃ j:Nat,z = j/\j<=q.2.2.length/\(∀ e∈q.2.2.take j,e.sym≠s)/\w' = w1,λz _=>q.2.2.length - z.toNat,
  ⟨0,rfl,Wi _,by simp,rfl⟩,?_⟩⟩
 rintro _ _ w2 ⟨j,rfl,hj,hno,rfl⟩
 refine ae (λh2=>?_) λh2=>?_
 rotate_left
 ·have h2:j = q.2.2.length:=by have:=V8 h2; omega
  subst h2
  rw [Ww] at hno
  refine ⟨?_,g1⟩
  have:(q.2.2.find? λe=>decide (e.sym = s)) = none:=List.find?_eq_none.2 λe he h=>hno e he (by simpa using h)
  unfold sO
  rw [n_ hq,this]; rfl
 have h2:j < q.2.2.length:=by have:=V7 h2; omega
 obtain ⟨e,ead,he,hea,red⟩:=lj re h2
 have ht:q.2.2.take (j + 1) = q.2.2.take j ++ [e]:=by rw [Wf,he]; rfl
 refine au hea h2 ⟨_,red.cell0 (sub.refl _),ae (λh3=>?_) λh3=>?_⟩
 ·have h3:e.sym = s:=by simpa using h3
  subst h3
  refine au hea h2 ⟨_,red.cell (sub.refl _) (j:=1) rfl,?_,g1⟩
  unfold sO
  rw [ob hA hq he]; rfl
 ·have h3:e.sym≠s:=by simpa using h3
  refine ⟨⟨by omega,by omega⟩,⟨j + 1,by simp,h2,λy hy=>?_,rfl⟩,bw h2⟩
  rw [ht,Wd,Wy] at hy
  rcases hy with hy | rfl
  ·exact hno y hy
  ·exact h3
end Go.Proofs.YtndaepmjkbmjmaaGreatDoor
namespace Go.V
theorem iL {g:af} {ss:List SQ} (hc:ak g) (hA:bm g ss) {i:Nat} {s j:Int} (h:eW ss i s = some j):0<=j/\j < ss.length:=by
 obtain ⟨q,k,e,hq,he,rfl,rfl⟩:=py h
 obtain ⟨_,_,n,r,hn,h1,hr,_⟩:=fm hc hA hq he
 have:=(V9.1 hr).1
 omega
end Go.V
namespace Go.V
section
variable {g:af} {ss:List SQ}
def Ae (g:af) (es:List aO):List Int:=(es.filter λe=>decide (e.sym < (g.T:Int))).map (·.sym)
theorem Hq {es:List aO} {e:aO}:Ae g (es ++ [e]) = if e.sym < (g.T:Int) then Ae g es ++ [e.sym] else Ae g es:=by
 unfold Ae
 rw [WK,WB]
 by_cases h:e.sym < (g.T:Int) <;> simp [h]
theorem Q0 (g:af) (es:List aO):(Ae g es).length<=es.length:=by
 unfold Ae; rw [Wh]; exact WM _ _
def kD (g:af) (t:aq):List Int:=if t = ⟨0,g.start⟩ then [0] else []
theorem Od (g:af) (t:aq):(kD g t).length<=1:=by unfold kD; split <;> simp
theorem iM {t:aq}:∀ {n:Nat},t∈tU g ss n->∃ (i:Nat) (q:SQ) (k:Nat) (e:aO),i < n/\ss[i]? = some q/\q.2.2[k]? = some e/\(g.T:Int)<=e.sym/\t = ⟨(i:Int),e.sym⟩
 | 0,h=>by simp [tU] at h
 | n + 1,h=>by
  cases hq:ss[n]? with
  | none =>
   simp [tU,hq] at h
   obtain ⟨i,q,k,e,h1,h2⟩:=iM h
   exact ⟨i,q,k,e,by omega,h2⟩
  | some q =>
   rw [nZ hq,Wd] at h
   rcases h with h | h
   ·obtain ⟨i,q,k,e,h1,h2⟩:=iM h
    exact ⟨i,q,k,e,by omega,h2⟩
   ·unfold fo at h
    obtain ⟨e,he,rfl⟩:=Wu.1 h
    obtain ⟨h1,h2⟩:=WN.1 he
    obtain ⟨k,hk⟩:=WH h1
    exact ⟨n,q,k,e,by omega,hq,hk,V7 h2,rfl⟩
theorem Cb {t:aq} {j:Nat} {q:SQ} (h:eW ss t.st.toNat t.sym = some (j:Int)) (hq:ss[j]? = some q):ig g ss t = kD g t ++ Ae g q.2.2:=by
 unfold ig
 rw [h]
 show _ ++ (match ss[(j:Int).toNat]? with | none=>[] | some q=>_) = _
 rw [Ws,hq]
 rfl
end
end Go.V
namespace Go.Proofs.YtndaepmjkbmjmaaGreatDoor
open Go.V
variable {w:World} {L:List ay} {g:af} {x:GA} {ss:List SQ}
theorem Q1 (w:World) (xo yo:Operand) (x y:aq):Sem.run Tryz.prog (iu .eql kA xo yo (.agg ⟨B7 x⟩) (.agg ⟨B7 y⟩)) w = .ok (.bool (decide (x = y))) w:=by
 unfold iu
 rw [Sem.run_bind,run_eqGuard_agg w _ _ _ _ _ _ C_]
 simp only [Result.andThen_ok]
 rw [run_eql_struct]
 have e:decide (x = y) = decide (x.st = y.st/\x.sym = y.sym):=by
  cases x; cases y; simp
 rw [e]
 show ((Op.equal kA (.agg #[.int .i64 x.st,.int .i64 x.sym]) (.agg #[.int .i64 y.st,.int .i64 y.sym])).run Tryz.prog w).andThen _ = _
 rw [Jg D6]
 rfl
theorem Ji (hg:gR (hp w) g x) (hb:iE g):aA Tryz.prog lq [.agg ⟨x.cells⟩] w λv w'=>∃ (ss:List SQ) (ask int f:Int) (o:Yg) (c:Nat) (ds:List (Lq Int)),v = .tuple #[.slice o ds.length c,.int .i64 f]/\tT g ss ask int f/\ds.map (·.2) = (bj g ss).map (ig g ss)/\St w' (own 1 o ds.length c (ds.map dO) :: aG (ds.map (dm 1 iv)) :: all w):=by
 refine yI (cW hg λk1 w1 gw hg B=>?_)
 refine ⟨_,_,_,_,_,_,_,_,_,_,_,_,_,B.row (sub.refl _),(Oa hg hb).mono ?_⟩
 rintro _ w2 ⟨ss,ask,int,f,p,rfl,hR,g2,h0,hn⟩
 refine ⟨_,_,rfl,ae (λh1=>?_) λh1=>?_⟩
 ·have h1:f≠0:=by simpa using h1
  have hz:ss = []:=by rcases hR with ⟨_,e,_⟩ | ⟨_,_,e,_⟩ | ⟨_,_,_,_,e⟩ <;> first | exact e | exact absurd e h1
  subst hz
  exact ⟨[],ask,int,f,none,0,[],rfl,hR,rfl,az 1 ((St.flat (M:=[])).2 (St.here (gw.trans g2)))⟩
 have h1:f = 0:=by simpa using h1
 subst h1
 obtain ⟨k,rfl,hw⟩:=h0 rfl
 obtain ⟨hc,hA⟩:=hR.L4 rfl
 have hkl:=hA.yG hc
 have h256:=hA.dn.2.1
 have hTn:=xp (g:=g) (λq hq=>(hkl q hq).2) ss.length
 refine (Ho hw h256 λq hq=>(hkl q hq).2).mono ?_
 rintro _ w3 ⟨oL,cL,rfl,h⟩
 have g3:Gr w2 w3:=aU 1 h.l
 have rL:a_ (hp w3) (bj g ss) oL (bj g ss).length:=AG rfl (fN 0 h.l)
 clear h
 obtain ⟨x',oa,ca,kb,a',int',m,rk,hg',hs,hm,hW⟩:=(hw.mono g3).ex
 have g13:Gr w1 w3:=g2.trans g3
 have hTl:g.T = x.tl:=hg.t.1
 have hst:x.s = g.start:=hg.s
 refine ⟨_,_,_,rfl,λo n c z w'=>∃ (i:Nat) (ds:List (Lq Int)),z = i/\i<=(bj g ss).length/\n = ds.length/\ds.map (·.2) = ((bj g ss).take i).map (ig g ss)/\St w' (own 1 o n c (ds.map dO) :: aG (ds.map (dm 1 iv)) :: all w3),λ_ _ _ z _=>(bj g ss).length - z.toNat,
  ⟨0,[],rfl,Wi _,rfl,rfl,az 1 ((St.flat (M:=[])).2 (St.all w3))⟩,?_⟩
 rintro _ o7 _ c7 _ w4 ⟨i,ds,rfl,hi,rfl,hds,h⟩
 have s4:sub (hp w3) (hp w4):=aU 2 h.l
 have hdl:ds.length = i:=by have:=congrArg List.length hds; rw [Wh,Wh,Wx] at this; omega
 have hTL:(bj g ss).length<=ss.length * 130:=hTn
 refine ae (λh1=>?_) λh1=>?_
 rotate_left
 ·have h1:i = (bj g ss).length:=by have:=V8 h1; omega
  rw [h1,Ww] at hds
  refine lu (gm (fa h) ⟨_,_,_,rfl,ss,ask,int,0,_,_,ds,rfl,hR,hds,?_⟩)
  exact St.Kl (gl h) (bD (gw.trans g13))
 have h1:i < (bj g ss).length:=by have:=V7 h1; omega
 obtain ⟨t,tad,ht,hta,rt⟩:=sM rL h1
 obtain ⟨i0,q0,k0,e0,hi0,hq0,he0,hge,hte⟩:=iM (V_ ht)
 have hnx:eW ss t.st.toNat t.sym = some e0.to:=by rw [hte]; exact ob hA hq0 he0
 obtain ⟨hto1,hto2⟩:=iL hc hA hnx
 obtain ⟨j0,hj0⟩ : ∃ j0:Nat,e0.to = j0:=⟨e0.to.toNat,by omega⟩
 rw [hj0] at hnx hto2
 have hto:j0 < ss.length:=by omega
 obtain ⟨r,hr⟩ : ∃ r,ss[j0]? = some r:=⟨_,Wa hto⟩
 have hdir:ig g ss t = kD g t ++ Ae g r.2.2:=Cb hnx hr
 have hrl:=(hkl r (V_ hr)).2
 have hpl:=Od g t
 have hst0:0<=t.st:=by rw [hte]; exact WJ _
 have htk:(bj g ss).take (i + 1) = (bj g ss).take i ++ [t]:=by rw [Wf,ht]; rfl
 obtain ⟨sad,rfl,rs,_,re⟩:=hs j0 r hr
 refine au hta h1 ⟨_,_,rt.at s4 rfl,ah h λk14 w5 h=>bx h rfl (by simp [aV]) λw6 h=>?_⟩
 have h:St w6 (aK k14 (B7 t) :: own 1 o7 ds.length c7 (ds.map dO) :: aG (ds.map (dm 1 iv)) :: all w3):=h
 have r14:av (hp w6) (aM k14) (B7 t):=ai 0 h.l
 have s6:sub (hp w3) (hp w6):=aU 3 h.l
 refine ⟨λo n c w'=>n = (kD g t).length/\St w' (own 1 o n c (iv (kD g t)) :: aK k14 (B7 t) :: own 1 o7 ds.length c7 (ds.map dO) :: aG (ds.map (dm 1 iv)) :: all w3),⟨_,_,r14.at (sub.refl _) rfl,_,B.c3 (sub.trans g13 s6),_,Q1 w6 _ _ t ⟨0,x.s⟩,_,rfl,ae (λh2=>?_) λh2=>?_⟩,?_⟩
 ·have h2:t = ⟨0,g.start⟩:=by rw [<- hst]; exact V7 h2
  have e:kD g t = [0]:=by unfold kD; rw [Wn h2]
  refine ah h λk15 w7 h=>?_
  refine (aP (us:=[]) aQ (rfl:aj Ty _ = .slice _) (rfl:aj Ty _ = .slice _) rfl rfl rfl ((az 1 h).pick 5 [1,0,2,3,4]) rfl (by simp [aV]) (by decide) (by decide)).mono ?_
  rintro _ w8 ⟨o8,c8,rfl,h⟩
  rw [e]
  exact ⟨_,_,_,rfl,rfl,h.pick 5 [0,2,3,4]⟩
 ·have h2:¬t = ⟨0,g.start⟩:=by rw [<- hst]; exact V8 h2
  have e:kD g t = []:=by unfold kD; rw [Wg h2]
  rw [e]
  exact ⟨rfl,az 1 h⟩
 clear h r14 s6
 rintro _ o9 _ c9 w9 ⟨rfl,h⟩
 intro w10 hd
 have h:=h.eq (aB hd)
 have s10:sub (hp w3) (hp w10):=aU 4 h.l
 have r14:av (hp w10) (aM k14) (B7 t):=ai 1 h.l
 refine ⟨λu=>Gr w10 u,Gr.refl _,_,_,_,λu s=>rk.cell (sub.trans s10 s) (j:=5) rfl,_,λu s=>rk.cell (sub.trans s10 s) (j:=8) rfl,_,_,λu s=>r14.at s rfl,(dh (κ:=aq) hm s10 aQ (rfl:aj Ty _ = .map _ _) ew rfl rfl t).mono ?_⟩
 rintro _ w14 ⟨rfl,e14⟩
 rw [e14]
 rw [hW.all hst0,hnx]
 refine ⟨_,rfl,λu=>Gr w10 u,Gr.refl _,λ_ h=>h,au rfl hto ⟨_,_,_,λu s=>rs.cell (sub.trans s10 s) (j:=1) rfl,λo n c z w'=>∃ j:Nat,z = j/\j<=r.2.2.length/\n = (kD g t ++ Ae g (r.2.2.take j)).length /\
  St w' (own 1 o n c (iv (kD g t ++ Ae g (r.2.2.take j))) :: own 1 o7 ds.length c7 (ds.map dO) :: aG (ds.map (dm 1 iv)) :: all w3),λ_ _ _ z _=>r.2.2.length - z.toNat,
  ⟨0,rfl,Wi _,by simp [Ae],by simpa [Ae] using (show St w10 (own 1 o9 (kD g t).length c9 (iv (kD g t)) :: own 1 o7 ds.length c7 (ds.map dO) :: aG (ds.map (dm 1 iv)) :: all w3) from h.pick 4 [0,2,3])⟩,?_⟩⟩
 clear h r14
 rintro _ o13 _ c13 _ w17 ⟨j,rfl,hj,rfl,h⟩
 have s17:sub (hp w3) (hp w17):=aU 3 h.l
 have hfl:=Q0 g (r.2.2.take j)
 rw [Wx] at hfl
 refine ae (λh2=>?_) λh2=>?_
 ·have h2:j < r.2.2.length:=by have:=V7 h2; omega
  obtain ⟨e,ead,he,hea,red⟩:=lj re h2
  have htj:r.2.2.take (j + 1) = r.2.2.take j ++ [e]:=by rw [Wf,he]; rfl
  refine au hea h2 ⟨_,_,red.at s17 rfl,ah h λk26 w18 h=>bx h rfl (by simp [aV]) λw19 h=>?_⟩
  have r26:av (hp w19) (aM k26) [.int .i64 e.sym,.int .i64 e.to]:=ai 0 h.l
  have s19:sub (hp w3) (hp w19):=aU 4 h.l
  refine ⟨_,r26.cell0 (sub.refl _),_,_,_,B.c0 (sub.trans g13 s19),ae (λh3=>?_) λh3=>?_⟩
  ·have h3:e.sym < (g.T:Int):=by rw [hTl]; exact V7 h3
   have z1:((kD g t ++ Ae g (r.2.2.take j)).length + 1) * 8<=140737488355328/\(kD g t ++ Ae g (r.2.2.take j)).length < 9223372036854775807:=by rw [We]; omega
   refine ⟨_,r26.cell0 (sub.refl _),ah h λk29 w20 h=>?_⟩
   refine (aP (us:=iv (kD g t ++ Ae g (r.2.2.take j))) aQ (rfl:aj Ty _ = .slice _) (rfl:aj Ty _ = .slice _) rfl rfl rfl (h.pick 5 [0,2,3,4]) rfl (by simp [aV]) z1.1 z1.2).mono ?_
   rintro _ w21 ⟨o15,c15,rfl,h⟩
   have e2:kD g t ++ Ae g (r.2.2.take (j + 1)) = kD g t ++ Ae g (r.2.2.take j) ++ [e.sym]:=by rw [htj,Hq,Wn h3,Wj]
   have e3:iv (kD g t ++ Ae g (r.2.2.take (j + 1))) = iv (kD g t ++ Ae g (r.2.2.take j)) ++ [.int .i64 e.sym]:=by rw [e2]; unfold iv; rw [WB]; rfl
   refine ⟨_,_,_,rfl,⟨by omega,by omega⟩,⟨j + 1,by simp,h2,by rw [e2]; simp; omega,?_⟩,bw h2⟩
   rw [e3]; exact h.pick 4 [0,2,3]
  ·have h3:¬e.sym < (g.T:Int):=by rw [hTl]; exact V8 h3
   have e2:Ae g (r.2.2.take (j + 1)) = Ae g (r.2.2.take j):=by rw [htj,Hq,Wg h3]
   exact ⟨⟨by omega,by omega⟩,⟨j + 1,by simp,h2,by rw [e2],by rw [e2]; exact h.pick 4 [1,2,3]⟩,bw h2⟩
 have h2:j = r.2.2.length:=by have:=V8 h2; omega
 rw [h2,Ww,<- hdir] at h ⊢
 refine dq (gm (fa h) ⟨_,_,_,rfl,?_⟩)
 have h:=gl h
 refine ah h λk34 w23 h=>?_
 have z1:(ds.length + 1) * 24<=140737488355328/\ds.length < 9223372036854775807:=by omega
 refine (aP (us:=ds.map dO) aQ (rfl:aj Ty _ = .slice _) (rfl:aj Ty _ = .slice _) rfl rfl rfl (h.pick 4 [0,2,1,3]) rfl (by simp [aV]) z1.1 z1.2).mono ?_
 rintro _ w24 ⟨o17,c17,rfl,h⟩
 have h:=St.snoc (h.pick 4 [2,3,0])
 refine ⟨_,_,_,rfl,⟨by omega,by omega⟩,⟨i + 1,ds ++ [((gC o13 0 (ig g ss t).length 1,(ig g ss t).length),ig g ss t)],by simp,h1,by simp,by rw [htk]; simp [hds],?_⟩,bw h1⟩
 have h3:St w24 (own 1 o17 (ds.length + 1) c17 (ds.map dO ++ [.slice (gC o13 0 (ig g ss t).length 1) (ig g ss t).length (ig g ss t).length]) :: aG (ds.map (dm 1 iv) ++ [own 1 (gC o13 0 (ig g ss t).length 1) (ig g ss t).length (ig g ss t).length (iv (ig g ss t))]) :: all w3):=h.pick 2 [1,0]
 simpa [dO,dm] using h3
end Go.Proofs.YtndaepmjkbmjmaaGreatDoor

namespace Go.V
section
variable {g:af} {ss ss' : List SQ}
theorem Oe (h:bu ss = bu ss') (i:Nat):(ss[i]?).map (λq=>q.2.2) = (ss'[i]?).map λq=>q.2.2:=by
 have:=congrArg (λl=>l[i]?) h
 unfold bu at this
 simpa [Wc] using this
theorem Fp (h:bu ss = bu ss') (i:Nat) (s:Int):eW ss i s = eW ss' i s:=by
 have:=Oe h i
 unfold eW
 cases h1:ss[i]? <;> cases h2:ss'[i]? <;> simp [h1,h2] at this ⊢
 rw [this]
theorem Og (h:bu ss = bu ss'):∀ i,tU g ss i = tU g ss' i
 | 0=>rfl
 | i + 1=>by
  have:=Oe h i
  show tU g ss i ++ _ = tU g ss' i ++ _
  rw [Og h i]
  cases h1:ss[i]? <;> cases h2:ss'[i]? <;> simp [h1,h2] at this ⊢
  rw [this]
theorem Fq (h:bu ss = bu ss'):ss.length = ss'.length:=by have:=congrArg List.length h; simpa [bu] using this
theorem sQ (h:bu ss = bu ss'):bj g ss = bj g ss':=by unfold bj; rw [Fq h,Og h]
theorem Oh (h:bu ss = bu ss') (t:aq):ig g ss t = ig g ss' t:=by
 unfold ig
 rw [Fp h]
 congr 1
 cases eW ss' t.st.toNat t.sym with
 | none=>rfl
 | some j =>
  have:=Oe h j.toNat
  show (match ss[j.toNat]? with | none=>[] | some q=>_) = (match ss'[j.toNat]? with | none=>[] | some q=>_)
  cases h1:ss[j.toNat]? <;> cases h2:ss'[j.toNat]? <;> simp [h1,h2] at this ⊢
  rw [this]
theorem Fs (h:bu ss = bu ss'):∀ (l:List Int) (q:Int),b9 ss q l = b9 ss' q l
 | [],q=>rfl
 | s :: l,q=>by
  unfold b9
  rw [Fp h]
  cases eW ss' q.toNat s with
  | none=>rfl
  | some j=>exact Fs h l j
end
end Go.V
namespace Go.V
section
variable {g:af} {ss:List SQ}
theorem KH:∀ (n i:Nat),i<=n->∃ t,tU g ss n = tU g ss i ++ t
  | 0, i, h => ⟨[], by have : i = 0 := by omega
                       subst this; simp⟩
  | n + 1,i,h=>by
    by_cases e:i = n + 1
    · subst e; exact ⟨[],by simp⟩
    · obtain ⟨t,ht⟩:=KH n i (by omega)
      exact ⟨t ++ (match ss[n]? with | some q=>fo g n q.2.2 | none=>[]),by rw [<- Wj,<- ht]; rfl⟩
theorem Oi (i:Nat) (a b:List aO):fo g i (a ++ b) = fo g i a ++ fo g i b:=by unfold fo; rw [WK,WB]
theorem Ft {i:Nat} {q:SQ} (hq:ss[i]? = some q) {j:Nat} {e:aO} (he:q.2.2[j]? = some e) (h:(g.T:Int)<=e.sym):(bj g ss)[(tU g ss i ++ fo g i (q.2.2.take j)).length]? = some ⟨(i:Int),e.sym⟩:=by
 have hi:=(V9.1 hq).1
 obtain ⟨t,ht⟩:=KH (g:=g) (ss:=ss) ss.length (i + 1) (by omega)
 have hd:q.2.2 = q.2.2.take j ++ e :: q.2.2.drop (j + 1):=by
  have hj:=(V9.1 he)
  rw [<- hj.2,<- WO hj.1,Wz]
 have e1:fo g i q.2.2 = fo g i (q.2.2.take j) ++ ⟨(i:Int),e.sym⟩ :: fo g i (q.2.2.drop (j + 1)):=by
  conv=>lhs; rw [hd]
  rw [Oi]
  congr 1
  unfold fo
  rw [Ye (by simpa using h)]
  rfl
 unfold bj
 rw [ht,nZ hq,e1,<- Wj,Wj,Wm (Wr _),Xe]
 rfl
end
end Go.V
namespace Go.V
section
variable {g:af} {ss:List SQ}
theorem Oj (W:Nat->Bool) (n:Nat):(List.range (n + 1)).filter W = (List.range n).filter W ++ if W n = true then [n] else []:=by
 rw [Xi,WK]
 congr 1
 by_cases h:W n = true <;> simp [h]
def Td (g:af) (ss:List SQ) (t:aq) (j n:Nat):Bool:=if n = 0 then decide (t = ⟨0,g.start⟩) else (eW ss j n).isSome
theorem lx (h:bm g ss) {j:Nat} {r:SQ} (hr:ss[j]? = some r) {n:Nat} (hn:n < g.T + g.N):(eW ss j (n:Int)).isSome = decide (aF g r.1.2 (n:Int)≠[]):=by
 have hrise:=B8 h hr
 rw [n_ hr,Option.isSome_map,WX,Wk,List.find?_isSome]
 constructor
 ·rintro ⟨e,he,h1⟩
  have h1:e.sym = n:=V7 h1
  have:e.sym∈r.2.2.map (·.sym):=Wu.2 ⟨e,he,rfl⟩
  rw [hrise,h1] at this
  obtain ⟨m,hm,e2⟩:=Wu.1 this
  have e2:m = n:=Int.ofNat.inj e2
  subst e2
  exact tN m hm
 ·intro hk
  have:(n:Int)∈r.2.2.map (·.sym):=by
   rw [hrise]
   exact Wu.2 ⟨n,WN.2 ⟨WA.2 hn,WI hk⟩,rfl⟩
  obtain ⟨e,he,h1⟩:=Wu.1 this
  exact ⟨e,he,WI h1⟩
theorem Ol:∀ (T N:Nat) (p:Nat->Bool),((List.range (T + N)).filter p).filter (λn=>decide (n < T)) = (List.range T).filter p
 | T,0,p=>by
  rw [Nat.add_zero,List.filter_filter]
  refine Xk λn hn=>?_
  rw [WA] at hn
  simp [hn]
 | T,N + 1,p=>by
  rw [<- Nat.add_assoc,Oj,WK,Ol T N p]
  have:(if p (T + N) = true then [T + N] else []).filter (λn=>decide (n < T)) = []:=by split <;> simp
  rw [this,WG]
theorem Om (h:bm g ss) {j:Nat} {r:SQ} (hr:ss[j]? = some r):Ae g r.2.2 = ((List.range g.T).filter λn=>decide (aF g r.1.2 (n:Nat)≠[])).map Int.ofNat:=by
 have hrise:=B8 h hr
 have e1:Ae g r.2.2 = (r.2.2.map (·.sym)).filter λs=>decide (s < (g.T:Int)):=by
  unfold Ae
  rw [List.filter_map]
  rfl
 have e2:=Ol g.T g.N λn=>decide (aF g r.1.2 (n:Nat)≠[])
 rw [e1,hrise,List.filter_map,<- e2]
 congr 1
 refine Xk λn hn=>?_
 show decide ((n:Int) < _) = _
 exact decide_eq_decide.2 (by omega)
theorem Q2 (hc:ak g) (h:bm g ss) {t:aq} {j:Nat} {r:SQ} (hr:ss[j]? = some r):kD g t ++ Ae g r.2.2 = ((List.range g.T).filter (Td g ss t j)).map Int.ofNat:=by
 obtain ⟨hT,hN,hP,hP2,h1,_⟩:=hc.ct
 have hK:=(fl h hr).1
 have hf:=(dg (g:=g) (by omega) j).fit _ (V_ hK)
 have h0:=N7 hc hf
 rw [Om h hr]
 obtain ⟨T,hT'⟩ : ∃ T,g.T = T + 1:=⟨g.T - 1,by omega⟩
 rw [hT',List.range_succ_eq_map]
 have e1:((0 :: (List.range T).map Nat.succ).filter λn=>decide (aF g r.1.2 (n:Nat)≠[])) = ((List.range T).map Nat.succ).filter λn=>decide (aF g r.1.2 (n:Nat)≠[]):=by
  rw [Yf]
  simpa using h0
 have e2:((List.range T).map Nat.succ).filter (Td g ss t j) = ((List.range T).map Nat.succ).filter λn=>decide (aF g r.1.2 (n:Nat)≠[]):=by
  refine Xk λn hn=>?_
  obtain ⟨m,hm,rfl⟩:=Wu.1 hn
  rw [WA] at hm
  unfold Td
  rw [Wg (by omega),lx h hr (by omega)]
 rw [e1]
 unfold kD
 by_cases ht:t = ⟨0,g.start⟩
 ·rw [Wn ht,Ye (by unfold Td; simp [ht]),e2]
  rfl
 ·rw [Wg ht,Yf (by unfold Td; simp [ht]),e2]
  rfl
end
end Go.V
namespace Go.V
section
variable {g:af} {ss:List SQ}
theorem jk (q s:Int) (l:List Int):b9 ss q (s :: l) = match eW ss q.toNat s with | none=>-1 | some j=>b9 ss j l:=rfl
theorem xq (hn:∀ i s j,eW ss i s = some j->0<=j/\j < ss.length):∀ (l:List Int) (q:Int),0<=q->q < ss.length->b9 ss q l = -1\/(0<=b9 ss q l/\b9 ss q l < ss.length)
 | [],q,h1,h2=>.inr ⟨h1,h2⟩
 | s :: l,q,h1,h2=>by
  unfold b9
  cases h:eW ss q.toNat s with
  | none=>exact .inl rfl
  | some j=>exact xq hn l j (hn _ _ _ h).1 (hn _ _ _ h).2
theorem sR (hn:∀ i s j,eW ss i s = some j->0<=j/\j < ss.length) (b:List Int):∀ (l:List Int) (q:Int),0<=q->q < ss.length->b9 ss q (l ++ b) = if b9 ss q l = -1 then -1 else b9 ss (b9 ss q l) b
 | [],q,h1,h2=>by
  show b9 ss q b = if q = -1 then -1 else b9 ss q b
  rw [Wg (by omega)]
 | s :: l,q,h1,h2=>by
  show b9 ss q (s :: (l ++ b)) = _
  rw [jk q s (l ++ b),jk q s l]
  cases h:eW ss q.toNat s with
  | none=>simp
  | some j=>exact sR hn b l j (hn _ _ _ h).1 (hn _ _ _ h).2
end
end Go.V


namespace Go.V
section
variable {g:af} {ss:List SQ}
theorem tV (hc:ak g) (hA:bm g ss) {i:Nat} {q:SQ} (hq:ss[i]? = some q) {y:ag} {s:Int} (hy:nT g q.1.2 y) (hs:cM g y = s) (h0:0<=s):∃ (j:Nat) (r:SQ),eW ss i s = some (j:Int)/\ss[j]? = some r/\(⟨y.prod,y.dot + 1⟩ : ag)∈r.1.2:=by
 obtain ⟨hT,hN,hP,hP2,_,_⟩:=hc.ct
 have hK:=(fl hA hq).1
 have hf:=(dg (g:=g) (by omega) i).fit _ (V_ hK)
 have hm:(⟨y.prod,y.dot + 1⟩ : ag)∈aF g q.1.2 s:=cH.2 ⟨y,hy,hs,rfl⟩
 have hne:aF g q.1.2 s≠[]:=List.ne_nil_of_mem hm
 have hsr:=sE hc hf h0 hne
 obtain ⟨n,rfl⟩ : ∃ n:Nat,s = n:=⟨s.toNat,by omega⟩
 have hsome:=lx hA hq (n:=n) (by omega)
 rw [WI hne] at hsome
 obtain ⟨t,ht⟩:=XR.1 hsome
 obtain ⟨q',k,e,hq',he,he1,he2⟩:=py ht
 rw [hq] at hq'; cases hq'
 obtain ⟨_,_,j,r,hj,_,hr,hrk,_⟩:=fm hc hA hq he
 refine ⟨j,r,by rw [ht,<- he2,hj],hr,?_⟩
 rw [hrk,he1]
 exact hm
theorem pz (hc:ak g) (hA:bm g ss) {n:Nat} {p:aH} (hp:g.prods[n]? = some p):∀ (d m:Nat),m + d = p.right.length->∀ (i:Nat) (q:SQ),ss[i]? = some q->nT g q.1.2 ⟨(n:Int),(m:Int)⟩ ->
  ∃ (j:Nat) (r:SQ),b9 ss (i:Int) (p.right.drop m) = (j:Int)/\ss[j]? = some r/\nT g r.1.2 ⟨(n:Int),(p.right.length:Int)⟩
 | 0,m,hm,i,q,hq,hy=>⟨i,q,by rw [Xl (by omega)]; rfl,hq,by rw [show p.right.length = m by omega]; exact hy⟩
 | d + 1,m,hm,i,q,hq,hy=>by
  have hlt:m < p.right.length:=by omega
  have hpm:p∈g.prods:=V_ hp
  have hs:cM g ⟨(n:Int),(m:Int)⟩ = p.right[m]:=by
   rw [jK (p:=p) (by show g.prods[(n:Int).toNat]? = _; rw [Ws]; exact hp)]
   show p.right.getD (m:Int).toNat (-1) = _
   rw [Ws]
   simp [hlt]
  have hsy:=hc.sym hpm (List.getElem_mem hlt)
  obtain ⟨j,r,h1,h2,h3⟩:=tV hc hA hq hy hs (by omega)
  have h4:nT g r.1.2 ⟨(n:Int),((m + 1:Nat):Int)⟩:=.base (by simpa using h3)
  obtain ⟨j',r',e1,e2,e3⟩:=pz hc hA hp d (m + 1) (by omega) j r h2 h4
  refine ⟨j',r',?_,e2,e3⟩
  rw [WO hlt,jk,Ws,h1]
  exact e1
theorem Q3 (hc:ak g) (hA:bm g ss) {i:Nat} {q:SQ} (hq:ss[i]? = some q) {n:Nat} {p:aH} (hp:g.prods[n]? = some p) (hy:nT g q.1.2 ⟨(n:Int),0⟩):(eW ss i p.left).isSome = decide (n≠0):=by
 have hc':=hc
 obtain ⟨_,hsy,hpr,p0,hp0,hl0,hr0,_⟩:=hc'
 obtain ⟨hT,hN,hP,hP2,_,hN2⟩:=hc.ct
 have hdr:∀ (m:Nat) p',g.prods[m]? = some p'->m≠0->kW g 1 p':=λm p' hm h0=>by
  refine hpr.2.2.1 p' (V_ (i:=m - 1) ?_)
  rw [WL,show 1 + (m - 1) = m by omega]; exact hm
 by_cases h0:n = 0
 ·subst h0
  rw [hp0] at hp; cases hp
  rw [hl0,lx hA hq (by omega)]
  have hK:=(fl hA hq).1
  have hf:=(dg (g:=g) (by omega) i).fit _ (V_ hK)
  have:aF g q.1.2 (g.T:Int) = []:=by
   refine Xa λhne=>?_
   obtain ⟨x,hx⟩:=Xu _ hne
   obtain ⟨y,h1,h2,_⟩:=cH.1 hx
   obtain ⟨p',hp',_,h3⟩:=BO (h1.fit hf) h2 (WJ _)
   by_cases h4:y.prod.toNat = 0
   ·rw [h4,hp0] at hp'; cases hp'
    rw [hr0] at h3
    have:=V_ h3
    rw [Wy] at this
    have:=hpr.2.2.2.2.1
    omega
   ·have:=(hdr _ _ hp' h4).2 _ (V_ h3)
    unfold eH at this
    omega
  rw [this]; simp
 ·have hpo:=hdr n p hp h0
  have hsome:∃ j:Int,eW ss i p.left = some j:=by
   generalize hz:(⟨(n:Int),0⟩ : ag) = z at hy
   cases hy with
   | base h =>
    subst hz
    cases i with
    | zero =>
     have hK:=(fl hA hq).1
     have e:q.1.2 = [⟨0,0⟩]:=by
      have:(b_ g 0).1[0]? = some [⟨0,0⟩]:=rfl
      rw [this] at hK
      exact (Option.some.inj hK).symm
     rw [e,Wy] at h
     have:=congrArg ag.prod h
     simp at this
     omega
    | succ i =>
     have:=(QX hc hA (by omega) hq h).2.1
     simp at this
   | step hy' h1 hp' hl' =>
    rename_i y i' p'
    have e:i' = n:=by
     have:=congrArg ag.prod hz
     simp at this
     omega
    subst e
    rw [hp] at hp'; cases hp'
    obtain ⟨j,r,h2,_⟩:=tV hc hA hq hy' hl'.symm (by rw [hl']; exact h1)
    exact ⟨j,h2⟩
  obtain ⟨j,hj⟩:=hsome
  rw [hj]
  simp [h0]
end
end Go.V
namespace Go.V
section
variable {g:af} {ss:List SQ}
theorem od {h:Hp} {xs:List ag} {a:Yg} {l:Nat} (r:a_ h xs a l) {i:Nat} (hi:i < l):∃ x ad,xs[i]? = some x/\a = some ad/\av h (ad.add (cV i 2)) (cj x):=by
 obtain ⟨x,ad,vs,hx,ha,hr,e⟩:=r.get hi
 rw [show vs = cj x from e] at hr
 exact ⟨x,ad,hx,ha,hr⟩
end
end Go.V
namespace Go.Proofs.YtndaepmjkbmjmaaGreatDoor
open Go.V
abbrev oe:FuncId:=164
def vv:bn:={ rngs:=[],loops:=[],joins:=[],blocks:=[] }
theorem vw {a:Yg} {b c:Nat} {d:Yg} {e f:Nat} {g:Yg} {i j:Nat} {k:Int} {l:Yg} {m n:Nat} {w:World} {R:Value->WP} (h:new w (oC [vS a b c,vS d e f,vS g i j,iI k,vS l m n] 27) λk1 w1=>∃ o1 k2 k3 o2 k4 k5 o3 k6 k7 n1 o4 k8 k9,V.rowAt w1 (aM k1) 0 5 = some [vS o1 k2 k3,vS o2 k4 k5,vS o3 k6 k7,iI n1,vS o4 k8 k9]/\rE 215 [vA (Array.mk [vS o1 k2 k3,vS o2 k4 k5,vS o3 k6 k7,iI n1,vS o4 k8 k9])] w1 λv1 w2=>∃ b1,v1 = vB b1/\br (!b1) (R (vT (Array.mk [vS none 0 0,iI 1])) w2) (∀ w3,drawn w2 w3->∃ (I1:WP),I1 w3/\∃ o5 k10 k11 o6 k12 k13 o7 k14 k15 n2 o8 k16 k17,(∀ w4,I1 w4->V.rowAt w4 (aM k1) 0 5 = some [vS o5 k10 k11,vS o6 k12 k13,vS o7 k14 k15,iI n2,vS o8 k16 k17])/\∃ o9 k18 k19,(∀ w5,I1 w5->World.cell? w5 (aM k1) = some (vS o9 k18 k19))/\rE 216 [vA (Array.mk [vS o5 k10 k11,vS o6 k12 k13,vS o7 k14 k15,iI n2,vS o8 k16 k17])] w3 λv2 w6=>∃ o10,v2 = vP o10/\∃ (I2:WP),I2 w6/\(∀ w7,I2 w7->I1 w7)/\nn o10 λa1=>∃ o11 k20 k21,(∀ w8,I2 w8->World.cell? w8 (Addr.add a1 5) = some (vS o11 k20 k21))/\uc o11 k20 k21 (some (k18:Int)) none none 1 λ(o12:Yg) (k22 k23:Nat)=>R (vT (Array.mk [vS o12 k22 k23,iI 0])) w6)):aA Tryz.prog 164 [(.agg #[(.slice a b c),(.slice d e f),(.slice g i j),(.int .i64 k),(.slice l m n)])] w R:=rv Tryz.func164 vv (by kernel_rfl) h
abbrev Cc:FuncId:=215
def yK:bn:={ rngs:=[],loops:=[],joins:=[],blocks:=[] }
theorem yL {a:Yg} {b c:Nat} {d:Yg} {e f:Nat} {g:Yg} {i j:Nat} {k:Int} {l:Yg} {m n:Nat} {w:World} {R:Value->WP} (h:new w (oC [vS a b c,vS d e f,vS g i j,iI k,vS l m n] 27) λk1 w1=>∃ o1 k2 k3 o2 k4 k5 o3 k6 k7 n1 o4 k8 k9,V.rowAt w1 (aM k1) 0 5 = some [vS o1 k2 k3,vS o2 k4 k5,vS o3 k6 k7,iI n1,vS o4 k8 k9]/\rE 247 [vA (Array.mk [vS o1 k2 k3,vS o2 k4 k5,vS o3 k6 k7,iI n1,vS o4 k8 k9])] w1 λv1 w2=>∃ b1,v1 = vB b1/\br b1 (R (vB true) w2) (∃ o5 k10 k11 o6 k12 k13 o7 k14 k15 n2 o8 k16 k17,V.rowAt w2 (aM k1) 0 5 = some [vS o5 k10 k11,vS o6 k12 k13,vS o7 k14 k15,iI n2,vS o8 k16 k17]/\rE 49 [vA (Array.mk [vS o5 k10 k11,vS o6 k12 k13,vS o7 k14 k15,iI n2,vS o8 k16 k17])] w2 λv2 w3=>∃ b2,v2 = vB b2/\R (vB b2) w3)):aA Tryz.prog 215 [(.agg #[(.slice a b c),(.slice d e f),(.slice g i j),(.int .i64 k),(.slice l m n)])] w R:=rv Tryz.func215 yK (by kernel_rfl) h
abbrev Jj:FuncId:=216
def Fu:bn:={ rngs:=[],loops:=[(4,[(24,(.one (.int .i64)))]),(9,[(6,(.one (.int .i64)))]),(12,[(6,(.one (.int .i64))),(48,(.one (.int .i64)))])],joins:=[],blocks:=[] }
theorem Fv {a:Yg} {b c:Nat} {d:Yg} {e f:Nat} {g:Yg} {i j:Nat} {k:Int} {l:Yg} {m n:Nat} {w:World} {R:Value->WP} (h:new w (oC [vS a b c,vS d e f,vS g i j,iI k,vS l m n] 27) λk1 w1=>∃ o1 k2 k3,World.cell? w1 (aM k1) = some (vS o1 k2 k3)/\∃ o2 k4 k5,World.cell? w1 (Addr.add (aM k1) 1) = some (vS o2 k4 k5)/\ax ((k2:Int) + (k4:Int))/\∀ w2,drawn w1 w2->∃ (I1:WP),I1 w2/\∃ o3 k6 k7 o4 k8 k9 o5 k10 k11 n1 o6 k12 k13,(∀ w3,I1 w3->V.rowAt w3 (aM k1) 0 5 = some [vS o3 k6 k7,vS o4 k8 k9,vS o5 k10 k11,iI n1,vS o6 k12 k13])/\wi ((k2:Int) + (k4:Int)) ((k2:Int) + (k4:Int)) 1/\new w2 (Obj.cells (Array.mk (jz (Int.toNat ((k2:Int) + (k4:Int))) [vB false])) 4) λk14 w4=>I1 w4/\new w4 (oC [vS o3 k6 k7,vS o4 k8 k9,vS o5 k10 k11,iI n1,vS o6 k12 k13,vS (some (aM k14)) (Int.toNat ((k2:Int) + (k4:Int))) (Int.toNat ((k2:Int) + (k4:Int))),vS none 0 0] 291) λk15 w5=>I1 w5/\∃ (x1:lP [(24,aD)]),∃ (x2:lN [(24,aD)]),x1 0 w5/\∀ (I2:Nat->Value) (n2:Int) (w6:World),x1 n2 w6->br (decide (n2 < (k2:Int) + (k4:Int))) (∀ w7,drawn w6 w7->∃ (I3:WP),I3 w7/\∃ o7 k16 k17,(∀ w8,I3 w8->World.cell? w8 (Addr.add (aM k15) 6) = some (vS o7 k16 k17))/\∃ o8 k18 k19,(∀ w9,I3 w9->World.cell? w9 (aM k1) = some (vS o8 k18 k19))/\new w7 (oC [iI n2] 3) λk20 w10=>I3 w10/\rE 59 [iI (k18:Int),vS (some (aM k20)) 1 1] w10 λv1 w11=>∃ o9,v1 = vP o9/\I3 w11/\new w11 (oC [vP o9] 118) λk21 w12=>I3 w12/\rS (ir 286 (Array.mk [vS o7 k16 k17,vS (some (aM k21)) 1 1])) w12 λv2 w13=>∃ o10 k22 k23,v2 = vS o10 k22 k23/\I3 w13/\st1 w13 (Addr.add (aM k15) 6) (vS o10 k22 k23) λw14=>ax (n2 + 1)/\x1 (n2 + 1) w14/\x2 (n2 + 1) w14 < x2 n2 w6) (∃ (x3:lP [(6,aD)]),∃ (x4:lN [(6,aD)]),x3 1 w6/\∀ (I4:Nat->Value) (n3:Int) (w15:World),x3 n3 w15->br (decide (0 < n3)) (∃ o11 k24 k25,World.cell? w15 (Addr.add (aM k1) 4) = some (vS o11 k24 k25)/\∃ (x5:lP [(6,aD),(48,aD)]),∃ (x6:lN [(6,aD),(48,aD)]),x5 0 0 w15/\∀ (I5:Nat->Value) (n4 n5:Int) (w16:World),x5 n4 n5 w16->br (decide (n5 < (k24:Int))) (idx o11 k24 n5 3 λa1=>∃ n6 o12 k26 k27 n7,V.rowAt w16 a1 0 3 = some [iI n6,vS o12 k26 k27,iI n7]/\new w16 (oC [iI 0,vS none 0 0,iI 0] 81) λk28 w17=>fV w17 (aM k28) [iI n6,vS o12 k26 k27,iI n7] λw18=>∀ w19,drawn w18 w19->∃ (I6:WP),I6 w19/\∃ o13 k29 k30,(∀ w20,I6 w20->World.cell? w20 (Addr.add (aM k15) 6) = some (vS o13 k29 k30))/\∃ n8,(∀ w21,I6 w21->World.cell? w21 (aM k28) = some (iI n8))/\idx o13 k29 n8 1 λa2=>∃ o14,(∀ w22,I6 w22->World.cell? w22 a2 = some (vP o14))/\∃ o15 k31 k32,(∀ w23,I6 w23->World.cell? w23 (Addr.add (aM k28) 1) = some (vS o15 k31 k32))/\rE 248 [vP (some (aM k15)),vP o14,vS o15 k31 k32] w19 λv3 w24=>∃ n9 b1,v3 = vT (Array.mk [iI n9,vB b1])/\I6 w24/\ax (n4 + n9)/\∀ w25,drawn w24 w25->∃ (I7:WP),I7 w25/\br b1 (∃ o16 k33 k34,(∀ w26,I7 w26->World.cell? w26 (Addr.add (aM k15) 5) = some (vS o16 k33 k34))/\∃ n10,(∀ w27,I7 w27->World.cell? w27 (aM k28) = some (iI n10))/\idx o16 k33 n10 1 λa3=>∃ b2,(∀ w28,I7 w28->World.cell? w28 a3 = some (vB b2))/\br (!b2) (∀ w29,drawn w25 w29->∃ (I8:WP),I8 w29/\∃ o17 k35 k36,(∀ w30,I8 w30->World.cell? w30 (Addr.add (aM k15) 5) = some (vS o17 k35 k36))/\∃ n11,(∀ w31,I8 w31->World.cell? w31 (aM k28) = some (iI n11))/\idx o17 k35 n11 1 λa4=>st1 w29 a4 (vB true) λw32=>ax (n4 + n9 + 1)/\ax (n5 + 1)/\x5 (n4 + n9 + 1) (n5 + 1) w32/\x6 (n4 + n9 + 1) (n5 + 1) w32 < x6 n4 n5 w16) (ax (n5 + 1)/\x5 (n4 + n9) (n5 + 1) w25/\x6 (n4 + n9) (n5 + 1) w25 < x6 n4 n5 w16)) (ax (n5 + 1)/\x5 (n4 + n9) (n5 + 1) w25/\x6 (n4 + n9) (n5 + 1) w25 < x6 n4 n5 w16)) (x3 n4 w16/\x4 n4 w16 < x4 n3 w15)) (R (vP (some (aM k15))) w15))):aA Tryz.prog 216 [(.agg #[(.slice a b c),(.slice d e f),(.slice g i j),(.int .i64 k),(.slice l m n)])] w R:=rv Tryz.func216 Fu (by kernel_rfl) h
abbrev yM:FuncId:=248
def vx:bn:={ rngs:=[],loops:=[(3,[(8,(.one (.int .i64))),(13,(.one (.int .i64)))])],joins:=[],blocks:=[] }
theorem vy {a b c:Yg} {d e:Nat} {w:World} {R:Value->WP} (h:∃ (x1:lP [(8,aD),(13,aD)]),∃ (x2:lN [(8,aD),(13,aD)]),x1 0 0 w/\∀ (I1:Nat->Value) (n1 n2:Int) (w1:World),x1 n1 n2 w1->br (decide (n2 < (d:Int))) (idx c d n2 1 λa1=>∃ n3,World.cell? w1 a1 = some (iI n3)/\nn a λa2=>∃ o1 k1 k2,World.cell? w1 (Addr.add a2 6) = some (vS o1 k1 k2)/\idx o1 k1 n3 1 λa3=>∃ o2,World.cell? w1 a3 = some (vP o2)/\new w1 (oC [vP o2] 118) λk3 w2=>rE 213 [vP b,vS (some (aM k3)) 1 1] w2 λv1 w3=>∃ n4,v1 = iI n4/\ax (n1 + n4)/\nn a λa4=>∃ o3 k4 k5,World.cell? w3 (Addr.add a4 5) = some (vS o3 k4 k5)/\idx o3 k4 n3 1 λa5=>∃ b1,World.cell? w3 a5 = some (vB b1)/\br (!b1) (R (vT (Array.mk [iI (n1 + n4),vB false])) w3) (ax (n2 + 1)/\x1 (n1 + n4) (n2 + 1) w3/\x2 (n1 + n4) (n2 + 1) w3 < x2 n1 n2 w1)) (R (vT (Array.mk [iI n1,vB true])) w1)):aA Tryz.prog 248 [(.pointer a),(.pointer b),(.slice c d e)] w R:=rv Tryz.func248 vx (by kernel_rfl) h
end Go.Proofs.YtndaepmjkbmjmaaGreatDoor
namespace Go.V
def ee (nl:List Bool) (vs:List (List Bool)):List Bool->List Int->List Bool
 | bs,[]=>bs
 | bs,s :: r=>if aN nl s.toNat then ee nl vs (de bs (dc (vs.getD s.toNat []))) r else de bs (dc (vs.getD s.toNat []))
def uy (nl:List Bool) (row:List Int):Bool:=row.all λs=>aN nl s.toNat
theorem Cd (nl:List Bool) (vs:List (List Bool)) (bs:List Bool):ee nl vs bs [] = bs:=rfl
theorem yN (nl:List Bool) (vs:List (List Bool)) (bs:List Bool) (s:Int) (r:List Int):ee nl vs bs (s :: r) = if aN nl s.toNat then ee nl vs (de bs (dc (vs.getD s.toNat []))) r else de bs (dc (vs.getD s.toNat [])):=rfl
theorem sU (nl:List Bool) (vs:List (List Bool)):∀ (row:List Int) (bs:List Bool),(ee nl vs bs row).length = bs.length
 | [],bs=>rfl
 | s :: r,bs=>by
  unfold ee
  split
  ·rw [sU nl vs r,bI]
  ·rw [bI]
theorem pA (nl:List Bool) (vs:List (List Bool)):∀ (row:List Int) (bs:List Bool) (k:Nat),aN bs k = true->aN (ee nl vs bs row) k = true
 | [],bs,k,h=>h
 | s :: r,bs,k,h=>by
  unfold ee
  have:aN (de bs (dc (vs.getD s.toNat []))) k = true:=by rw [dT,h]; rfl
  split
  ·exact pA nl vs r _ k this
  ·exact this
theorem yO (nl:List Bool) (vs:List (List Bool)):∀ (row:List Int) (bs:List Bool),aY bs<=aY (ee nl vs bs row)
 | [],bs=>Wr _
 | s :: r,bs=>by
  unfold ee
  split
  ·exact WC (nN _ _) (yO nl vs r _)
  ·exact nN _ _
end Go.V
namespace Go.Proofs.YtndaepmjkbmjmaaGreatDoor
open Go.V
section
variable {w:World} {L:List ay} {a an ao:Yg} {l c nl cn ol co ks:Nat} {p:Yg} {bs nulls:List Bool} {row:List Int} {os:List (Yg)} {vss:List (List Bool)} {gs:List Value}
theorem UA (h:St w (eF p bs :: L)) (hs:∀ h,aC L h->av h ⟨ks,0,none⟩ (gs ++ [.slice an nl cn,.slice ao ol co])) (hgs:gs.length = 5) (hn:∀ h,aC L h->a_ h nulls an nl) (ho:∀ h,aC L h->a_ h os ao ol) (hv:vss.length = os.length) (hno:nulls.length = os.length)
  (hq:∀ h,aC L h->∀ (i:Nat) q v,os[i]? = some q->vss[i]? = some v->nO h q v\/(q = p/\v = bs)) (ht:∀ h,aC L h->eM h)
  (hr:∀ h,aC L h->a_ h row a l) (hin:∀ s∈row,0<=s/\s.toNat < os.length) (hb:l<=4611686018427387904) :
  aA Tryz.prog yM [.pointer (some ⟨ks,0,none⟩),.pointer p,.slice a l c] w λv w'=>v = .tuple #[.int .i64 ((aY (ee nulls vss bs row):Int) - aY bs),.bool (uy nulls row)]/\St w' (eF p (ee nulls vss bs row) :: L):=by
 obtain ⟨h0,hl,_,h1⟩:=h.freeze
 have hs:=hs h0 hl
 have hn:=hn h0 hl
 have ho:=ho h0 hl
 have hq:=hq h0 hl
 have ht:eM h0:=ht h0 hl
 have hr:=hr h0 hl
 have hn1:=h.nO.le
 have done:∀ w' b,St w' (eF p b :: [has h0])->St w' (eF p b :: L):=λw' b h=>h.qV hl
 clear h hl
 have c5:∀ w',sub h0 (hp w')->w'.cell? ((⟨ks,0,none⟩ : Addr).add 5) = some (.slice an nl cn):=λw' s=>hs.cell s (j:=5) (by rw [Wm (by omega),hgs]; rfl)
 have c6:∀ w',sub h0 (hp w')->w'.cell? ((⟨ks,0,none⟩ : Addr).add 6) = some (.slice ao ol co):=λw' s=>hs.cell s (j:=6) (by rw [Wm (by omega),hgs]; rfl)
 refine vy ?_
 refine ⟨λn1 n2 w'=>∃ (j:Nat) (U:List Bool),n2 = j/\j<=l/\n1 = (aY U:Int) - aY bs/\aY bs<=aY U/\U.length = bs.length/\(∀ k,aN bs k = true->aN U k = true)/\ee nulls vss bs row = ee nulls vss U (row.drop j)/\uy nulls row = uy nulls (row.drop j)/\St w' [eF p U,has h0],λ_ n2 _=>l - n2.toNat,⟨0,bs,rfl,by omega,by omega,Wr _,rfl,λ_ h=>h,by simp,by simp,h1⟩,?_⟩
 clear h1
 rintro _ _ n2 w1 ⟨j,U,rfl,hj,rfl,hcU,hlU,hsub,e1,e2,h⟩
 have s1:sub h0 (hp w1):=(h.pick 2 [1]).has
 have k1:=fy U
 refine ae (λhlt=>?_) λhlt=>?_
 ·have hlt:j < l:=by have:=V7 hlt; omega
  obtain ⟨y,ad,hy1,hya,hy2⟩:=hr.cE hlt
  obtain ⟨y0,yl⟩:=hin y (V_ hy1)
  obtain ⟨q,ad2,hq1,hqa,hq2⟩:=ho.cE (i:=y.toNat) (by have:=ho.1; omega)
  obtain ⟨v,hv1⟩ : ∃ v,vss[y.toNat]? = some v:=⟨vss[y.toNat]'(by omega),Wa _⟩
  obtain ⟨z,ad3,hz1,hza,hz2⟩:=hn.cE (i:=y.toNat) (by have:=hn.1; omega)
  have hvd:vss.getD y.toNat [] = v:=by simp [List.getD,hv1]
  have hzd:aN nulls y.toNat = z:=by simp [aN,List.getD,hz1]
  have ed:row.drop j = y :: row.drop (j + 1):=by
   have:=WO (l:=row) (i:=j) (by rw [hr.1]; exact hlt)
   rw [this]; congr 1
   have:=V9.1 hy1; exact this.2
  refine aw hya hlt ⟨y,hy2 _ s1,_,_,_,c6 _ s1,?_⟩
  have ey:y = ((y.toNat:Nat):Int):=by omega
  rw [ey]
  refine aw hqa (by have:=ho.1; omega) ⟨q,hq2 _ s1,ah h λb2 w2 h2=>?_⟩
  have hq':=hq _ _ _ hq1 hv1
  obtain ⟨v',hr',he'⟩ : ∃ v',(∀ h,aC [aK b2 [.pointer q],has h0] h->nO h q v'\/(q = p/\v' = U))/\de U (dc v') = de U (dc v):=by
   rcases hq' with hr | ⟨rfl,rfl⟩
   ·exact ⟨v,λh hh=>.inl (hr.mono (kU (A:=has h0) (Ya _ (List.mem_singleton_self _)) hh |>.elim λh1 x=>x.2.trans x.1)),rfl⟩
   ·exact ⟨U,λh hh=>.inr ⟨rfl,rfl⟩,by rw [tJ λ_ h=>h,tJ hsub]⟩
  refine (Ko (vss:=[v']) (os:=[q]) (l:=1) (h2.pick 3 [1,0,2]) (λh hh=>?_) rfl (λh hh i q' w' hi hw=>?_) (λh hh=>?_) (by omega)).mono ?_
  ·obtain ⟨h1,_,_,s1,_,⟨e,he⟩,_⟩:=hh
   exact (fi (xs:=[q]) rfl (.inr ⟨_,rfl,oW ⟨e,he⟩⟩)).mono s1
  ·match i,hi,hw with
   | 0,hi,hw=>cases hi; cases hw; exact hr' h hh
   | i + 1,hi,_=>simp at hi
  ·exact eR.mono (kU (A:=has h0) (Ya _ (List.mem_singleton_self _)) hh |>.elim λh1 x=>x.2.trans x.1) ht
  rintro _ w3 ⟨rfl,h3⟩
  have eU:cF U [v'] = de U (dc v):=he'
  rw [eU] at h3 ⊢
  have h3:=h3.pick 3 [0,2]
  have s3:sub h0 (hp w3):=(h3.pick 2 [1]).has
  have k2:=nN U (dc v)
  have k3:=fy (de U (dc v))
  rw [bI] at k3
  rw [ed] at e1 e2
  rw [yN,hvd,hzd] at e1
  rw [show uy nulls (y :: row.drop (j + 1)) = (z && uy nulls (row.drop (j + 1))) from by unfold uy; rw [List.all_cons,hzd]] at e2
  refine ⟨_,rfl,⟨by omega,by omega⟩,_,_,_,c5 _ s3,?_⟩
  refine aw hza (by have:=hn.1; omega) ⟨z,hz2 _ s3,ae (λh4=>?_) λh4=>?_⟩
  ·have h4:z = false:=by simpa using h4
   subst h4
   simp only [XF,if_false] at e1
   refine ⟨?_,?_⟩
   ·rw [e1,e2,Bool.false_and,show (aY U:Int) - aY bs + ((aY (de U (dc v)):Int) - aY U) = (aY (de U (dc v)):Int) - aY bs from by omega]
   ·rw [e1]; exact done _ _ h3
  ·have h4:z = true:=by simpa using h4
   subst h4
   simp only [if_true] at e1
   rw [XL] at e2
   refine ⟨⟨by omega,by omega⟩,⟨j + 1,de U (dc v),by simp,by omega,by omega,by omega,by rw [bI]; exact hlU,λk hk=>by rw [dT,hsub k hk]; rfl,e1,e2,h3⟩,bw hlt⟩
 ·have hlt:j = l:=by have:=V8 hlt; omega
  subst hlt
  rw [Xl (by have:=hr.1; omega)] at e1 e2
  rw [Cd] at e1
  refine ⟨?_,?_⟩
  ·rw [e1,e2]; rfl
  ·rw [e1]; exact done _ _ h
end
end Go.Proofs.YtndaepmjkbmjmaaGreatDoor
namespace Go.V
inductive Af (g:af):Int->Prop
 | mk (p:aH):p∈g.prods->(∀ s∈p.right,Af g s)->Af g p.left
inductive MB (g:af):Int->Nat->Prop
 | tm (t:Nat):t < g.T->MB g (t:Int) t
 | pr (p:aH) (i:Nat) (s:Int) (t:Nat):p∈g.prods->p.right[i]? = some s->(∀ x∈p.right.take i,Af g x)->MB g s t->MB g p.left t
def De (g:af) (row:List Int):Prop:=∀ s∈row,Af g s
def qM (g:af) (row:List Int) (t:Nat):Prop:=∃ (i:Nat) (s:Int),row[i]? = some s/\(∀ x∈row.take i,Af g x)/\MB g s t
theorem xr {nl:List Bool} {row:List Int}:uy nl row = true↔∀ s∈row,aN nl s.toNat = true:=by
 unfold uy; rw [XH]
theorem sV (nl:List Bool) (vs:List (List Bool)):∀ (row:List Int) (bs:List Bool) (k:Nat),aN (ee nl vs bs row) k = true↔aN bs k = true\/(k < bs.length/\∃ (i:Nat) (s:Int),row[i]? = some s/\(∀ x∈row.take i,aN nl x.toNat = true)/\aN (vs.getD s.toNat []) k = true)
 | [],bs,k=>by rw [Cd]; simp
 | s :: r,bs,k=>by
  rw [yN]
  constructor
  ·intro h
   by_cases hz:aN nl s.toNat = true
   ·rw [Wn hz,sV nl vs r] at h
    rw [dT,bI,W9,Wo,Wk] at h
    rcases h with (h | ⟨h1,h2⟩) | ⟨h1,i,y,h2,h3,h4⟩
    ·exact .inl h
    ·exact .inr ⟨h1,0,s,rfl,by simp,h2⟩
    ·refine .inr ⟨h1,i + 1,y,h2,?_,h4⟩
     intro x hx
     rw [List.take_succ_cons] at hx
     rcases Wp.1 hx with rfl | hx
     ·exact hz
     ·exact h3 x hx
   ·rw [Wg hz,dT,W9,Wo,Wk] at h
    rcases h with h | ⟨h1,h2⟩
    ·exact .inl h
    ·exact .inr ⟨h1,0,s,rfl,by simp,h2⟩
  ·intro h
   have hu:(aN bs k = true\/(k < bs.length/\aN (vs.getD s.toNat []) k = true))->aN (de bs (dc (vs.getD s.toNat []))) k = true:=λh=>by
    rw [dT,W9,Wo,Wk]; exact h
   by_cases hz:aN nl s.toNat = true
   ·rw [Wn hz,sV nl vs r,bI]
    rcases h with h | ⟨h1,i,y,h2,h3,h4⟩
    ·exact .inl (hu (.inl h))
    ·match i,h2,h3 with
     | 0,h2,_=>cases h2; exact .inl (hu (.inr ⟨h1,h4⟩))
     | i + 1,h2,h3=>exact .inr ⟨h1,i,y,h2,λx hx=>h3 x (by rw [List.take_succ_cons]; exact Ya _ hx),h4⟩
   ·rw [Wg hz]
    rcases h with h | ⟨h1,i,y,h2,h3,h4⟩
    ·exact hu (.inl h)
    ·match i,h2,h3 with
     | 0,h2,_=>cases h2; exact hu (.inr ⟨h1,h4⟩)
     | i + 1,h2,h3=>exact absurd (h3 s (by rw [List.take_succ_cons]; exact List.mem_cons_self)) hz
def PS (g:af):Prop:=∀ p∈g.prods,((g.T:Int)<=p.left/\p.left < g.T + g.N)/\∀ s∈p.right,0<=s/\s < (g.T:Int) + g.N
structure Df (g:af) (nl:List Bool) (vs:List (List Bool)):Prop where
 ln:nl.length = g.T + g.N
 lv:vs.length = g.T + g.N
 le:∀ v∈vs,v.length = g.T
 sn:∀ i,aN nl i = true->Af g (i:Int)
 sv:∀ i t,aN (vs.getD i []) t = true->MB g (i:Int) t
 tm:∀ t,t < g.T->aN (vs.getD t []) t = true
def Q4 (nl:List Bool) (vs:List (List Bool)) (p:aH):Prop:=(uy nl p.right = true->aN nl p.left.toNat = true)/\ee nl vs (vs.getD p.left.toNat []) p.right = vs.getD p.left.toNat []
theorem bS {s:Int} (h:0<=s):((s.toNat:Nat):Int) = s:=by omega
theorem Df.row {g:af} {nl:List Bool} {vs:List (List Bool)} (m:Df g nl vs) {row:List Int} (hr:∀ s∈row,0<=s/\s < (g.T:Int) + g.N):(uy nl row = true->De g row)/\∀ bs t,aN (ee nl vs bs row) t = true->aN bs t = true\/qM g row t:=by
 refine ⟨λh s hs=>?_,λbs t h=>?_⟩
 ·have:=m.sn _ (xr.1 h s hs)
  rwa [bS (hr s hs).1] at this
 ·rcases (sV nl vs row bs t).1 h with h | ⟨_,i,s,h1,h2,h3⟩
  ·exact .inl h
  ·refine .inr ⟨i,s,h1,λx hx=>?_,?_⟩
   ·have:=m.sn _ (h2 x hx)
    rwa [bS (hr x (Yb hx)).1] at this
   ·have:=m.sv _ _ h3
    rwa [bS (hr s (V_ h1)).1] at this
theorem Af.left {g:af} (hg:PS g) {s:Int} (h:Af g s):(g.T:Int)<=s/\s < g.T + g.N:=by
 cases h with | mk p hp _=>exact (hg p hp).1
theorem MB.lt {g:af} {s:Int} {t:Nat} (h:MB g s t):t < g.T:=by
 induction h with
 | tm t h=>exact h
 | pr p i s t _ _ _ _ ih=>exact ih
structure Jk (g:af) (nl:List Bool) (vs:List (List Bool)):Prop where
 ln:nl.length = g.T + g.N
 lv:vs.length = g.T + g.N
 le:∀ v∈vs,v.length = g.T
 nn:∀ i,aN nl i = true↔Af g (i:Int)
 nv:∀ i t,aN (vs.getD i []) t = true↔MB g (i:Int) t
theorem Df.Hr {g:af} {nl:List Bool} {vs:List (List Bool)} (m:Df g nl vs) {i:Nat} (hi:i < g.T + g.N):(vs.getD i []).length = g.T:=by
 have h:vs[i]? = some (vs[i]'(by rw [m.lv]; exact hi)):=Wa _
 rw [List.getD,h]
 exact m.le _ (V_ h)
theorem Df.all {g:af} {nl:List Bool} {vs:List (List Bool)} (hg:PS g) (m:Df g nl vs) (hc:∀ p∈g.prods,Q4 nl vs p):Jk g nl vs:=by
 have cn:∀ s,Af g s->aN nl s.toNat = true:=λs h=>by
  induction h with
  | mk p hp _ ih=>exact (hc p hp).1 (xr.2 ih)
 have cv:∀ s t,MB g s t->aN (vs.getD s.toNat []) t = true:=λs t h=>by
  induction h with
  | tm t h=>exact m.tm t h
  | pr p i s t hp hi hx hs ih =>
   have hl:=(hg p hp).1
   rw [<- (hc p hp).2,sV]
   exact .inr ⟨by rw [m.Hr (by omega)]; exact hs.lt,i,s,hi,λx hx'=>cn x (hx x hx'),ih⟩
 exact ⟨m.ln,m.lv,m.le,λi=>⟨m.sn i,λh=>cn _ h⟩,λi t=>⟨m.sv i t,λh=>cv _ _ h⟩⟩
theorem Jk.row {g:af} {nl:List Bool} {vs:List (List Bool)} (m:Jk g nl vs) {row:List Int} (hr:∀ s∈row,0<=s/\s < (g.T:Int) + g.N):(uy nl row = true↔De g row)/\∀ bs t,aN (ee nl vs bs row) t = true↔aN bs t = true\/(t < bs.length/\qM g row t):=by
 refine ⟨?_,λbs t=>?_⟩
 ·rw [xr]
  refine forall_congr' λs=>⟨λh hs=>?_,λh hs=>?_⟩
  ·have:=(m.nn _).1 (h hs); rwa [bS (hr s hs).1] at this
  ·exact (m.nn _).2 (by rw [bS (hr s hs).1]; exact h hs)
 ·rw [sV]
  refine or_congr Iff.rfl (and_congr Iff.rfl (exists_congr λi=>exists_congr λs=>?_))
  refine ⟨λ⟨h1,h2,h3⟩=>⟨h1,λx hx=>?_,?_⟩,λ⟨h1,h2,h3⟩=>⟨h1,λx hx=>?_,?_⟩⟩
  ·have:=(m.nn _).1 (h2 x hx); rwa [bS (hr x (Yb hx)).1] at this
  ·have:=(m.nv _ _).1 h3; rwa [bS (hr s (V_ h1)).1] at this
  ·exact (m.nn _).2 (by rw [bS (hr x (Yb hx)).1]; exact h2 x hx)
  ·exact (m.nv _ _).2 (by rw [bS (hr s (V_ h1)).1]; exact h3)
def Ce (v:List Bool):Nat:=v.length - aY v
def l7 (nl:List Bool) (vs:List (List Bool)):Nat:=Ce nl + (vs.map Ce).sum
theorem KI:∀ {l:List Nat} {k x y:Nat},l[k]? = some x->(l.set k y).sum + x = l.sum + y
 | [],k,x,y,h=>by simp at h
 | z :: l,0,x,y,h=>by simp at h; subst h; simp; omega
 | z :: l,k + 1,x,y,h=>by
  have:=KI (l:=l) (k:=k) (x:=x) (y:=y) (by simpa using h)
  simp; omega
theorem Hs {nl:List Bool} {vs:List (List Bool)} {k:Nat} {v v' : List Bool} (h:vs[k]? = some v) (hl:v'.length = v.length) (hc:aY v<=aY v'):l7 nl (vs.set k v') + (aY v' - aY v) = l7 nl vs:=by
 have h1:=KI (l:=vs.map Ce) (k:=k) (x:=Ce v) (y:=Ce v') (by rw [Wc,h]; rfl)
 have h2:=fy v
 have h3:=fy v'
 unfold l7
 rw [Xd]
 unfold Ce at *
 omega
end Go.V
namespace Go.V
theorem exists_least {P:Nat->Prop} (h:∃ m,P m):∃ m,P m/\∀ k,P k->m<=k:=by
 obtain ⟨m,hm⟩:=h
 induction m using Nat.strongRecOn with
 | _ m ih =>
  by_cases hl:∃ k,k < m/\P k
  ·obtain ⟨k,hk,hp⟩:=hl
   exact ih k hk hp
  ·exact ⟨m,hm,λk hk=>XI λhlt=>hl ⟨k,hlt,hk⟩⟩
theorem Cf {α : Type} (P:α->Nat->Prop):∃ μ : α->Nat,(∀ x m,P x m->μ x<=m)/\∀ x,(∃ m,P x m)->P x (μ x):=by
 have h:∀ x,∃ m,(∀ k,P x k->m<=k)/\((∃ k,P x k)->P x m):=λx=>by
  by_cases hx:∃ k,P x k
  ·obtain ⟨m,h1,h2⟩:=exists_least hx
   exact ⟨m,h2,λ_=>h1⟩
  ·exact ⟨0,λk hk=>absurd ⟨k,hk⟩ hx,λh=>absurd h hx⟩
 exact ⟨λx=>(h x).choose,λx=>(h x).choose_spec.1,λx=>(h x).choose_spec.2⟩
theorem yP {m m' : Nat->Bool} (h:∀ k,m k = true->m' k = true):∀ n,j9 n m<=j9 n m'/\(j9 n m = j9 n m'->∀ k,k < n->m k = m' k)
 | 0=>⟨Wr _,λ_ k hk=>by omega⟩
 | n + 1=>by
  obtain ⟨h1,h2⟩:=yP h n
  rw [rW,rW]
  have h3:=h n
  cases e:m n <;> cases e' : m' n
  ·refine ⟨by simpa using h1,λhe k hk=>?_⟩
   by_cases ek:k = n
   ·subst ek; rw [e,e']
   ·exact h2 (by simpa using he) k (by omega)
  ·simp only [XF,if_false,if_true]
   exact ⟨by omega,λhe=>by omega⟩
  ·rw [e,e'] at h3; simp at h3
  ·refine ⟨by simpa using h1,λhe k hk=>?_⟩
   by_cases ek:k = n
   ·subst ek; rw [e,e']
   ·exact h2 (by simpa using he) k (by omega)
theorem Cg {bs cs:List Bool} (hl:cs.length = bs.length) (hs:∀ k,aN bs k = true->aN cs k = true) (hc:aY cs = aY bs):cs = bs:=by
 refine gE hl λk=>?_
 by_cases hk:k < bs.length
 ·unfold aY at hc
  rw [hl] at hc
  exact ((yP hs bs.length).2 hc.symm k hk).symm
 ·rw [oY (by omega),oY (by omega)]
theorem og {nl:List Bool} {k:Nat} (hk:k < nl.length) (j:Nat):aN (nl.set k true) j = (aN nl j || j == k):=by
 unfold aN
 rw [Wb,Wb,Xf]
 by_cases e:k = j
 ·subst e; simp [hk]
 ·have:¬ j = k:=λh=>e h.symm
  simp [e,this]
theorem KJ {nl:List Bool} {k:Nat} (hk:k < nl.length) (hf:aN nl k = false):Ce (nl.set k true) + 1 = Ce nl:=by
 have h1:aY (nl.set k true) = aY nl + 1:=by
  unfold aY
  rw [WE,<- Ki hk hf]
  exact DM λj _=>og hk j
 have h2:=fy (nl.set k true)
 rw [WE] at h2
 unfold Ce
 rw [WE]
 omega
theorem D7 {vs:List (List Bool)} {k:Nat} (hk:k < vs.length) (v:List Bool) (j:Nat):(vs.set k v).getD j [] = if j = k then v else vs.getD j []:=by
 rw [Wb,Wb,Xf]
 by_cases e:k = j
 ·subst e; simp [hk]
 ·have:¬ j = k:=λh=>e h.symm
  simp [e,this]
theorem Df.lay {g:af} (hg:PS g) {nl:List Bool} {vs:List (List Bool)} (m:Df g nl vs) {p:aH} (hp:p∈g.prods):Df g nl (vs.set p.left.toNat (ee nl vs (vs.getD p.left.toNat []) p.right)):=by
 obtain ⟨hl,hr⟩:=hg p hp
 have hk:p.left.toNat < g.T + g.N:=by omega
 have hkv:p.left.toNat < vs.length:=by rw [m.lv]; exact hk
 refine ⟨m.ln,by rw [WE]; exact m.lv,λv hv=>?_,m.sn,λi t h=>?_,λt ht=>?_⟩
 ·rcases XO hv with hv | rfl
  ·exact m.le v hv
  ·rw [sU]; exact m.Hr hk
 ·rw [D7 hkv] at h
  split at h
  ·rename_i e
   subst e
   rw [bS (by omega)]
   rcases (m.row hr).2 _ _ h with h | ⟨i,s,h1,h2,h3⟩
   ·have:=m.sv _ _ h; rwa [bS (by omega)] at this
   ·exact .pr p i s t hp h1 h2 h3
  ·exact m.sv _ _ h
 ·rw [D7 hkv]
  split
  ·omega
  ·exact m.tm t ht
theorem Df.Vk {g:af} (hg:PS g) {nl:List Bool} {vs:List (List Bool)} (m:Df g nl vs) {p:aH} (hp:p∈g.prods) (hn:De g p.right):Df g (nl.set p.left.toNat true) vs:=by
 obtain ⟨hl,hr⟩:=hg p hp
 have hk:p.left.toNat < nl.length:=by rw [m.ln]; omega
 refine ⟨by rw [WE]; exact m.ln,m.lv,m.le,λi h=>?_,m.sv,m.tm⟩
 rw [og hk,W9,X2] at h
 rcases h with h | rfl
 ·exact m.sn i h
 ·rw [bS (by omega)]; exact .mk p hp hn
theorem Q5 {g:af} {nl:List Bool} {vs:List (List Bool)} (m:Df g nl vs):l7 nl vs<=(g.T + g.N) + (g.T + g.N) * g.T:=by
 unfold l7
 have h1:Ce nl<=g.T + g.N:=by unfold Ce; rw [m.ln]; omega
 have h2:∀ l:List (List Bool),(∀ v∈l,v.length = g.T)->(l.map Ce).sum<=l.length * g.T:=λl=>by
  induction l with
  | nil=>intro _; simp
  | cons v l ih =>
   intro h
   have h3:=ih λu hu=>h u (Ya _ hu)
   have h4:Ce v<=g.T:=by unfold Ce; rw [h v List.mem_cons_self]; omega
   simp only [WV,Yc,WZ,Xz]
   omega
 have h3:=h2 vs m.le
 rw [m.lv] at h3
 omega
theorem Q6 {g:af} (h:gH g):PS g/\g.T<=65/\g.N<=65/\0 < g.N/\0 < g.T/\g.prods.length<=97:=by
 have hT:g.T = g.terms.length:=rfl
 have hN:g.N = g.nons.length:=rfl
 rcases h with ⟨s,p,_⟩ | ⟨h0,s,p,q,hq,q1,q2,q3⟩
 ·have h2:=wT.1 s
  have t0:0 < g.terms.length:=(V9.1 s.1).1
  refine ⟨λr hr=>?_,by omega,by omega,by omega,by omega,by have:=p.2.1; omega⟩
  have:=p.2.2.1 r hr
  exact ⟨⟨by have:=this.1.1; omega,this.1.2.1⟩,λy hy=>by have:=this.2 y hy; unfold eH at this; omega⟩
 ·have h2:=wT.1 s
  have t0:0 < g.terms.length:=(V9.1 s.1).1
  refine ⟨λr hr=>?_,by omega,by omega,by omega,by omega,by have:=p.2.1; omega⟩
  have hd:r = q\/r∈g.prods.drop 1:=by
   cases hg:g.prods with
   | nil=>rw [hg] at hr; cases hr
   | cons a l =>
    rw [hg] at hr hq
    cases hq
    rcases Wp.1 hr with h | h
    ·exact .inl h
    ·exact .inr h
  rcases hd with rfl | hd
  ·refine ⟨by omega,λy hy=>?_⟩
   rw [q2,Wy] at hy
   subst hy
   have:=p.2.2.2.2; omega
  ·have:=p.2.2.1 r hd
   exact ⟨⟨by have:=this.1.1; omega,this.1.2.1⟩,λy hy=>by have:=this.2 y hy; unfold eH at this; omega⟩
end Go.V
namespace Go.V
theorem AH {α : Sort _} (a:α):∃ q,q = a:=⟨a,rfl⟩
def FC (x:GA) (k14 n:Nat) (o:Yg) (j c:Nat):List Value:=[.slice x.ta x.tl x.tc,.slice x.na x.nl x.nc,.slice x.la x.ll x.lc,.int .i64 x.s,.slice x.pa x.pl x.pc,.slice (some ⟨k14,0,none⟩) n n,.slice o j c]
def ly (T j:Nat):List (List Bool):=(List.range j).map λ(i:Nat)=>C5 (T:Int) [(i:Int)]
theorem Jl (T j:Nat):ly T (j + 1) = ly T j ++ [C5 (T:Int) [(j:Int)]]:=by simp [ly,Xi]
theorem D8 (T j:Nat):(ly T j).length = j:=by simp [ly]
theorem Jm {T i:Nat} (hT:T<=65) (t:Nat):(C5 (T:Int) [(i:Int)]).length = T/\(aN (C5 (T:Int) [(i:Int)]) t = true↔t = i/\t < T):=by
 have hN:H_ (T:Int) = T:=by unfold H_; split <;> split at * <;> omega
 unfold C5
 refine ⟨by rw [bI,X3,hN],?_⟩
 rw [gF,X3,hN,fL,kz,Bool.false_or]
 simp only [Wo,Wk,XD,Wy]
 omega
theorem On {g:af} (hT:g.T<=65):Df g (List.replicate (g.T + g.N) false) (ly g.T (g.T + g.N)):=by
 have hget:∀ i,aN ((ly g.T (g.T + g.N)).getD i []) = if i < g.T + g.N then aN (C5 (g.T:Int) [(i:Int)]) else aN []:=λi=>by
  unfold ly
  rw [Wb,Wc]
  by_cases h:i < g.T + g.N
  ·rw [XA h,Wn h]; rfl
  ·rw [Wt (by simp; omega),Wg h]; rfl
 refine ⟨by simp,D8 _ _,λv hv=>?_,λi h=>?_,λi t h=>?_,λt ht=>?_⟩
 ·obtain ⟨i,_,rfl⟩:=Wu.1 hv
  exact (Jm hT 0).1
 ·rw [kz] at h; cases h
 ·rw [hget] at h
  split at h
  ·obtain ⟨rfl,h'⟩:=((Jm hT t).2).1 h
   exact .tm t h'
  ·simp [aN] at h
 ·rw [hget,Wn (by omega)]
  exact (Jm hT t).2.2 ⟨rfl,ht⟩
end Go.V
namespace Go.Proofs.YtndaepmjkbmjmaaGreatDoor
open Go.V
section
variable {w:World} {L:List ay} {g:af} {x:GA}
theorem Vl (hg:gR (hp w) g x) (hb:iE g) (he:gH g) (ht:eM (hp w)):aA Tryz.prog Jj [.agg ⟨x.cells⟩] w λv w'=>∃ (b k14:Nat) (o:Yg) (c:Nat) (nl:List Bool) (ps:List Nat) (vs:List (List Bool)),v = .pointer (some ⟨b,0,none⟩)/\Jk g nl vs/\ps.length = vs.length /\
  St w' (aK b (FC x k14 (g.T + g.N) o ps.length c) :: aK k14 (bv nl) :: own 1 o ps.length c (pv (ps.map bk)) :: aG (jc ps vs) :: all w):=by
 refine Fv ?_
 refine cW hg λk1 w1 gw hg B=>?_
 obtain ⟨iG,bT,bN,pN,pT,bP⟩:=Q6 he
 have tl:g.T = x.tl:=hg.t.1
 have nl:g.N = x.nl:=hg.n.1
 have pl:=hg.p.1
 have ht:=eR.mono gw ht
 refine ⟨_,_,_,B.c0 (sub.refl _),_,_,_,B.c1 (sub.refl _),⟨by omega,by omega⟩,λw2 hd=>?_⟩
 have e2:hp w2 = hp w1:=dA hd
 have gs:sub (hp w) (hp w1):=gw
 generalize hH:hp w1 = H at *
 have eN:(x.tl:Int) + (x.nl:Int) = ((g.T + g.N:Nat):Int):=by rw [tl,nl]; omega
 rw [eN]
 have hTe:(x.tl:Int) = (g.T:Int):=by rw [tl]
 rw [Ws,db]
 have h2:St w2 [has H]:=by have:=St.all w2; unfold V.all at this; rwa [e2] at this
 refine ⟨λw=>sub H (hp w),e2 ▸ sub.refl _,_,_,_,_,_,_,_,_,_,_,_,_,_,λw s=>B.row s,⟨by omega,rfl,by omega⟩,ah h2 λk14 w4 h4=>⟨aU 1 h4.l,ah h4 λk15 w5 h5=>⟨aU 2 h5.l,?_⟩⟩⟩
 clear h2 h4
 have bvr:List.replicate (g.T + g.N) (Value.bool false) = bv (List.replicate (g.T + g.N) false):=by simp [bv]
 rw [bvr] at h5
 refine ⟨λn w'=>∃ (j:Nat) (o:Yg) (c:Nat) (ps:List Nat),n = j/\j<=g.T + g.N/\ps.length = j/\St w' [aK k15 (FC x k14 (g.T + g.N) o j c),aK k14 (bv (List.replicate (g.T + g.N) false)),own 1 o j c (pv (ps.map bk)),aG (jc ps (ly g.T j)),has H],λn _=>g.T + g.N - n.toNat,⟨0,none,0,[],rfl,by omega,rfl,?_⟩,?_⟩
 ·have h6:=az 1 h5
  have h7:St w5 (aG (jc [] (ly g.T 0)) :: _):=St.flat.2 (show St w5 ([] ++ _) from h6)
  exact h7.pick 5 [2,3,1,0,4]
 clear h5
 rintro _ n2 w6 ⟨j,o,c,ps,rfl,hj,hps,h⟩
 refine ae (λhlt=>?_) λhlt=>?_
 ·have hlt:j < g.T + g.N:=by have:=V7 hlt; omega
  intro w7 hd
  have h:=h.drawn hd
  have I:∀ {w:World} {cs},av (hp w) ⟨k15,0,none⟩ cs->sub H (hp w)->av (hp w) ⟨k15,0,none⟩ cs/\sub H (hp w):=λa b=>⟨a,b⟩
  refine ⟨λw=>av (hp w) ⟨k15,0,none⟩ (FC x k14 (g.T + g.N) o j c)/\sub H (hp w),I (ai 0 h.l) (aU 4 h.l),_,_,_,λw h=>h.1.cell (sub.refl _) (j:=6) rfl,_,_,_,λw h=>B.c0 h.2,ah h λk20 w10 h=>⟨I (ai 1 h.l) (aU 5 h.l),?_⟩⟩
  refine (SS (xs:=[(j:Int)]) (l:=1) (x.tl:Int) (dS rfl (.inr ⟨_,rfl,ai 0 h.l⟩)) (by omega)).mono ?_
  rintro _ w11 ⟨px,rfl,h1⟩
  have h:=h1.qV h
  refine ⟨_,rfl,I (ai 2 h.l) (aU 6 h.l),ah h λk21 w12 h=>⟨I (ai 3 h.l) (aU 7 h.l),?_⟩⟩
  refine (aP aQ (rfl:aj Ty _ = .slice _) (rfl:aj Ty _ = .slice _) rfl rfl rfl (h.pick 8 [0,5,1,2,3,4,6,7]) rfl (by simp [aV]) (by show (_ + 1) * 8<=_; omega) (by omega)).mono ?_
  rintro _ w13 ⟨o',c',rfl,h⟩
  refine ⟨_,_,_,rfl,I (ai 4 h.l) (aU 7 h.l),?_⟩
  show st1 w13 ((⟨k15,0,none⟩ : Addr).add 6) _ _
  rw [aL]
  refine bh (h.pick 8 [4,0,2,5,6,7]) (by simp [FC]) λw14 h=>⟨⟨by omega,by omega⟩,⟨j + 1,o',c',ps ++ [px],by simp,by omega,by simp [hps],?_⟩,bw hlt⟩
  have h:St w14 [aK k15 (FC x k14 (g.T + g.N) o' (j + 1) c'),own 1 o' (j + 1) c' (pv (ps.map bk) ++ [.pointer (some ⟨px,0,none⟩)]),eF (some ⟨px,0,none⟩) (C5 (x.tl:Int) [(j:Int)]),aK k14 (bv (List.replicate (g.T + g.N) false)),aG (jc ps (ly g.T j)),has H]:=h
  have e1:pv (ps.map bk) ++ [.pointer (some ⟨px,0,none⟩)] = pv ((ps ++ [px]).map bk):=by simp [pv,bk]
  have lSv:(jc ps (ly g.T j) ++ [eF (some ⟨px,0,none⟩) (C5 (x.tl:Int) [(j:Int)])]) = jc (ps ++ [px]) (ly g.T (j + 1)):=by
   rw [Jl,hTe]; unfold jc; rw [List.zipWith_append (by rw [D8]; exact hps)]; rfl
  rw [e1] at h
  have h:=St.snoc (A:=eF (some ⟨px,0,none⟩) (C5 (x.tl:Int) [(j:Int)])) (M:=jc ps (ly g.T j)) (h.pick 6 [2,4,0,1,3,5])
  rw [lSv] at h
  exact h.pick 5 [1,3,2,0,4]
 have hlt:j = g.T + g.N:=by have:=V8 hlt; omega
 subst hlt
 obtain ⟨Q,hQ⟩:=AH (λ(n:Int) (w:World) (m:Nat)=>∃ (nl:List Bool) (vs:List (List Bool)),Df g nl vs/\0<=n/\(m:Int) = l7 nl vs + (if 0 < n then 1 else 0)/\(n = 0->∀ p∈g.prods,Q4 nl vs p) /\
  St w [aK k15 (FC x k14 (g.T + g.N) o (g.T + g.N) c),aK k14 (bv nl),own 1 o (g.T + g.N) c (pv (ps.map bk)),aG (jc ps vs),has H])
 obtain ⟨μ,mu1,mu2⟩:=Cf (λ(y:Int × World) m=>Q y.1 y.2 m)
 refine ⟨λn w'=>∃ m,Q n w' m,λn w=>μ (n,w),⟨l7 (List.replicate (g.T + g.N) false) (ly g.T (g.T + g.N)) + 1,?_⟩,?_⟩
 ·rw [hQ]
  exact ⟨_,_,On bT,by decide,by simp,λh=>absurd h (by decide),h⟩
 clear h
 intro _ n3 w15 hP
 have hP:=mu2 (n3,w15) hP
 dsimp only at hP
 generalize hμ : μ (n3,w15) = μ0 at *
 rw [hQ] at hP
 obtain ⟨nl0,vs0,mk0,hn3,hmu,hcl,h⟩:=hP
 refine ae (λhpos=>?_) λhpos=>?_
 rotate_left
 ·have hpos:=V8 hpos
  have hcl:=hcl (by omega)
  refine ⟨k15,k14,o,c,nl0,ps,vs0,rfl,mk0.all iG hcl,by rw [hps,mk0.lv],?_⟩
  rw [hps]
  exact St.on (N:=[_,_,_,_]) h (bD gs)
 have hpos:=V7 hpos
 rw [Wn hpos] at hmu
 refine ⟨_,_,_,B.c4 (aU 4 h.l),λn4 n5 w'=>∃ (j:Nat) (nl:List Bool) (vs:List (List Bool)),n5 = j/\j<=x.pl/\0<=n4/\n4 + l7 nl vs = l7 nl0 vs0/\Df g nl vs/\(n4 = 0->∀ p∈g.prods.take j,Q4 nl vs p)/\St w' [aK k15 (FC x k14 (g.T + g.N) o (g.T + g.N) c),aK k14 (bv nl),own 1 o (g.T + g.N) c (pv (ps.map bk)),aG (jc ps vs),has H],λ_ n5 _=>x.pl - n5.toNat,⟨0,nl0,vs0,rfl,by omega,by omega,by omega,mk0,by simp,h⟩,?_⟩
 clear h
 rintro _ n4 n5 w16 ⟨j,nl,vs,rfl,hj,hn4,hm4,mk,hcl4,h⟩
 refine ae (λhlt=>?_) λhlt=>?_
 rotate_left
 ·have hlt:j = x.pl:=by have:=V8 hlt; omega
  subst hlt
  rw [Wq (by omega)] at hcl4
  have key:Q n4 w16 (l7 nl vs + (if 0 < n4 then 1 else 0)):=by
   rw [hQ]; exact ⟨nl,vs,mk,hn4,by split <;> simp,hcl4,h⟩
  refine ⟨⟨_,key⟩,?_⟩
  have:=mu1 (n4,w16) _ key
  dsimp only
  rw [hμ]
  split at this <;> omega
 have hlt:j < x.pl:=by have:=V7 hlt; omega
 obtain ⟨p,ad,pvs,hp1,hpa,hp2,a,l,c3,rfl,hlc,hp3⟩:=hg.p.get hlt
 have hpm:=V_ hp1
 obtain ⟨hpl,hpr⟩:=iG p hpm
 have et:g.prods.take (j + 1) = g.prods.take j ++ [p]:=by rw [Wf,hp1]; rfl
 refine au hpa hlt ⟨_,_,_,_,_,hp2.at (aU 4 h.l) rfl,ah h λk28 w17 h=>bx h rfl (by intro v hv; simp at hv; rcases hv with rfl | rfl | rfl <;> rfl) λw18 h=>?_⟩
 intro w19 hd
 have h:=h.drawn hd
 obtain ⟨k,hk⟩ : ∃ k:Nat,p.left = k:=⟨p.left.toNat,by omega⟩
 rw [hk] at h
 have hkt:p.left.toNat = k:=by omega
 have hkN:k < g.T + g.N:=by omega
 obtain ⟨px,hpx⟩ : ∃ px,ps[k]? = some px:=⟨ps[k]'(by omega),Wa _⟩
 obtain ⟨v,hv⟩ : ∃ v,vs[k]? = some v:=⟨vs[k]'(by rw [mk.lv]; exact hkN),Wa _⟩
 have hvd:vs.getD k [] = v:=by rw [Wb,hv]; rfl
 have hpb:(ps.map bk)[k]? = some (bk px):=by rw [Wc,hpx]; rfl
 have rp:a_ (hp w19) (ps.map bk) o (g.T + g.N):=SV 3 h.l rfl rfl (by simp [hps])
 obtain ⟨q,ad2,hq1,hqa,hq2⟩:=rp.cE hkN
 rw [hpb] at hq1; cases hq1
 refine ⟨λw=>av (hp w) ⟨k15,0,none⟩ (FC x k14 (g.T + g.N) o (g.T + g.N) c)/\av (hp w) ⟨k28,0,none⟩ [.int .i64 (k:Int),.slice a l c3,.int .i64 p.level]/\a_ (hp w) (ps.map bk) o (g.T + g.N),⟨ai 1 h.l,ai 0 h.l,rp⟩,_,_,_,λw h=>h.1.cell (sub.refl _) (j:=6) rfl,_,λw h=>h.2.1.cell0 (sub.refl _),?_⟩
 refine aw hqa hkN ⟨bk px,λw h=>?_,_,_,_,λw h=>h.2.1.cell (sub.refl _) (j:=1) rfl,?_⟩
 ·obtain ⟨q',ad',e1,e2,e3⟩:=h.2.2.cE hkN
  rw [hpb] at e1; cases e1
  rw [hqa] at e2; cases e2
  exact e3 _ (sub.refl _)
 have gS:(jc ps vs)[k]? = some (eF (bk px) v):=by unfold jc; rw [XE,hpx,hv]
 have Ey:∀ v',(jc ps vs).set k (eF (bk px) v') = jc ps (vs.set k v'):=λv'=>Kp (λp v=>eF (bk p) v) hpx
 have h:=St.out (h.pick 6 [4,0,1,2,3,5]) gS
 refine (UA (nulls:=nl) (os:=ps.map bk) (vss:=vs) (row:=p.right) (gs:=x.cells) h (λh hh=>ai 2 hh) rfl (λh hh=>kS mk.ln (.inr ⟨_,rfl,ai 3 hh⟩)) (λh hh=>SV 4 hh rfl rfl (by simp [hps])) (by simp [hps,mk.lv]) (by simp [hps,mk.ln]) (λh hh i q v' hi hv'=>?_) (λh hh=>eR.mono (aU 5 hh) ht) (λh hh=>hp3.mono (aU 5 hh)) (λs hs=>⟨(hpr s hs).1,?_⟩) ?_).mono ?_
 ·rw [Wc] at hi
  cases hpi:ps[i]? with
  | none=>rw [hpi] at hi; cases hi
  | some pi =>
   rw [hpi] at hi; cases hi
   by_cases ek:i = k
   ·subst ek
    rw [hpx] at hpi; cases hpi
    rw [hv] at hv'; cases hv'
    exact .inr ⟨rfl,rfl⟩
   ·exact .inl (Vf 0 hh hpi hv' ek)
 ·have:=(hpr s hs).2; simp [hps]; omega
 ·have:=hp3.1; have:=hb.2.2.2.2.2.2 p hpm; omega
 rintro _ w24 ⟨rfl,h⟩
 have mk':=mk.lay iG hpm
 rw [hkt,hvd] at mk'
 have hv'l:(ee nl vs v p.right).length = v.length:=sU _ _ _ _
 have hcv:=yO nl vs p.right v
 have hms:=Hs (nl:=nl) hv hv'l hcv
 have hsb:=pA nl vs p.right v
 have hml:=Q5 mk0
 have hmb:(g.T + g.N) + (g.T + g.N) * g.T<=100000:=by
  have:=XT (show g.T + g.N<=130 by omega) bT; omega
 have hstay:(uy nl p.right = true->aN nl k = true)->n4 + ((aY (ee nl vs v p.right):Int) - aY v) = 0->∀ r∈g.prods.take (j + 1),Q4 nl (vs.set k (ee nl vs v p.right)) r:=λhnn h0 r hr=>by
  have e0:ee nl vs v p.right = v:=Cg hv'l hsb (by omega)
  have e1:vs.set k v = vs:=by
   apply W8
   intro i
   rw [Xf]
   split
   ·rename_i e; subst e; rw [hv]; simp; rw [mk.lv]; exact hkN
   ·rfl
  rw [e0,e1]
  rw [et] at hr
  rcases Wd.1 hr with hr | hr
  ·exact hcl4 (by omega) r hr
  ·simp at hr; subst hr
   unfold Q4
   rw [hkt,hvd]
   exact ⟨hnn,e0⟩
 have h:=St.back h gS
 rw [Ey] at h
 generalize ee nl vs v p.right = v' at *
 refine ⟨_,_,rfl,⟨ai 2 h.l,ai 1 h.l,SV 4 h.l rfl rfl (by simp [hps])⟩,⟨by omega,by omega⟩,λw25 hd=>?_⟩
 have h:=h.drawn hd
 have stay:∀ {w'},St w' [aG (jc ps (vs.set k v')),aK k28 [.int .i64 (k:Int),.slice a l c3,.int .i64 p.level],aK k15 (FC x k14 (g.T + g.N) o (g.T + g.N) c),aK k14 (bv nl),own 1 o (g.T + g.N) c (pv (ps.map bk)),has H]->(uy nl p.right = true->aN nl k = true)->ax ((j:Int) + 1)/\(∃ (j' : Nat) (nl:List Bool) (vs:List (List Bool)),(j:Int) + 1 = j'/\j'<=x.pl/\0<=n4 + ((aY v' : Int) - aY v)/\n4 + ((aY v' : Int) - aY v) + l7 nl vs = l7 nl0 vs0/\Df g nl vs/\(n4 + ((aY v' : Int) - aY v) = 0->∀ p∈g.prods.take j',Q4 nl vs p)/\St w' [aK k15 (FC x k14 (g.T + g.N) o (g.T + g.N) c),aK k14 (bv nl),own 1 o (g.T + g.N) c (pv (ps.map bk)),aG (jc ps vs),has H])/\x.pl - ((j:Int) + 1).toNat < x.pl - (j:Int).toNat:=λ{w'} h hnn=>by
  refine ⟨⟨by omega,by omega⟩,⟨j + 1,nl,vs.set k v',by simp,by omega,by omega,by omega,mk',hstay hnn,h.pick 6 [2,3,4,0,5]⟩,bw hlt⟩
 refine ⟨λw=>sub (hp w25) (hp w),sub.refl _,ae (λh1=>?_) λh1=>stay h λh2=>by rw [h1] at h2; cases h2⟩
 refine ⟨_,_,_,λw s=>(ai (b:=k15) (vs:=FC x k14 (g.T + g.N) o (g.T + g.N) c) 2 h.l).cell s (j:=5) rfl,_,λw s=>(ai (b:=k28) (vs:=[.int .i64 (k:Int),.slice a l c3,.int .i64 p.level]) 1 h.l).cell0 s,?_⟩
 have rn:a_ (hp w25) nl (some ⟨k14,0,none⟩) (g.T + g.N):=kS mk.ln (.inr ⟨_,rfl,ai 3 h.l⟩)
 obtain ⟨z,ad3,hz1,hza,hz2⟩:=rn.cE hkN
 have hzd:aN nl k = z:=by unfold aN; rw [Wb,hz1]; rfl
 cases hza
 refine aw rfl hkN ⟨z,λw s=>hz2 _ s,ae (λh2=>?_) λh2=>stay h λ_=>by rw [hzd]; simpa using h2⟩
 have h2:z = false:=by simpa using h2
 subst h2
 intro w29 hd
 have h:=h.drawn hd
 refine ⟨λw=>sub (hp w29) (hp w),sub.refl _,_,_,_,λw s=>(ai (b:=k15) (vs:=FC x k14 (g.T + g.N) o (g.T + g.N) c) 2 h.l).cell s (j:=5) rfl,_,λw s=>(ai (b:=k28) (vs:=[.int .i64 (k:Int),.slice a l c3,.int .i64 p.level]) 1 h.l).cell0 s,?_⟩
 refine aw rfl hkN ?_
 rw [aL]
 refine bh (h.pick 6 [3,0,2,4,5]) (by simp [bv,mk.ln]; exact hkN) λw32 h=>?_
 have eb:(bv nl).set k (.bool true) = bv (nl.set k true):=by unfold bv; rw [Xd]
 rw [eb] at h
 have ho:=KJ (nl:=nl) (k:=k) (by rw [mk.ln]; exact hkN) hzd
 have mk2:=mk'.Vk iG hpm ((mk.row hpr).1 h1)
 rw [hkt] at mk2
 have hm2:l7 (nl.set k true) (vs.set k v') + 1 = l7 nl (vs.set k v'):=by unfold l7; omega
 exact ⟨⟨by omega,by omega⟩,⟨by omega,by omega⟩,⟨j + 1,nl.set k true,vs.set k v',by simp,by omega,by omega,by omega,mk2,λh0=>by omega,h.pick 5 [2,0,3,1,4]⟩,bw hlt⟩
end
end Go.Proofs.YtndaepmjkbmjmaaGreatDoor
namespace Go.V
def ju (g:af) (nn:List Bool):Prop:=nn.length = g.N/\∀ i:Nat,aN nn i = true↔Af g ((g.T + i:Nat):Int)
def VU (g:af) (row:List Int) (bs:List Bool):Prop:=bs.length = g.T/\∀ t,aN bs t = true↔qM g row t
def Vm (g:af) (row:List Int):Prop:=∀ s∈row,0<=s/\s < (g.T:Int) + g.N
theorem L5 (l:List Bool) (k i:Nat):aN (l.drop k) i = aN l (k + i):=by
 unfold aN; rw [Wb,Wb,WL]
theorem ju.inj {g:af} {bs cs:List Bool} (h:ju g bs) (k:ju g cs):bs = cs :=
 gE (h.1.trans k.1.symm) λi=>by rw [WX,h.2,k.2]
end Go.V
namespace Go.Proofs.YtndaepmjkbmjmaaGreatDoor
open Go.V
section
variable {w:World} {L:List ay} {g:af} {x:GA}
theorem Oo (hg:gR (hp w) g x) (hb:iE g):aA Tryz.prog Cc [.agg ⟨x.cells⟩] w λv w'=>(∃ r:Bool,v = .bool r/\(r = true↔gH g))/\Gr w w':=by
 refine yL ?_
 refine cW hg λk1 w1 gw hg B=>?_
 refine ⟨_,_,_,_,_,_,_,_,_,_,_,_,_,B.row (sub.refl _),(Qs (x:=x) hg hb).mono ?_⟩
 rintro _ w2 ⟨⟨r1,rfl,e1⟩,g2⟩
 unfold gH
 rw [<- e1]
 refine ⟨_,rfl,ae (λh1=>⟨⟨true,rfl,by simp [h1]⟩,gw.trans g2⟩) λh1=>⟨_,_,_,_,_,_,_,_,_,_,_,_,_,B.row g2,(GY (x:=x) (hg.mono g2) hb).mono ?_⟩⟩
 rintro _ w3 ⟨⟨r2,rfl,e2⟩,g3⟩
 rw [<- e2]
 exact ⟨_,rfl,⟨r2,rfl,by simp [h1]⟩,gw.trans (g2.trans g3)⟩
theorem Jn (hg:gR (hp w) g x) (hb:iE g) (ht:eM (hp w)):aA Tryz.prog oe [.agg ⟨x.cells⟩] w λv w' =>
  (¬ gH g/\v = .tuple #[.slice none 0 0,.int .i64 1]/\Gr w w') \/
  (gH g/\∃ (k:Nat) (nl nn:List Bool),nl.length = g.T/\ju g nn/\v = .tuple #[.slice (some ⟨k,g.T,none⟩) g.N g.N,.int .i64 0]/\St w' (aK k (bv (nl ++ nn)) :: all w)):=by
 refine vw ?_
 refine cW hg λk1 w1 gw hg B=>?_
 refine ⟨_,_,_,_,_,_,_,_,_,_,_,_,_,B.row (sub.refl _),(Oo (x:=x) hg hb).mono ?_⟩
 rintro _ w2 ⟨⟨r,rfl,e⟩,g2⟩
 refine ⟨_,rfl,ae (λh1=>.inl ⟨λhe=>?_,rfl,gw.trans g2⟩) λh1=>λw3 hd=>?_⟩
 ·rw [e.2 he] at h1; cases h1
 have he:=e.1 (by simpa using h1)
 have g3:Gr w1 w3:=g2.trans (Gr.drawn hd)
 obtain ⟨iG,bT,bN,pN,pT,bP⟩:=Q6 he
 have tl:g.T = x.tl:=hg.t.1
 refine ⟨λw=>Gr w3 w,Gr.refl _,_,_,_,_,_,_,_,_,_,_,_,_,_,λw s=>B.row (g3.trans s),_,_,_,λw s=>B.c0 (g3.trans s),(Vl (x:=x) (hg.mono g3) hb he (eR.mono (gw.trans g3) ht)).mono ?_⟩
 rintro _ w6 ⟨b,k14,o,c,nl,ps,vs,rfl,al,hps,h⟩
 have hs:sub (hp w3) (hp w6):=aU 4 h.l
 have rb:av (hp w6) ⟨b,0,none⟩ (FC x k14 (g.T + g.N) o ps.length c):=ai 0 h.l
 refine ⟨_,rfl,λw=>sub (hp w6) (hp w),sub.refl _,λw s=>sub.trans hs s,_,_,_,λw s=>rb.cell s (j:=5) rfl,dE (lo:=x.tl) (by omega) (Wr _) (.inr ⟨he,k14,nl.take g.T,nl.drop g.T,by rw [Wx,al.ln]; omega,⟨by rw [Xp,al.ln]; omega,λi=>?_⟩,?_,?_⟩)⟩
 ·rw [L5]; exact al.nn _
 ·rw [<- tl,show g.T + g.N - g.T = g.N from by omega]
  have e:gC (some ⟨k14,0,none⟩) g.T (g.T + g.N) 1 = some ⟨k14,g.T,none⟩:=by
   unfold gC
   rw [Wg (by omega),Xb,show cV g.T 1 = g.T from by rw [aJ,Xw],aL]
  rw [e]
 ·rw [Wz]
  exact St.on (N:=[_]) (h0:=hp w3) (h.pick 5 [1,4]) (bD (gw.trans g3))
end
end Go.Proofs.YtndaepmjkbmjmaaGreatDoor
namespace Go.V
def bX (n:Nat) (f:Nat->Bool):List Int:=((List.range n).filter f).map Int.ofNat
def ja (l:List Int):Prop:=l.Pairwise (· < ·)
theorem xt:∀ {l m:List Int},ja l->ja m->(∀ z,z∈l↔z∈m)->l = m
 | [],[],_,_,_=>rfl
 | [],b :: m,_,_,h=>absurd ((h b).2 (by simp)) (by simp)
 | a :: l,[],_,_,h=>absurd ((h a).1 (by simp)) (by simp)
 | a :: l,b :: m,hl,hm,h=>by
  obtain ⟨l1,l2⟩:=W_.1 hl
  obtain ⟨m1,m2⟩:=W_.1 hm
  have e:a = b:=by
   rcases Wp.1 ((h a).1 (by simp)) with e | ha
   ·exact e
   ·rcases Wp.1 ((h b).2 (by simp)) with e | hb
    ·exact e.symm
    ·have:=m1 a ha; have:=l1 b hb; omega
  subst e
  rw [xt l2 m2 λz=>?_]
  have hz:=h z
  simp only [Wp] at hz
  constructor
  ·intro hz1
   rcases hz.1 (.inr hz1) with rfl | h2
   ·have:=l1 _ hz1; omega
   ·exact h2
  ·intro hz1
   rcases hz.2 (.inr hz1) with rfl | h2
   ·have:=m1 _ hz1; omega
   ·exact h2
theorem cJ {n:Nat} {f:Nat->Bool} {z:Int}:z∈bX n f↔∃ k:Nat,z = k/\k < n/\f k = true:=by
 unfold bX
 rw [Wu]
 constructor
 ·rintro ⟨k,hk,rfl⟩
  obtain ⟨h1,h2⟩:=WN.1 hk
  exact ⟨k,rfl,WA.1 h1,h2⟩
 ·rintro ⟨k,rfl,h1,h2⟩
  exact ⟨k,WN.2 ⟨WA.2 h1,h2⟩,rfl⟩
theorem oh (n:Nat) (f:Nat->Bool):ja (bX n f):=by
 unfold bX ja
 rw [W3]
 refine List.Pairwise.filter _ ?_
 exact List.pairwise_lt_range.imp λh=>by show Int.ofNat _ < Int.ofNat _; simp; exact h
theorem jO (n:Nat) (f:Nat->Bool):(bX n f).length<=n:=by
 unfold bX
 rw [Wh]
 have:=WM f (List.range n)
 rwa [Xs] at this
def dd:List Int->List Int
 | []=>[]
 | [a]=>[a]
 | a :: b :: l=>if a = b then dd (b :: l) else a :: dd (b :: l)
theorem Fw:∀ (l:List Int) (z:Int),z∈dd l↔z∈l
 | [],z=>by simp [dd]
 | [a],z=>by simp [dd]
 | a :: b :: l,z=>by
  unfold dd
  split
  ·rename_i h; subst h
   rw [Fw (a :: l)]; simp
  ·rw [Wp,Fw (b :: l),Wp,Wp,Wp]
theorem Fx:∀ {l:List Int},l.Pairwise (·<=·)->ja (dd l)
 | [],_=>by simp [dd,ja]
 | [a],_=>by simp [dd,ja]
 | a :: b :: l,h=>by
  obtain ⟨h1,h2⟩:=W_.1 h
  unfold dd
  split
  ·exact Fx h2
  ·rename_i hne
   refine W_.2 ⟨λz hz=>?_,Fx h2⟩
   rw [Fw] at hz
   have hb:=h1 b (by simp)
   rcases Wp.1 hz with rfl | hz
   ·omega
   ·have:=(W_.1 h2).1 z hz
    omega
theorem Jo:∀ l:List Int,(dd l).length<=l.length
 | []=>by simp [dd]
 | [a]=>by simp [dd]
 | a :: b :: l=>by
  unfold dd
  split
  ·have:=Jo (b :: l); simp at this ⊢; omega
  ·have:=Jo (b :: l); simp at this ⊢; omega
def vz (g:af) (ss:List SQ) (t:aq):Int:=if t∈bj g ss then ((bj g ss).idxOf t:Int) + 1 else 0
def Te (ss:List SQ) (k:aq):Int:=if k.st < 0 then 0 else match eW ss k.st.toNat k.sym with
 | some j=>j + 1
 | none=>0
def uz (g:af) (nn:List Bool) (s:Int):Bool:=decide ((g.T:Int)<=s) && aN nn (s.toNat - g.T)
def Ag (g:af) (nn:List Bool) (row:List Int):Bool:=row.all (uz g nn)
def iN (g:af) (nn:List Bool) (ss:List SQ) (i k:Nat):Bool:=match (bj g ss)[i]?,(bj g ss)[k]? with
 | some t,some u=>decide (eW ss t.st.toNat t.sym = some u.st) && uz g nn u.sym
 | _,_=>false
def xu (g:af) (nn:List Bool) (ss:List SQ) (n i:Nat):Bool:=match (bj g ss)[i]? with
 | some t=>(List.range g.prods.length).any λm=>decide (m≠0) && match g.prods[m]? with
  | some p=>decide (p.left = t.sym) && (List.range p.right.length).any λk=>decide ((bj g ss)[n]? = some ⟨b9 ss t.st (p.right.take k),p.right.getD k 0⟩) && Ag g nn (p.right.drop (k + 1))
  | none=>false
 | none=>false
def dv (g:af) (ss:List SQ) (q m i:Nat):Bool:=match (bj g ss)[i]?,g.prods[m]? with
 | some t,some p=>decide (m≠0) && decide (p.left = t.sym) && decide (b9 ss t.st p.right = q)
 | _,_=>false
def qN (g:af) (nn:List Bool) (ss:List SQ):List (List Int):=(List.range (bj g ss).length).map λi=>bX (bj g ss).length (iN g nn ss i)
def uA (g:af) (nn:List Bool) (ss:List SQ):List (List Int):=(List.range (bj g ss).length).map λn=>bX (bj g ss).length (xu g nn ss n)
structure iO where
 st:Int
 prod:Int
 tr:List Int
deriving DecidableEq
instance:Inhabited iO:=⟨⟨0,0,[]⟩⟩
def sW (g:af) (ss:List SQ) (q m:Nat):List iO:=if bX (bj g ss).length (dv g ss q m) = [] then [] else [⟨q,m,bX (bj g ss).length (dv g ss q m)⟩]
def di (g:af) (ss:List SQ) (q j:Nat):List iO:=(List.range j).flatMap (sW g ss q)
def pB (g:af) (ss:List SQ):List iO:=(List.range ss.length).flatMap λq=>di g ss q g.prods.length
theorem vC (g:af) (ss:List SQ) (q j:Nat):di g ss q (j + 1) = di g ss q j ++ sW g ss q j:=by unfold di; rw [Xi,WU]; simp
def CN (g:af) (j:Nat) (s:Int):List Nat:=(MA g j s).filter λi=>decide (0 < i)
theorem Ch {g:af} {j:Nat} {p:aH} (h:g.prods[j]? = some p) (s:Int):CN g (j + 1) s = CN g j s ++ if s = p.left/\0 < j then [j] else []:=by
 unfold CN
 rw [sC h,WK]
 congr 1
 by_cases e:s = p.left <;> by_cases e2:0 < j <;> simp [e,e2]
theorem AJ (g:af) (j:Nat) (s:Int):(CN g j s).length<=j:=WC (WM _ _) (Fg g j s)
theorem iP {g:af} {s:Int} {i:Nat}:i∈CN g g.prods.length s↔0 < i/\∃ p,g.prods[i]? = some p/\p.left = s:=by
 unfold CN
 rw [WN,show MA g g.prods.length s = BU g s from rfl,pe,Wk,and_comm]
section
variable {g:af} {ss:List SQ}
theorem Jp (hA:bm g ss):∀ n:Nat,(tU g ss n).Nodup
 | 0=>by simp [tU]
 | n + 1=>by
  cases hq:ss[n]? with
  | none=>simp only [tU,hq,WG]; exact Jp hA n
  | some q =>
   rw [nZ hq,WR]
   refine ⟨Jp hA n,?_,λx hx y hy e=>?_⟩
   ·unfold fo
    have h1:=B9 hA hq
    have h2:((q.2.2.filter λe=>decide ((g.T:Int)<=e.sym)).map (·.sym)).Nodup:=h1.sublist (List.Sublist.map _ List.filter_sublist)
    rw [WY,W3] at h2 ⊢
    exact h2.imp λh e=>h (congrArg aq.sym e)
   ·subst e
    obtain ⟨i,_,_,e,hi,_,_,_,rfl⟩:=iM hx
    unfold fo at hy
    obtain ⟨e',_,h2⟩:=Wu.1 hy
    have:=congrArg aq.st h2
    simp at this; omega
theorem Oq (hA:bm g ss):(bj g ss).Nodup:=Jp hA _
theorem Ot {α : Type} [DecidableEq α] {l:List α} (h:l.Nodup) {i:Nat} {x:α} (hx:l[i]? = some x):l.idxOf x = i:=by
 obtain ⟨h1,rfl⟩:=V9.1 hx
 exact h.idxOf_getElem i h1
theorem AK (hA:bm g ss) {i:Nat} {t:aq} (h:(bj g ss)[i]? = some t):vz g ss t = (i:Int) + 1:=by
 unfold vz
 rw [Wn (V_ h),Ot (Oq hA) h]
theorem xv (hA:bm g ss) {t:aq} (h:0 < vz g ss t):∃ i:Nat,vz g ss t = (i:Int) + 1/\(bj g ss)[i]? = some t:=by
 unfold vz at h ⊢
 by_cases ht:t∈bj g ss
 ·rw [Wn ht]
  refine ⟨_,rfl,?_⟩
  rw [Wa (XY ht),List.getElem_idxOf]
 ·rw [Wg ht] at h; omega
end
end Go.V
namespace Go.Proofs.YtndaepmjkbmjmaaGreatDoor
open Go.V
abbrev xw:FuncId:=58
def uB:bn:={ rngs:=[],loops:=[(6,[(31,(.one (.int .i64)))]),(9,[(44,(.one (.int .i64)))]),(18,[(13,(.one .slice)),(77,(.one (.int .i64)))]),(21,[(13,(.one .slice)),(83,(.one (.int .i64)))])],joins:=[],blocks:=[] }
theorem uC {a:Yg} {b c:Nat} {d:Yg} {e f:Nat} {g:Yg} {i j:Nat} {k:Int} {l:Yg} {m n:Nat} {w:World} {R:Value->WP} (h:new w (oC [vS a b c,vS d e f,vS g i j,iI k,vS l m n] 27) λk1 w1=>∃ o1 k2 k3 o2 k4 k5 o3 k6 k7 n1 o4 k8 k9,V.rowAt w1 (aM k1) 0 5 = some [vS o1 k2 k3,vS o2 k4 k5,vS o3 k6 k7,iI n1,vS o4 k8 k9]/\rE 104 [vA (Array.mk [vS o1 k2 k3,vS o2 k4 k5,vS o3 k6 k7,iI n1,vS o4 k8 k9])] w1 λv1 w2=>∃ o5 n2,v1 = vT (Array.mk [vP o5,iI n2])/\br (n2 != 0) (R (vT (Array.mk [vS none 0 0,iI n2])) w2) (new w2 (Obj.map (Array.mk []) 0) λk10 w3=>nn o5 λa1=>∃ o6 k11 k12,World.cell? w3 (Addr.add a1 8) = some (vS o6 k11 k12)/\∃ (x1:lP [(31,aD)]),∃ (x2:lN [(31,aD)]),x1 0 w3/\∀ (I1:Nat->Value) (n3:Int) (w4:World),x1 n3 w4->br (decide (n3 < (k11:Int))) (idx o6 k11 n3 2 λa2=>∃ n4 n5,V.rowAt w4 a2 0 2 = some [iI n4,iI n5]/\new w4 (oC [iI 0,iI 0] 184) λk13 w5=>fV w5 (aM k13) [iI n4,iI n5] λw6=>∀ w7,drawn w6 w7->∃ (I2:WP),I2 w7/\nn o5 λa3=>∃ o7,(∀ w8,I2 w8->World.cell? w8 (Addr.add a3 12) = some (Value.map o7))/\∃ n6,(∀ w9,I2 w9->World.cell? w9 (Addr.add (aM k13) 1) = some (iI n6))/\aX Proofs.Tryz.prog (Instr.lookup 160 (Value.map o7) (iI n6) false) w7 λv2 w10=>∃ o8 k14 k15,v2 = vS o8 k14 k15/\I2 w10/\∃ (x3:lP [(44,aD)]),∃ (x4:lN [(44,aD)]),x3 0 w10/\∀ (I3:Nat->Value) (n7:Int) (w11:World),x3 n7 w11->br (decide (n7 < (k14:Int))) (idx o8 k14 n7 1 λa4=>∃ n8,World.cell? w11 a4 = some (iI n8)/\∀ w12,drawn w11 w12->∃ (I4:WP),I4 w12/\∃ n9,(∀ w13,I4 w13->World.cell? w13 (aM k13) = some (iI n9))/\∃ o9 k16 k17,(∀ w14,I4 w14->World.cell? w14 (Addr.add (aM k1) 4) = some (vS o9 k16 k17))/\idx o9 k16 n8 3 λa5=>∃ o10 k18 k19,(∀ w15,I4 w15->World.cell? w15 (Addr.add a5 1) = some (vS o10 k18 k19))/\rE 105 [vP o5,iI n9,vS o10 k18 k19,Value.func (Fn.func 106) (Array.mk []) (Array.mk [])] w12 λv3 w16=>∃ n10,v3 = iI n10/\I4 w16/\new w16 (oC [iI 0,iI 0] 184) λk20 w17=>fV w17 (aM k20) [iI n10,iI n8] λw18=>∃ n11 n12,V.rowAt w18 (aM k20) 0 2 = some [iI n11,iI n12]/\new w18 (oC [iI n3] 3) λk21 w19=>aX Proofs.Tryz.prog (Instr.mapEntry 178 (Value.map (some k10)) (vG [iI n11,iI n12])) w19 λv4 w20=>∃ o11 k22 k23 n13,v4 = vT (Array.mk [vS o11 k22 k23,iI n13])/\rS (ir 24 (Array.mk [vS o11 k22 k23,vS (some (aM k21)) 1 1])) w20 λv5 w21=>∃ o12 k24 k25,v5 = vS o12 k24 k25/\aX Proofs.Tryz.prog (Instr.entryStore 178 (Value.map (some k10)) (iI n13) (vS o12 k24 k25)) w21 λ(x5:Unit) (w22:World)=>ax (n7 + 1)/\x3 (n7 + 1) w22/\x4 (n7 + 1) w22 < x4 n7 w11) (ax (n3 + 1)/\x1 (n3 + 1) w11/\x2 (n3 + 1) w11 < x2 n3 w4)) (nn o5 λa6=>∃ o13 k26 k27,World.cell? w4 (Addr.add a6 5) = some (vS o13 k26 k27)/\∃ (x6:lP [(13,gD),(77,aD)]),∃ (x7:lN [(13,gD),(77,aD)]),x6 none 0 0 0 w4/\∀ (I5:Nat->Value) (o14:Yg) (k28 k29:Nat) (n14:Int) (w23:World),x6 o14 k28 k29 n14 w23->br (decide (n14 < (k26:Int))) (∃ o15 k30 k31,World.cell? w23 (Addr.add (aM k1) 4) = some (vS o15 k30 k31)/\∃ (x8:lP [(13,gD),(83,aD)]),∃ (x9:lN [(13,gD),(83,aD)]),x8 o14 k28 k29 0 w23/\∀ (I6:Nat->Value) (o16:Yg) (k32 k33:Nat) (n15:Int) (w24:World),x8 o16 k32 k33 n15 w24->br (decide (n15 < (k30:Int))) (aX Proofs.Tryz.prog (Instr.lookup 178 (Value.map (some k10)) (vG [iI n14,iI n15]) false) w24 λv6 w25=>∃ o17 k34 k35,v6 = vS o17 k34 k35/\br (decide (0 < (k34:Int))) (rE 107 [vS o17 k34 k35] w25 λv7 w26=>∃ o18 k36 k37,v7 = vS o18 k36 k37/\new w26 (oC [iI n14,iI n15,vS o18 k36 k37] 117) λk38 w27=>rS (ir 113 (Array.mk [vS o16 k32 k33,vS (some (aM k38)) 1 1])) w27 λv8 w28=>∃ o19 k39 k40,v8 = vS o19 k39 k40/\ax (n15 + 1)/\x8 o19 k39 k40 (n15 + 1) w28/\x9 o19 k39 k40 (n15 + 1) w28 < x9 o16 k32 k33 n15 w24) (ax (n15 + 1)/\x8 o16 k32 k33 (n15 + 1) w25/\x9 o16 k32 k33 (n15 + 1) w25 < x9 o16 k32 k33 n15 w24)) (ax (n14 + 1)/\x6 o16 k32 k33 (n14 + 1) w24/\x7 o16 k32 k33 (n14 + 1) w24 < x7 o14 k28 k29 n14 w23)) (rE 108 [vS o14 k28 k29] w23 λv9 w29=>∃ o20 k41 k42,v9 = vS o20 k41 k42/\R (vT (Array.mk [vS o20 k41 k42,iI 0])) w29)))):aA Tryz.prog 58 [(.agg #[(.slice a b c),(.slice d e f),(.slice g i j),(.int .i64 k),(.slice l m n)])] w R:=rv Tryz.func58 uB (by kernel_rfl) h
abbrev Ht:FuncId:=104
def Dg:bn:={ rngs:=[],loops:=[(8,[(51,(.one (.int .i64)))]),(13,[(67,(.one (.int .i64)))]),(16,[(75,(.one (.int .i64)))]),(22,[(95,(.one (.int .i64)))])],joins:=[],blocks:=[] }
theorem Dh {a:Yg} {b c:Nat} {d:Yg} {e f:Nat} {g:Yg} {i j:Nat} {k:Int} {l:Yg} {m n:Nat} {w:World} {R:Value->WP} (h:new w (oC [vS a b c,vS d e f,vS g i j,iI k,vS l m n] 27) λk1 w1=>∃ o1 k2 k3 o2 k4 k5 o3 k6 k7 n1 o4 k8 k9,V.rowAt w1 (aM k1) 0 5 = some [vS o1 k2 k3,vS o2 k4 k5,vS o3 k6 k7,iI n1,vS o4 k8 k9]/\rE 26 [vA (Array.mk [vS o1 k2 k3,vS o2 k4 k5,vS o3 k6 k7,iI n1,vS o4 k8 k9])] w1 λv1 w2=>∃ o5 k10 k11 n2 n3 n4,v1 = vT (Array.mk [vA (Array.mk [vS o5 k10 k11,iI n2,iI n3]),iI n4])/\new w2 (oC [vS none 0 0,iI 0,iI 0] 45) λk12 w3=>fV w3 (aM k12) [vS o5 k10 k11,iI n2,iI n3] λw4=>br (n4 != 0) (R (vT (Array.mk [vP none,iI n4])) w4) (∃ o6 k13 k14 o7 k15 k16 o8 k17 k18 n5 o9 k19 k20,V.rowAt w4 (aM k1) 0 5 = some [vS o6 k13 k14,vS o7 k15 k16,vS o8 k17 k18,iI n5,vS o9 k19 k20]/\∃ o10 k21 k22 n6 n7,V.rowAt w4 (aM k12) 0 3 = some [vS o10 k21 k22,iI n6,iI n7]/\new w4 (Obj.map (Array.mk []) 0) λk23 w5=>new w5 (Obj.map (Array.mk []) 0) λk24 w6=>new w6 (Obj.map (Array.mk []) 0) λk25 w7=>new w7 (oC [vS o6 k13 k14,vS o7 k15 k16,vS o8 k17 k18,iI n5,vS o9 k19 k20,vS o10 k21 k22,iI n6,iI n7,vS none 0 0,Value.map (some k23),Value.map (some k24),vS none 0 0,Value.map (some k25)] 182) λk26 w8=>∃ o11 k27 k28 o12 k29 k30 o13 k31 k32 n8 o14 k33 k34,V.rowAt w8 (aM k1) 0 5 = some [vS o11 k27 k28,vS o12 k29 k30,vS o13 k31 k32,iI n8,vS o14 k33 k34]/\rE 163 [vA (Array.mk [vS o11 k27 k28,vS o12 k29 k30,vS o13 k31 k32,iI n8,vS o14 k33 k34])] w8 λv2 w9=>∃ o15 k35 k36 n9,v2 = vT (Array.mk [vS o15 k35 k36,iI n9])/\st1 w9 (Addr.add (aM k26) 8) (vS o15 k35 k36) λw10=>∃ o16 k37 k38 o17 k39 k40 o18 k41 k42 n10 o19 k43 k44,V.rowAt w10 (aM k1) 0 5 = some [vS o16 k37 k38,vS o17 k39 k40,vS o18 k41 k42,iI n10,vS o19 k43 k44]/\rE 164 [vA (Array.mk [vS o16 k37 k38,vS o17 k39 k40,vS o18 k41 k42,iI n10,vS o19 k43 k44])] w10 λv3 w11=>∃ o20 k45 k46 n11,v3 = vT (Array.mk [vS o20 k45 k46,iI n11])/\st1 w11 (Addr.add (aM k26) 11) (vS o20 k45 k46) λw12=>∃ o21 k47 k48,World.cell? w12 (Addr.add (aM k26) 8) = some (vS o21 k47 k48)/\∃ (x1:lP [(51,aD)]),∃ (x2:lN [(51,aD)]),x1 0 w12/\∀ (I1:Nat->Value) (n12:Int) (w13:World),x1 n12 w13->br (decide (n12 < (k47:Int))) (idx o21 k47 n12 2 λa1=>∃ n13 n14,V.rowAt w13 a1 0 2 = some [iI n13,iI n14]/\new w13 (oC [iI 0,iI 0] 184) λk49 w14=>fV w14 (aM k49) [iI n13,iI n14] λw15=>∀ w16,drawn w15 w16->∃ (I2:WP),I2 w16/\∃ o22,(∀ w17,I2 w17->World.cell? w17 (Addr.add (aM k26) 9) = some (Value.map o22))/\∃ n15 n16,(∀ w18,I2 w18->V.rowAt w18 (aM k49) 0 2 = some [iI n15,iI n16])/\ax (n12 + 1)/\aX Proofs.Tryz.prog (Instr.mapUpdate 180 (Value.map o22) (vG [iI n15,iI n16]) (iI (n12 + 1))) w16 λ(x3:Unit) (w19:World)=>ax (n12 + 1)/\x1 (n12 + 1) w19/\x2 (n12 + 1) w19 < x2 n12 w13) (∃ o23 k50 k51,World.cell? w13 (aM k12) = some (vS o23 k50 k51)/\∃ (x4:lP [(67,aD)]),∃ (x5:lN [(67,aD)]),x4 0 w13/\∀ (I3:Nat->Value) (n17:Int) (w20:World),x4 n17 w20->br (decide (n17 < (k50:Int))) (idx o23 k50 n17 2 λa2=>∃ o24 k52 k53 o25 k54 k55,V.rowAt w20 a2 0 2 = some [vS o24 k52 k53,vS o25 k54 k55]/\new w20 (oC [vS none 0 0,vS none 0 0] 54) λk56 w21=>fV w21 (aM k56) [vS o24 k52 k53,vS o25 k54 k55] λw22=>∃ o26 k57 k58,World.cell? w22 (Addr.add (aM k56) 1) = some (vS o26 k57 k58)/\∃ (x6:lP [(75,aD)]),∃ (x7:lN [(75,aD)]),x6 0 w22/\∀ (I4:Nat->Value) (n18:Int) (w23:World),x6 n18 w23->br (decide (n18 < (k57:Int))) (idx o26 k57 n18 2 λa3=>∃ n19 n20,V.rowAt w23 a3 0 2 = some [iI n19,iI n20]/\new w23 (oC [iI 0,iI 0] 56) λk59 w24=>fV w24 (aM k59) [iI n19,iI n20] λw25=>∀ w26,drawn w25 w26->∃ (I5:WP),I5 w26/\∃ o27,(∀ w27,I5 w27->World.cell? w27 (Addr.add (aM k26) 10) = some (Value.map o27))/\∃ n21,(∀ w28,I5 w28->World.cell? w28 (aM k59) = some (iI n21))/\∃ n22,(∀ w29,I5 w29->World.cell? w29 (Addr.add (aM k59) 1) = some (iI n22))/\ax (n22 + 1)/\aX Proofs.Tryz.prog (Instr.mapUpdate 180 (Value.map o27) (vG [iI n17,iI n21]) (iI (n22 + 1))) w26 λ(x8:Unit) (w30:World)=>ax (n18 + 1)/\x6 (n18 + 1) w30/\x7 (n18 + 1) w30 < x7 n18 w23) (ax (n17 + 1)/\x4 (n17 + 1) w23/\x5 (n17 + 1) w23 < x5 n17 w20)) (∃ o28 k60 k61,World.cell? w20 (Addr.add (aM k1) 4) = some (vS o28 k60 k61)/\∃ (x9:lP [(95,aD)]),∃ (x10:lN [(95,aD)]),x9 0 w20/\∀ (I6:Nat->Value) (n23:Int) (w31:World),x9 n23 w31->br (decide (n23 < (k60:Int))) (idx o28 k60 n23 3 λa4=>∃ n24 o29 k62 k63 n25,V.rowAt w31 a4 0 3 = some [iI n24,vS o29 k62 k63,iI n25]/\new w31 (oC [iI 0,vS none 0 0,iI 0] 81) λk64 w32=>fV w32 (aM k64) [iI n24,vS o29 k62 k63,iI n25] λw33=>br (decide (0 < n23)) (∀ w34,drawn w33 w34->∃ (I7:WP),I7 w34/\∃ o30,(∀ w35,I7 w35->World.cell? w35 (Addr.add (aM k26) 12) = some (Value.map o30))/\∃ n26,(∀ w36,I7 w36->World.cell? w36 (aM k64) = some (iI n26))/\∃ o31,(∀ w37,I7 w37->World.cell? w37 (Addr.add (aM k26) 12) = some (Value.map o31))/\∃ n27,(∀ w38,I7 w38->World.cell? w38 (aM k64) = some (iI n27))/\(aX Proofs.Tryz.prog (Instr.lookup 160 (Value.map o31) (iI n27) false) w34 λv4 w39=>∃ o32 k65 k66,v4 = vS o32 k65 k66/\I7 w39/\new w39 (oC [iI n23] 3) λk67 w40=>I7 w40/\rS (ir 24 (Array.mk [vS o32 k65 k66,vS (some (aM k67)) 1 1])) w40 λv5 w41=>∃ o33 k68 k69,v5 = vS o33 k68 k69/\I7 w41/\aX Proofs.Tryz.prog (Instr.mapUpdate 160 (Value.map o30) (iI n26) (vS o33 k68 k69)) w41 λ(x11:Unit) (w42:World)=>ax (n23 + 1)/\x9 (n23 + 1) w42/\x10 (n23 + 1) w42 < x10 n23 w31)/\new w34 (oC [iI n23] 3) λk70 w43=>I7 w43/\aX Proofs.Tryz.prog (Instr.lookup 160 (Value.map o31) (iI n27) false) w43 λv6 w44=>∃ o34 k71 k72,v6 = vS o34 k71 k72/\I7 w44/\rS (ir 24 (Array.mk [vS o34 k71 k72,vS (some (aM k70)) 1 1])) w44 λv7 w45=>∃ o35 k73 k74,v7 = vS o35 k73 k74/\I7 w45/\aX Proofs.Tryz.prog (Instr.mapUpdate 160 (Value.map o30) (iI n26) (vS o35 k73 k74)) w45 λ(x12:Unit) (w46:World)=>ax (n23 + 1)/\x9 (n23 + 1) w46/\x10 (n23 + 1) w46 < x10 n23 w31) (ax (n23 + 1)/\x9 (n23 + 1) w33/\x10 (n23 + 1) w33 < x10 n23 w31)) (R (vT (Array.mk [vP (some (aM k26)),iI 0])) w31))))):aA Tryz.prog 104 [(.agg #[(.slice a b c),(.slice d e f),(.slice g i j),(.int .i64 k),(.slice l m n)])] w R:=rv Tryz.func104 Dg (by kernel_rfl) h
abbrev sZ:FuncId:=105
def pC:bn:={ rngs:=[],loops:=[(2,[(1,(.one (.int .i64))),(13,(.one (.int .i64)))])],joins:=[],blocks:=[] }
theorem pD {a:Yg} {b:Int} {c:Yg} {d e:Nat} {f:FuncId} {g:List Value} {w:World} {R:Value->WP} (h:∃ (x1:lP [(1,aD),(13,aD)]),∃ (x2:lN [(1,aD),(13,aD)]),x1 b 0 w/\∀ (I1:Nat->Value) (n1 n2:Int) (w1:World),x1 n1 n2 w1->br (decide (n2 < (d:Int))) (idx c d n2 1 λa1=>∃ n3,World.cell? w1 a1 = some (iI n3)/\wm (Proofs.YtndaepmjkbmjmaaGreatDoor.Fn f) (rE f (iI n1 :: iI n2 :: g) w1 λv1 w2=>v1 = vT (Array.mk [])/\nn a λa2=>∃ o1,World.cell? w2 (Addr.add a2 10) = some (Value.map o1)/\aX Proofs.Tryz.prog (Instr.lookup 180 (Value.map o1) (vG [iI n1,iI n3]) false) w2 λv2 w3=>∃ n4,v2 = iI n4/\ax (n4 - 1)/\ax (n2 + 1)/\x1 (n4 - 1) (n2 + 1) w3/\x2 (n4 - 1) (n2 + 1) w3 < x2 n1 n2 w1)) (R (iI n1) w1)):aA Tryz.prog 105 [(.pointer a),(.int .i64 b),(.slice c d e),(.func (.func f) #[] ⟨g⟩)] w R:=rv Tryz.func105 pC (by kernel_rfl) h
def pE:bn:={ rngs:=[],loops:=[],joins:=[],blocks:=[] }
theorem pF {a b:Int} {w:World} {R:Value->WP} (h:R (vT (Array.mk [])) w):aA Tryz.prog 106 [(.int .i64 a),(.int .i64 b)] w R:=rv Tryz.func106 pE (by kernel_rfl) h
abbrev lz:FuncId:=159
def yQ:bn:={ rngs:=[],loops:=[],joins:=[],blocks:=[] }
theorem yR {a:Yg} {b c:Nat} {d:Yg} {e f:Nat} {g:Yg} {i j:Nat} {k:Int} {l:Yg} {m n:Nat} {w:World} {R:Value->WP} (h:new w (oC [vS a b c,vS d e f,vS g i j,iI k,vS l m n] 27) λk1 w1=>∃ o1 k2 k3 o2 k4 k5 o3 k6 k7 n1 o4 k8 k9,V.rowAt w1 (aM k1) 0 5 = some [vS o1 k2 k3,vS o2 k4 k5,vS o3 k6 k7,iI n1,vS o4 k8 k9]/\rE 104 [vA (Array.mk [vS o1 k2 k3,vS o2 k4 k5,vS o3 k6 k7,iI n1,vS o4 k8 k9])] w1 λv1 w2=>∃ o5 n2,v1 = vT (Array.mk [vP o5,iI n2])/\new w2 (oC [vP none] 175) λk10 w3=>st1 w3 (aM k10) (vP o5) λw4=>br (n2 != 0) (R (vT (Array.mk [vS none 0 0,iI n2])) w4) (∃ o6,World.cell? w4 (aM k10) = some (vP o6)/\rE 203 [vP o6,Value.func (Fn.func 204) (Array.mk []) (Array.mk [vP (some (aM k10)),vP (some (aM k1))])] w4 λv2 w5=>∃ o7 k11 k12,v2 = vS o7 k11 k12/\R (vT (Array.mk [vS o7 k11 k12,iI 0])) w5)):aA Tryz.prog 159 [(.agg #[(.slice a b c),(.slice d e f),(.slice g i j),(.int .i64 k),(.slice l m n)])] w R:=rv Tryz.func159 yQ (by kernel_rfl) h
abbrev iQ:FuncId:=161
def uD:bn:={ rngs:=[],loops:=[],joins:=[],blocks:=[] }
theorem uE {a:Yg} {b c:Nat} {d:Yg} {e f:Nat} {g:Yg} {i j:Nat} {k:Int} {l:Yg} {m n:Nat} {w:World} {R:Value->WP} (h:new w (oC [vS a b c,vS d e f,vS g i j,iI k,vS l m n] 27) λk1 w1=>∃ o1 k2 k3 o2 k4 k5 o3 k6 k7 n1 o4 k8 k9,V.rowAt w1 (aM k1) 0 5 = some [vS o1 k2 k3,vS o2 k4 k5,vS o3 k6 k7,iI n1,vS o4 k8 k9]/\rE 104 [vA (Array.mk [vS o1 k2 k3,vS o2 k4 k5,vS o3 k6 k7,iI n1,vS o4 k8 k9])] w1 λv1 w2=>∃ o5 n2,v1 = vT (Array.mk [vP o5,iI n2])/\new w2 (oC [vP none] 175) λk10 w3=>st1 w3 (aM k10) (vP o5) λw4=>br (n2 != 0) (R (vT (Array.mk [vS none 0 0,iI n2])) w4) (∃ o6,World.cell? w4 (aM k10) = some (vP o6)/\rE 203 [vP o6,Value.func (Fn.func 205) (Array.mk []) (Array.mk [vP (some (aM k10)),vP (some (aM k1))])] w4 λv2 w5=>∃ o7 k11 k12,v2 = vS o7 k11 k12/\R (vT (Array.mk [vS o7 k11 k12,iI 0])) w5)):aA Tryz.prog 161 [(.agg #[(.slice a b c),(.slice d e f),(.slice g i j),(.int .i64 k),(.slice l m n)])] w R:=rv Tryz.func161 uD (by kernel_rfl) h
abbrev uF:FuncId:=203
def qO:bn:={ rngs:=[],loops:=[(4,[(18,(.one (.int .i64)))])],joins:=[],blocks:=[] }
theorem qP {a:Yg} {b:FuncId} {c:List Value} {w:World} {R:Value->WP} (h:nn a λa1=>∃ o1 k1 k2,World.cell? w (Addr.add a1 8) = some (vS o1 k1 k2)/\wi (k1:Int) (k1:Int) 24/\new w (Obj.cells (Array.mk (jz (Int.toNat (k1:Int)) [vS none 0 0])) 24) λk3 w1=>new w1 (oC [vS none 0 0] 71) λk4 w2=>st1 w2 (aM k4) (vS (some (aM k3)) (Int.toNat (k1:Int)) (Int.toNat (k1:Int))) λw3=>wm (Proofs.YtndaepmjkbmjmaaGreatDoor.Fn b) (rE b (Value.func (Fn.func 239) (Array.mk []) (Array.mk [vP (some (aM k4))]) :: c) w3 λv1 w4=>v1 = vT (Array.mk [])/\∃ o2 k5 k6,World.cell? w4 (aM k4) = some (vS o2 k5 k6)/\∃ (x1:lP [(18,aD)]),∃ (x2:lN [(18,aD)]),x1 0 w4/\∀ (I1:Nat->Value) (n1:Int) (w5:World),x1 n1 w5->br (decide (n1 < (k5:Int))) (∃ o3 k7 k8,World.cell? w5 (aM k4) = some (vS o3 k7 k8)/\idx o3 k7 n1 1 λa2=>∃ o4 k9 k10,World.cell? w5 a2 = some (vS o4 k9 k10)/\rE 53 [vS o4 k9 k10] w5 λv2 w6=>v2 = vT (Array.mk [])/\∀ w7,drawn w6 w7->∃ (I2:WP),I2 w7/\∃ o5 k11 k12,(∀ w8,I2 w8->World.cell? w8 (aM k4) = some (vS o5 k11 k12))/\∃ o6 k13 k14,(∀ w9,I2 w9->World.cell? w9 (aM k4) = some (vS o6 k13 k14))/\idx o6 k13 n1 1 λa3=>∃ o7 k15 k16,(∀ w10,I2 w10->World.cell? w10 a3 = some (vS o7 k15 k16))/\rE 240 [vS o7 k15 k16] w7 λv3 w11=>∃ o8 k17 k18,v3 = vS o8 k17 k18/\I2 w11/\rE 107 [vS o8 k17 k18] w11 λv4 w12=>∃ o9 k19 k20,v4 = vS o9 k19 k20/\I2 w12/\idx o5 k11 n1 1 λa4=>st1 w12 a4 (vS o9 k19 k20) λw13=>ax (n1 + 1)/\x1 (n1 + 1) w13/\x2 (n1 + 1) w13 < x2 n1 w5) (∃ o10 k21 k22,World.cell? w5 (aM k4) = some (vS o10 k21 k22)/\R (vS o10 k21 k22) w5))):aA Tryz.prog 203 [(.pointer a),(.func (.func b) #[] ⟨c⟩)] w R:=rv Tryz.func203 qO (by kernel_rfl) h
abbrev xx:FuncId:=204
def uG:bn:={ rngs:=[],loops:=[(1,[(14,(.one (.int .i64)))]),(5,[(36,(.one (.int .i64)))])],joins:=[],blocks:=[] }
theorem uH {a:FuncId} {b:List Value} {c d:Addr} {w:World} {R:Value->WP} (h:∃ o1,World.cell? w c = some (vP o1)/\nn o1 λa1=>∃ o2 k1 k2,World.cell? w (Addr.add a1 8) = some (vS o2 k1 k2)/\∃ (x1:lP [(14,aD)]),∃ (x2:lN [(14,aD)]),x1 0 w/\∀ (I1:Nat->Value) (n1:Int) (w1:World),x1 n1 w1->br (decide (n1 < (k1:Int))) (idx o2 k1 n1 2 λa2=>∃ n2 n3,V.rowAt w1 a2 0 2 = some [iI n2,iI n3]/\new w1 (oC [iI 0,iI 0] 184) λk3 w2=>fV w2 (aM k3) [iI n2,iI n3] λw3=>∀ w4,drawn w3 w4->∃ (I2:WP),I2 w4/\∃ o3,(∀ w5,I2 w5->World.cell? w5 c = some (vP o3))/\nn o3 λa3=>∃ o4,(∀ w6,I2 w6->World.cell? w6 (Addr.add a3 10) = some (Value.map o4))/\∃ n4 n5,(∀ w7,I2 w7->V.rowAt w7 (aM k3) 0 2 = some [iI n4,iI n5])/\aX Proofs.Tryz.prog (Instr.lookup 180 (Value.map o4) (vG [iI n4,iI n5]) false) w4 λv1 w8=>∃ n6,v1 = iI n6/\I2 w8/\ax (n6 - 1)/\∃ o5,World.cell? w8 c = some (vP o5)/\nn o5 λa4=>∃ o6 k4 k5,World.cell? w8 (Addr.add a4 5) = some (vS o6 k4 k5)/\idx o6 k4 (n6 - 1) 2 λa5=>∃ o7 k6 k7,World.cell? w8 (Addr.add a5 1) = some (vS o7 k6 k7)/\∃ (x3:lP [(36,aD)]),∃ (x4:lN [(36,aD)]),x3 0 w8/\∀ (I3:Nat->Value) (n7:Int) (w9:World),x3 n7 w9->br (decide (n7 < (k6:Int))) (idx o7 k6 n7 2 λa6=>∃ n8 n9,V.rowAt w9 a6 0 2 = some [iI n8,iI n9]/\new w9 (oC [iI 0,iI 0] 56) λk8 w10=>fV w10 (aM k8) [iI n8,iI n9] λw11=>∀ w12,drawn w11 w12->∃ (I4:WP),I4 w12/\∃ n10,(∀ w13,I4 w13->World.cell? w13 (aM k8) = some (iI n10))/\∃ o8 k9 k10,(∀ w14,I4 w14->World.cell? w14 d = some (vS o8 k9 k10))/\br (decide ((k9:Int)<=n10)) (∃ o9,(∀ w15,I4 w15->World.cell? w15 c = some (vP o9))/\nn o9 λa7=>∃ o10 k11 k12,(∀ w16,I4 w16->World.cell? w16 (Addr.add a7 11) = some (vS o10 k11 k12))/\∃ n11,(∀ w17,I4 w17->World.cell? w17 (aM k8) = some (iI n11))/\∃ o11 k13 k14,(∀ w18,I4 w18->World.cell? w18 d = some (vS o11 k13 k14))/\ax (n11 - (k13:Int))/\idx o10 k11 (n11 - (k13:Int)) 1 λa8=>∃ b1,(∀ w19,I4 w19->World.cell? w19 a8 = some (vB b1))/\br b1 (∀ w20,drawn w12 w20->∃ (I5:WP),I5 w20/\∃ o12,(∀ w21,I5 w21->World.cell? w21 c = some (vP o12))/\nn o12 λa9=>∃ o13,(∀ w22,I5 w22->World.cell? w22 (Addr.add a9 9) = some (Value.map o13))/\∃ n12,(∀ w23,I5 w23->World.cell? w23 (aM k8) = some (iI n12))/\aX Proofs.Tryz.prog (Instr.lookup 180 (Value.map o13) (vG [iI (n6 - 1),iI n12]) false) w20 λv2 w24=>∃ n13,v2 = iI n13/\I5 w24/\ax (n13 - 1)/\wm (Proofs.YtndaepmjkbmjmaaGreatDoor.Fn a) (rE a (iI n1 :: iI (n13 - 1) :: b) w24 λv3 w25=>v3 = vT (Array.mk [])/\ax (n7 + 1)/\x3 (n7 + 1) w25/\x4 (n7 + 1) w25 < x4 n7 w9)) (ax (n7 + 1)/\x3 (n7 + 1) w12/\x4 (n7 + 1) w12 < x4 n7 w9)) (ax (n7 + 1)/\x3 (n7 + 1) w12/\x4 (n7 + 1) w12 < x4 n7 w9)) (ax (n1 + 1)/\x1 (n1 + 1) w9/\x2 (n1 + 1) w9 < x2 n1 w1)) (R (vT (Array.mk [])) w1)):aA Tryz.prog 204 [(.func (.func a) #[] ⟨b⟩),(.pointer (some c)),(.pointer (some d))] w R:=rv Tryz.func204 uG (by kernel_rfl) h
abbrev s8:FuncId:=205
def pG:bn:={ rngs:=[],loops:=[(2,[(14,(.one (.int .i64)))]),(5,[(27,(.one (.int .i64)))])],joins:=[],blocks:=[] }
theorem pH {a:FuncId} {b:List Value} {c d:Addr} {w:World} {R:Value->WP} (h:new w (oC [Value.func (Fn.func a) (Array.mk []) (Array.mk b)] 186) λk1 w1=>∃ o1,World.cell? w1 c = some (vP o1)/\nn o1 λa1=>∃ o2 k2 k3,World.cell? w1 (Addr.add a1 8) = some (vS o2 k2 k3)/\∃ (x1:lP [(14,aD)]),∃ (x2:lN [(14,aD)]),x1 0 w1/\∀ (I1:Nat->Value) (n1:Int) (w2:World),x1 n1 w2->br (decide (n1 < (k2:Int))) (idx o2 k2 n1 2 λa2=>∃ n2 n3,V.rowAt w2 a2 0 2 = some [iI n2,iI n3]/\new w2 (oC [iI 0] 3) λk4 w3=>new w3 (oC [iI 0,iI 0] 184) λk5 w4=>st1 w4 (aM k4) (iI n1) λw5=>fV w5 (aM k5) [iI n2,iI n3] λw6=>∀ w7,drawn w6 w7->∃ (I2:WP),I2 w7/\∃ o3,(∀ w8,I2 w8->World.cell? w8 c = some (vP o3))/\nn o3 λa3=>∃ o4,(∀ w9,I2 w9->World.cell? w9 (Addr.add a3 12) = some (Value.map o4))/\∃ n4,(∀ w10,I2 w10->World.cell? w10 (Addr.add (aM k5) 1) = some (iI n4))/\aX Proofs.Tryz.prog (Instr.lookup 160 (Value.map o4) (iI n4) false) w7 λv1 w11=>∃ o5 k6 k7,v1 = vS o5 k6 k7/\I2 w11/\∃ (x3:lP [(27,aD)]),∃ (x4:lN [(27,aD)]),x3 0 w11/\∀ (I3:Nat->Value) (n5:Int) (w12:World),x3 n5 w12->br (decide (n5 < (k6:Int))) (idx o5 k6 n5 1 λa4=>∃ n6,World.cell? w12 a4 = some (iI n6)/\∃ o6 k8 k9,World.cell? w12 (Addr.add d 4) = some (vS o6 k8 k9)/\idx o6 k8 n6 3 λa5=>∃ o7 k10 k11,World.cell? w12 (Addr.add a5 1) = some (vS o7 k10 k11)/\new w12 (oC [vS none 0 0] 24) λk12 w13=>st1 w13 (aM k12) (vS o7 k10 k11) λw14=>∃ o8,World.cell? w14 c = some (vP o8)/\∃ n7,World.cell? w14 (aM k5) = some (iI n7)/\∃ o9 k13 k14,World.cell? w14 (aM k12) = some (vS o9 k13 k14)/\rE 105 [vP o8,iI n7,vS o9 k13 k14,Value.func (Fn.func 206) (Array.mk []) (Array.mk [vP (some c),vP (some (aM k12)),vP (some (aM k1)),vP (some (aM k4))])] w14 λv2 w15=>∃ n8,v2 = iI n8/\ax (n5 + 1)/\x3 (n5 + 1) w15/\x4 (n5 + 1) w15 < x4 n5 w12) (ax (n1 + 1)/\x1 (n1 + 1) w12/\x2 (n1 + 1) w12 < x2 n1 w2)) (R (vT (Array.mk [])) w2)):aA Tryz.prog 205 [(.func (.func a) #[] ⟨b⟩),(.pointer (some c)),(.pointer (some d))] w R:=rv Tryz.func205 pG (by kernel_rfl) h
abbrev om:FuncId:=206
def l8:bn:={ rngs:=[],loops:=[],joins:=[],blocks:=[] }
theorem l9 {a b:Int} {c d e f:Addr} {w:World} {R:Value->WP} (h:∀ w1,drawn w w1->∃ (I1:WP),I1 w1/\∃ o1,(∀ w2,I1 w2->World.cell? w2 c = some (vP o1))/\nn o1 λa1=>∃ o2,(∀ w3,I1 w3->World.cell? w3 (Addr.add a1 9) = some (Value.map o2))/\∃ o3 k1 k2,(∀ w4,I1 w4->World.cell? w4 d = some (vS o3 k1 k2))/\idx o3 k1 b 1 λa2=>∃ n1,(∀ w5,I1 w5->World.cell? w5 a2 = some (iI n1))/\aX Proofs.Tryz.prog (Instr.lookup 180 (Value.map o2) (vG [iI a,iI n1]) false) w1 λv1 w6=>∃ n2,v1 = iI n2/\I1 w6/\∀ w7,drawn w6 w7->∃ (I2:WP),I2 w7/\br (decide (0 < n2)) (∃ o4,(∀ w8,I2 w8->World.cell? w8 c = some (vP o4))/\∃ o5 k3 k4,(∀ w9,I2 w9->World.cell? w9 d = some (vS o5 k3 k4))/\ax (b + 1)/\uc o5 k3 k4 (some (b + 1)) none none 1 λ(o6:Yg) (k5 k6:Nat)=>rE 207 [vP o4,vS o6 k5 k6] w7 λv2 w10=>∃ b1,v2 = vB b1/\I2 w10/\br b1 (∃ g1 x1,World.cell? w10 e = some (Value.func (Fn.func g1) (Array.mk []) (Array.mk x1))/\ax (n2 - 1)/\∃ n3,World.cell? w10 f = some (iI n3)/\wm (Proofs.YtndaepmjkbmjmaaGreatDoor.Fn g1) (rE g1 (iI (n2 - 1) :: iI n3 :: x1) w10 λv3 w11=>v3 = vT (Array.mk [])/\R (vT (Array.mk [])) w11)) (R (vT (Array.mk [])) w10)) (R (vT (Array.mk [])) w7)):aA Tryz.prog 206 [(.int .i64 a),(.int .i64 b),(.pointer (some c)),(.pointer (some d)),(.pointer (some e)),(.pointer (some f))] w R:=rv Tryz.func206 l8 (by kernel_rfl) h
abbrev oq:FuncId:=207
def l_:bn:={ rngs:=[],loops:=[],joins:=[],blocks:=[] }
theorem mc {a b:Yg} {c d:Nat} {w:World} {R:Value->WP} (h:new w (oC [vP a] 175) λk1 w1=>rE 209 [vS b c d,Value.func (Fn.func 241) (Array.mk []) (Array.mk [vP (some (aM k1))])] w1 λv1 w2=>∃ b1,v1 = vB b1/\R (vB !b1) w2):aA Tryz.prog 207 [(.pointer a),(.slice b c d)] w R:=rv Tryz.func207 l_ (by kernel_rfl) h
abbrev bg:FuncId:=239
def mS:bn:={ rngs:=[],loops:=[],joins:=[],blocks:=[] }
theorem mT {a b:Int} {c:Addr} {w:World} {R:Value->WP} (h:∀ w1,drawn w w1->∃ (I1:WP),I1 w1/\∃ o1 k1 k2,(∀ w2,I1 w2->World.cell? w2 c = some (vS o1 k1 k2))/\∃ o2 k3 k4,(∀ w3,I1 w3->World.cell? w3 c = some (vS o2 k3 k4))/\idx o2 k3 a 1 λa1=>∃ o3 k5 k6,(∀ w4,I1 w4->World.cell? w4 a1 = some (vS o3 k5 k6))/\new w1 (oC [iI b] 3) λk7 w5=>I1 w5/\rS (ir 24 (Array.mk [vS o3 k5 k6,vS (some (aM k7)) 1 1])) w5 λv1 w6=>∃ o4 k8 k9,v1 = vS o4 k8 k9/\I1 w6/\idx o1 k1 a 1 λa2=>st1 w6 a2 (vS o4 k8 k9) λw7=>R (vT (Array.mk [])) w7):aA Tryz.prog 239 [(.int .i64 a),(.int .i64 b),(.pointer (some c))] w R:=rv Tryz.func239 mS (by kernel_rfl) h
abbrev fp:FuncId:=241
def jX:bn:={ rngs:=[],loops:=[],joins:=[],blocks:=[] }
theorem jY {a:Int} {b:Addr} {w:World} {R:Value->WP} (h:∀ w1,drawn w w1->∃ (I1:WP),I1 w1/\∃ o1,(∀ w2,I1 w2->World.cell? w2 b = some (vP o1))/\nn o1 λa1=>∃ o2 k1 k2,(∀ w3,I1 w3->World.cell? w3 a1 = some (vS o2 k1 k2))/\br (decide (a < (k1:Int))) (R (vB true) w1) (∃ o3,(∀ w4,I1 w4->World.cell? w4 b = some (vP o3))/\nn o3 λa2=>∃ o4 k3 k4,(∀ w5,I1 w5->World.cell? w5 (Addr.add a2 11) = some (vS o4 k3 k4))/\∃ o5,(∀ w6,I1 w6->World.cell? w6 b = some (vP o5))/\nn o5 λa3=>∃ o6 k5 k6,(∀ w7,I1 w7->World.cell? w7 a3 = some (vS o6 k5 k6))/\ax (a - (k5:Int))/\idx o4 k3 (a - (k5:Int)) 1 λa4=>∃ b1,(∀ w8,I1 w8->World.cell? w8 a4 = some (vB b1))/\R (vB !b1) w1)):aA Tryz.prog 241 [(.int .i64 a),(.pointer (some b))] w R:=rv Tryz.func241 jX (by kernel_rfl) h
end Go.Proofs.YtndaepmjkbmjmaaGreatDoor
namespace Go.V
theorem Fy:∀ (l:List Int) (a b:Int),dd (l ++ [a,b]) = if a = b then dd (l ++ [a]) else dd (l ++ [a]) ++ [b]
 | [],a,b=>by
  by_cases h:a = b
  ·subst h; simp [dd]
  ·simp [dd,h]
 | [x],a,b=>by
  have:=Fy [] a b
  simp only [WT] at this
  by_cases h:a = b
  ·subst h; simp [dd]
  ·by_cases h2:x = a
   ·subst h2; simp [dd,h]
   ·simp [dd,h,h2]
 | x :: y :: l,a,b=>by
  have ih:=Fy (y :: l) a b
  have e1:dd (x :: y :: l ++ [a,b]) = if x = y then dd (y :: l ++ [a,b]) else x :: dd (y :: l ++ [a,b]):=rfl
  have e2:dd (x :: y :: l ++ [a]) = if x = y then dd (y :: l ++ [a]) else x :: dd (y :: l ++ [a]):=rfl
  rw [e1,e2,ih]
  by_cases h:a = b <;> by_cases h2:x = y <;> simp [h,h2]
theorem AL {xs:List Int} {m:Nat} {a b:Int} (ha:xs[m]? = some a) (hb:xs[m + 1]? = some b):dd (xs.take (m + 2)) = if a = b then dd (xs.take (m + 1)) else dd (xs.take (m + 1)) ++ [b]:=by
 have e1:xs.take (m + 1) = xs.take m ++ [a]:=by rw [Wf,ha]; rfl
 have e2:xs.take (m + 2) = xs.take m ++ [a,b]:=by rw [Wf,hb,e1]; simp
 rw [e2,e1,Fy]
theorem Ou {xs:List Int} {n:Nat} (h:n<=1):dd (xs.take n) = xs.take n:=by
 match n,h with
 | 0,_=>simp [dd]
 | 1,_=>cases xs <;> simp [dd]
end Go.V
namespace Go.Proofs.YtndaepmjkbmjmaaGreatDoor
open Go.V Go.Sort Go.Shelf
variable {w:World} {L:List ay} {a:Yg} {l c:Nat} {xs:List Int}
theorem Jq (h:St w (own 1 a l c (iv xs) :: L)) (hb:l < 4611686018427387904) :
  aA Tryz.prog l5 [.slice a l c] w λv w'=>∃ a' c',v = .slice a' (dd xs).length c'/\St w' (own 1 a' (dd xs).length c' (iv (dd xs)) :: L):=by
 have hln:=iz h
 rw [oX] at hln
 have hlc:=fa h
 have hl:xs.length = l:=by omega
 refine kC (ae (λh1=>?_) λh1=>?_)
 ·have h1:l < 2:=by have:=V7 h1; omega
  have e:dd xs = xs:=by have:=Ou (xs:=xs) (n:=l) (by omega); rwa [Wq (by omega)] at this
  rw [e,hl]; exact ⟨a,c,rfl,h⟩
 have h1:2<=l:=by have:=V8 h1; omega
 refine ⟨λz w'=>∃ n:Nat,z = ((n + 1:Nat):Int)/\n + 1<=l/\dd (xs.take (n + 1)) = xs.take (n + 1)/\St w' (own 1 a l c (iv xs) :: L),λz _=>l - z.toNat,⟨0,rfl,by omega,Ou (Wr _),h⟩,?_⟩
 clear h
 rintro _ z w1 ⟨n,rfl,hn,hS,h⟩
 refine ae (λh2=>?_) λh2=>?_
 rotate_left
 ·have h2:l = n + 1:=by have:=V8 h2; omega
  have e:dd xs = xs:=by rwa [Wq (by omega)] at hS
  rw [e,hl]; exact ⟨a,c,rfl,h⟩
 have h2:n + 1 < l:=by have:=V7 h2; omega
 intro w2 hd
 have h:=h.eq (aB hd)
 have hr:a_ (hp w2) xs a l:=dS hl (fN 0 h.l)
 obtain ⟨x,ad,hx,rfl,cx⟩:=hr.cE h2
 obtain ⟨z,ad2,hz,e2,cz⟩:=hr.cE (by omega:n < l)
 cases e2
 have e1:((n + 1:Nat):Int) - 1 = (n:Int):=by omega
 rw [e1]
 refine ⟨λu=>Gr w2 u,Gr.refl _,aw rfl h2 ⟨x,λu s=>cx u s,⟨by omega,by omega⟩,aw rfl (by omega) ⟨z,λu s=>cz u s,ae (λh3=>?_) λh3=>?_⟩⟩⟩
 rotate_left
 ·have h3:x≠z:=by simpa using h3
  refine ⟨⟨by omega,by omega⟩,⟨n + 1,by simp,h2,?_,h⟩,bw h2⟩
  rw [AL hz hx,Wg (XG h3),hS,Wf (i:=n + 1),hx]; rfl
 have h3:x = z:=by simpa using h3
 subst h3
 refine dE (by omega) hlc ?_
 refine ⟨λz y w'=>∃ (k t:Nat) (us:List Int),z = (k:Int)/\y = ((t + 1:Nat):Int)/\n + 1<=k/\k<=n + 1 + t/\n + 1 + t + 1<=l/\us.length = l/\us.drop k = xs.drop k/\us.take k = dd (xs.take (n + 1 + t + 1))/\St w' (own 1 (some ad) l c (iv us) :: L),λ_ y _=>l - y.toNat,
  ⟨n + 1,0,xs,rfl,rfl,Wr _,Wr _,by omega,hl,rfl,?_,h⟩,?_⟩
 ·rw [show n + 1 + 0 + 1 = n + 2 by omega,AL hz hx,Wn rfl,hS]
 clear h hr cx cz
 rintro _ _ _ w3 ⟨k,t,us,rfl,rfl,hk1,hk2,ht,hul,hud,hut,h⟩
 have hul2:(iv us).length = l:=by rw [oX,hul]
 refine ae (λh3=>?_) λh3=>?_
 rotate_left
 ·have h3:l = n + 1 + t + 1:=by have:=V8 h3; omega
  rw [<- h3,Wq (show xs.length<=l by omega)] at hut
  have hkl:(dd xs).length = k:=by rw [<- hut,Wx]; omega
  have hc:=DW (ty:=0) (c2:=c - k) aQ (rfl:aj Ty NA = .slice _) (rfl:Ty cX = some _) rfl rfl (λv hv=>by rcases Wp.1 hv with rfl | hv; rfl; cases hv) (by show 0 < 1; decide) h (show k<=l by omega)
  refine dE (by omega) hlc (hc.mono ?_)
  rintro _ w4 ⟨vs,hv,h⟩
  refine tL (by omega) ?_
  have h:=Az h (k:=k) (by omega)
  have e:vs.take (k * 1) = iv (dd xs):=hv.trans (by rw [<- hut]; show (iv us).take (k * 1) = _; rw [Xw]; unfold iv; rw [List.map_take])
  rw [hkl]
  exact ⟨_,_,rfl,by rw [<- e]; exact h⟩
 have h3:t + 1 < l - (n + 1):=by have:=V7 h3; omega
 intro w4 hd
 have h:=h.eq (aB hd)
 have hr:=(dS hul (fN 0 h.l):a_ (hp w4) us (some ad) l).drop (k:=n + 1) (m:=c) (by omega) hlc
 have same:∀ j,k<=j->us[j]? = xs[j]?:=λj hj=>by
  have:=congrArg (λl=>l[j - k]?) hud
  simp only [WL] at this
  rwa [show k + (j - k) = j by omega] at this
 obtain ⟨x2,ad3,hx2,e3,cx⟩:=hr.cE h3
 obtain ⟨z2,ad4,hz2,e4,cz⟩:=hr.cE (by omega:t < l - (n + 1))
 rw [e3] at e4
 cases e4
 rw [WL,same _ (by omega)] at hx2 hz2
 have e1:((t + 1:Nat):Int) - 1 = (t:Int):=by omega
 have hx3:xs[n + 1 + t + 1]? = some x2:=by rw [<- hx2]; congr 1
 have hz3:xs[n + 1 + t]? = some z2:=by rw [<- hz2]
 rw [e1]
 refine ⟨λu=>Gr w4 u,Gr.refl _,aw e3 h3 ⟨x2,λu s=>cx u s,⟨by omega,by omega⟩,aw e3 (by omega) ⟨z2,λu s=>cz u s,ae (λh4=>?_) λh4=>?_⟩⟩⟩
 rotate_left
 ·have h4:x2 = z2:=by simpa using h4
  subst h4
  refine ⟨⟨by omega,by omega⟩,⟨k,t + 1,us,rfl,by simp,hk1,by omega,by omega,hul,hud,?_,h⟩,bw (by omega)⟩
  rw [hut,show n + 1 + (t + 1) + 1 = n + 1 + t + 2 by omega,AL hz3 hx3,Wn rfl]
 have h4:x2≠z2:=by simpa using h4
 refine aw e3 h3 ⟨x2,cx _ (Gr.refl _),aw rfl (by omega) ?_⟩
 refine oU h rfl (by rw [hul2]; omega) λw5 h=>?_
 rw [Qy] at h
 refine ⟨⟨by omega,by omega⟩,⟨by omega,by omega⟩,⟨k + 1,t + 1,us.set k x2,by simp,by simp,by omega,by omega,by omega,by rw [WE,hul],?_,?_,h⟩,bw (by omega)⟩
 ·rw [List.drop_set_of_lt (by omega),<- List.drop_drop (i:=1),hud,List.drop_drop]
 ·have hku:k < us.length:=by omega
  rw [show n + 1 + (t + 1) + 1 = n + 1 + t + 2 by omega,AL hz3 hx3,Wg (XG h4),<- hut,Wf,XM hku,List.take_set_of_le (Wr _)]
  rfl
end Go.Proofs.YtndaepmjkbmjmaaGreatDoor
namespace Go.V
open MapKept
section
variable {κ : Type} [DecidableEq κ] [MVal κ] {P:Program} {w:World} {L:List ay} {Ty:TypeId->Option cP}
theorem tW (k:κ) (u v:Value):∀ m:List (κ × Value),bK k v (bK k u m) = bK k v m
 | []=>by simp [bK]
 | (a,x) :: m=>by
  unfold bK
  by_cases h:k = a
  ·subst h; simp [bK]
  ·have e:bK k u ((a,x) :: m) = (a,x) :: bK k u m:=by show (if k = a then _ else _) = _; rw [Wg h]
   rw [e,Wg h]
   show (if k = a then _ else (a,x) :: bK k v (bK k u m)) = _
   rw [Wg h,tW k u v m]
theorem R9 {k:κ} {u:Value}:∀ {m:List (κ × Value)} {j:Nat},assoc k m = some u->(m[j]?).map (·.1) = some k->(∀ v,bK k v m = m.set j (k,v))->m[j]? = some (k,u)
 | [],j,h,_,_=>by cases h
 | (a,x) :: m,0,h,hk,hp=>by
  simp at hk; subst hk
  simp [assoc] at h; subst h
  rfl
 | (a,x) :: m,j + 1,h,hk,hp=>by
  by_cases e:k = a
  ·subst e
   have h1:=hp (.bool true)
   have h2:=hp (.bool false)
   simp [bK] at h1 h2
   have h3:=h1.1.trans h2.1.symm
   cases h3
  ·have e1:assoc k ((a,x) :: m) = assoc k m:=by show (if k = a then _ else _) = _; rw [Wg e]
   rw [e1] at h
   rw [XW] at hk ⊢
   refine R9 h hk λv=>?_
   have h1:=hp v
   simpa [bK,e] using h1
def Tf (b:Nat) (m:List (κ × Value)) (k:κ) (n:Int):ay:=λh=>∃ es clock i,h b = some (.map es clock)/\uV es clock m/\i < m.length/\(∀ u,bK k u m = m.set i (k,u))/\(m[i]?).map (·.1) = some k/\(es[i]?).map (λe=>(e.born:Int)) = some n
theorem Fz {b:Nat} {m:List (κ × Value)} {k:κ} {n:Int}:St w (Tf b m k n :: L)↔∃ es clock i,uV es clock m/\i < m.length/\(∀ u,bK k u m = m.set i (k,u))/\(m[i]?).map (·.1) = some k/\(es[i]?).map (λe=>(e.born:Int)) = some n/\St w (blk b (.map es clock) :: L) :=
 ⟨λ⟨h1,h2,d,s1,s2,⟨es,cl,i,ha,q1,q2,q3,q4,q5⟩,hl⟩=>⟨es,cl,i,q1,q2,q3,q4,q5,h1,h2,d,s1,s2,ha,hl⟩,λ⟨es,cl,i,q1,q2,q3,q4,q5,h1,h2,d,s1,s2,ha,hl⟩=>⟨h1,h2,d,s1,s2,⟨es,cl,i,ha,q1,q2,q3,q4,q5⟩,hl⟩⟩
theorem Js {b:Nat} {es:Array MapEntry} {cl:Nat} (hg:w.heap[b]? = some (.map es cl)) (o:Array MapEntry × Nat):Ev w { w with heap:=w.heap.setIfInBounds b (.map o.1 o.2) }:=by
 refine ⟨rfl,rfl,rfl,by simp,?_,?_⟩ <;>
 ·intro x d hx
  rw [Xn]; exact hx
  intro e; subst e; rw [hg] at hx; cases hx
theorem map_take (hT:eC P Ty) {t kt et:TypeId} {i:cP} {z:Value} (hk:aj Ty t = .map kt et) (hkt:rZ P kt κ) (hi:Ty et = some i) (hz:i.zero = some z) {b:Nat} {m:List (κ × Value)} (h:St w (mapA b m :: L)) (k:κ) :
  aX P (Instr.mapEntry t (.map (some b)) (MVal.val k)) w λv w'=>∃ n:Int,v = .tuple #[(assoc k m).getD z,.int .i64 n]/\St w' (Tf b (bK k ((assoc k m).getD z) m) k n :: L):=by
 obtain ⟨d,hd,hd'⟩:=du hT hk (by simp)
 rw [wP hd'] at hd
 obtain ⟨es,cl,⟨he,hnd,hlt⟩,h⟩:=js.1 h
 obtain ⟨r,hf,q2,q3,q4⟩:=hkt.find w k es.toList m he
 obtain ⟨info,d2,ha⟩:=q8 hT hi
 have hzz:(zeroValue et).run P w = .ok z w:=jA ha.inf (by rw [<- ha.zero,hz])
 have hg:=h.get
 have hc:=λe=>hkt.check w e k
 have hlen:es.size = m.length:=by have:=congrArg List.length he; simpa using this
 cases r with
 | none =>
  have e0:assoc k m = none:=by rw [<- q2]; rfl
  rw [e0]
  refine ⟨_,_,?_,Js hg (es.push { key:=MVal.val k,val:=z,born:=cl },cl + 1),cl,rfl,Fz.2 ⟨_,_,m.length,?_,?_,?_,?_,?_,h.setObj _⟩⟩
  ·unfold Instr.mapEntry
   simp only [Sem.run_bind,aS hd,Result.andThen_ok,run_getObj_map w b es cl hg,hc,hf,hzz]
   rw [run_setObj_map _ hg]
   rfl
  ·refine ⟨by rw [q4 rfl]; simp [he],?_,?_⟩
   ·rw [Array.toList_push,WB,WR]
    refine ⟨hnd,by simp,λa ha b hb e=>?_⟩
    obtain ⟨x,hx,rfl⟩:=Wu.1 ha
    have:=hlt x hx
    simp at hb; omega
   ·intro e he'
    rw [Array.toList_push,Wd,Wy] at he'
    rcases he' with he' | rfl
    ·have:=hlt e he'; omega
    ·exact Nat.lt_succ_self _
  ·show _ < (bK k z m).length
   rw [q4 rfl]; simp
  ·intro u
   show bK k u (bK k z m) = (bK k z m).set _ _
   rw [tW,q4 rfl u,q4 rfl z]
   simp
  ·show ((bK k z m)[m.length]?).map _ = _
   rw [q4 rfl]; simp
  ·rw [<- hlen]; simp
 | some x =>
  obtain ⟨j,u⟩:=x
  obtain ⟨p2,p3,p4⟩:=q3 j u rfl
  have hj:j < es.size:=by omega
  have e0:assoc k m = some u:=by rw [<- q2]; rfl
  have hmj:m[j]? = some (k,u):=R9 e0 p3 p4
  have hput:bK k u m = m:=by
   rw [p4 u]
   exact wX hmj
  have hkey:(es[j]?).map (λe=>(e.key,e.val)) = some (MVal.val k,u):=by
   have h1:=congrArg (λl=>l[j]?) he
   simp only [Wc,hmj,Xb] at h1
   rw [<- h1]; simp
  obtain ⟨e,hej,hek⟩:=X0.1 hkey
  have hek1:e.key = MVal.val k:=congrArg Prod.fst hek
  have hk1:((es[j]?).map (·.key)).getD (MVal.val k) = MVal.val k:=by rw [hej]; exact hek1
  have hmod:(es.modify j λe=>{ e with key:=MVal.val k }) = es:=by
   apply Array.ext_getElem?
   intro i
   rw [W7]
   split
   ·rename_i hji; subst hji
    rw [hej,<- hek1]; rfl
   ·rfl
  rw [e0]
  refine ⟨_,_,?_,Js hg (es,cl),(e.born:Int),rfl,Fz.2 ⟨_,_,j,?_,?_,?_,?_,?_,h.setObj _⟩⟩
  ·unfold Instr.mapEntry
   simp only [Sem.run_bind,aS hd,Result.andThen_ok,run_getObj_map w b es cl hg,hc,hf,hk1,Instr.keyThatStays,hkt.bits,if_true,Sem.run_pure,hmod]
   rw [run_setObj_map _ hg]
   simp [hej,goInt]
  ·show uV _ _ (bK k u m)
   rw [hput]; exact ⟨he,hnd,hlt⟩
  ·show _ < (bK k u m).length
   rw [hput]; exact p2
  ·intro v
   show bK k v (bK k u m) = (bK k u m).set _ _
   rw [hput,p4 v]
  ·show ((bK k u m)[j]?).map _ = _
   rw [hput,hmj]; rfl
  ·rw [hej]; rfl
theorem Hu {t:TypeId} {b:Nat} {m:List (κ × Value)} {k:κ} {n:Int} (h:St w (Tf b m k n :: L)) (x:Value) :
  aX P (Instr.entryStore t (.map (some b)) (.int .i64 n) x) w λ_ w'=>St w' (mapA b (bK k x m) :: L):=by
 obtain ⟨es,cl,i,⟨he,hnd,hlt⟩,hi,hput,hm,hb,h⟩:=Fz.1 h
 have hg:=h.get
 have hlen:es.size = m.length:=by have:=congrArg List.length he; simpa using this
 obtain ⟨e,hei,heb⟩:=X0.1 hb
 have hidx:es.findIdx? (λe=>(e.born:Int) == n) = some i:=by
  rw [Array.findIdx?_eq_some_iff_getElem]
  refine ⟨by omega,?_,λj hj=>?_⟩
  ·have:=(WW.1 hei).2
   rw [this,heb]; simp
  ·intro hne
   have hne:(es[j].born:Int) = n:=by simpa using hne
   have h1:(es.toList.map (·.born))[j]? = some es[j].born:=by simp [show j < es.size by omega]
   have h2:(es.toList.map (·.born))[i]? = some e.born:=by rw [Wc,WQ,hei]; rfl
   have e3:es[j].born = e.born:=by omega
   rw [e3] at h1
   have:=hnd
   have h4:=(List.getElem?_inj (i:=j) (j:=i) (by simp; omega) hnd).1 (by rw [h1,h2])
   omega
 refine ⟨(),_,?_,Js hg (es.modify i λe=>{ e with val:=x },cl),js.2 ⟨_,_,?_,h.setObj _⟩⟩
 ·unfold Instr.entryStore
  simp only [Sem.run_bind,run_getObj_map w b es cl hg,Result.andThen_ok]
  show ((asInt (.int .i64 n)).run P w).andThen _ = _
  have ha:(asInt (.int .i64 n)).run P w = .ok n w:=rfl
  rw [ha,Result.andThen_ok]
  simp only [hidx]
  exact run_setObj_map _ hg
 ·refine ⟨?_,?_,?_⟩
  rotate_left
  ·have:(es.modify i λe=>{ e with val:=x }).toList.map (·.born) = es.toList.map (·.born):=by
    apply W8
    intro i
    simp only [Wc,WQ,W7]
    split
    ·cases es[i]? <;> rfl
    ·rfl
   rw [this]; exact hnd
  ·intro e he'
   obtain ⟨i,hi⟩:=WH he'
   rw [WQ,W7] at hi
   split at hi
   ·cases hx:es[i]? with
    | none=>rw [hx] at hi; cases hi
    | some x=>rw [hx] at hi; cases hi; exact hlt x (by rw [<- WQ] at hx; exact V_ hx)
   ·rw [<- WQ] at hi; exact hlt e (V_ hi)
  rw [hput x]
  apply W8
  intro j
  have h1:=congrArg (λl=>l[j]?) he
  simp only [Wc,WQ] at h1
  simp only [Wc,WQ,W7,Xf]
  by_cases hij:i = j
  ·subst hij
   rw [hei] at h1 ⊢
   cases hmi:m[i]? with
   | none=>rw [hmi] at hm; cases hm
   | some y =>
    rw [hmi] at h1 hm
    simp only [Xb,Option.some.injEq,Prod.mk.injEq] at h1 hm
    simp [hi,h1.1,hm]
  ·simp [hij,h1]
end
end Go.V

namespace Go.V
theorem yS {bs:List Bool} {n:Nat} (h:bs.length<=n):dc bs = ((List.range n).filter λk=>aN bs k).map λ(k:Nat)=>(k:Int):=by
 unfold dc mb rX
 have e:n = bs.length + (n - bs.length):=by omega
 rw [e,List.range_add,WK]
 have:((List.range (n - bs.length)).map (bs.length + ·)).filter (λk=>aN bs k) = []:=by
  rw [Xv]
  intro k hk
  obtain ⟨j,_,rfl⟩:=Wu.1 hk
  rw [oY (by omega)]; simp
 rw [this,WG]
end Go.V
namespace Go.V
theorem av.part {h:Hp} {b:Nat} {vs:List Value} (r:av h ⟨b,0,none⟩ vs) (i n:Nat):av h ((⟨b,0,none⟩ : Addr).add (cV i n)) ((vs.drop (i * n)).take n):=λj v hj=>by
 rw [Xg] at hj
 split at hj
 ·rw [WL] at hj
  rw [add_add,aJ]
  exact r _ v hj
 ·cases hj
end Go.V





namespace Go.V
def vD (n:Nat) (bs cs:List Bool):List Bool:=wL n λk=>decide (k < n) && (aN bs k || aN cs k)
theorem iR (n:Nat) (bs cs:List Bool):(vD n bs cs).length = n:=kT _ _
theorem yT {n:Nat} {bs cs:List Bool} (h1:bs.length = n) (h2:cs.length = n) (k:Nat):aN (vD n bs cs) k = true↔aN bs k = true\/aN cs k = true:=by
 unfold vD
 rw [wM λk hk=>by simp; omega]
 simp only [Wo,W9,Wk]
 exact ⟨λh=>h.2,λh=>⟨by rcases h with h | h <;> have:=SU h <;> omega,h⟩⟩
end Go.V


namespace Go.V
theorem FA {ms:List Bool} {u:Nat} (h:u < ms.length):(bv ms)[u]? = some (.bool (aN ms u)):=by
 unfold bv; rw [Wc,Wa h,jr (Wa h)]; rfl
theorem AM {w:World} {k u:Nat} {ms:List Bool} (r:av (hp w) ⟨k,0,none⟩ (bv ms)) (h:u < ms.length):w.cell? ((⟨k,0,none⟩ : Addr).add u) = some (.bool (aN ms u)):=r.cell (sub.refl _) (j:=u) (FA h)
theorem FB (ms:List Bool) (u:Nat) (b:Bool):(bv ms).set u (.bool b) = bv (ms.set u b):=by simp [bv,Xd]
theorem Ci (n:Nat):List.replicate n (Value.bool false) = bv (List.replicate n false):=by simp [bv]
def Ov (g:af) (nn:List Bool) (row:List Int):Prop:=∀ s∈row,(g.T:Int)<=s/\aN nn (s.toNat - g.T) = true
def T8 (g:af) (nn:List Bool) (p:aH):Prop:=Ov g nn p.right->aN nn (p.left.toNat - g.T) = true
theorem ju.Vk {g:af} {nn:List Bool} (h:ju g nn) (iG:PS g) {row:List Int}:Ov g nn row↔De g row:=by
 refine forall_congr' λs=>imp_congr Iff.rfl ?_
 constructor
 ·rintro ⟨h1,h2⟩
  have:=(h.2 _).1 h2
  rwa [show ((g.T + (s.toNat - g.T):Nat):Int) = s from by omega] at this
 ·intro hN
  have hl:=hN.left iG
  refine ⟨hl.1,(h.2 _).2 ?_⟩
  rwa [show ((g.T + (s.toNat - g.T):Nat):Int) = s from by omega]
theorem Tg {g:af} {nn:List Bool} (iG:PS g) (hl:nn.length = g.N) (hs:∀ i,aN nn i = true->Af g ((g.T + i:Nat):Int)) (hc:∀ p∈g.prods,T8 g nn p):ju g nn:=by
 refine ⟨hl,λi=>⟨hs i,λh=>?_⟩⟩
 have key:∀ s,Af g s->aN nn (s.toNat - g.T) = true:=λs h=>by
  induction h with
  | mk p hp h1 ih=>exact hc p hp λs hs=>⟨(h1 s hs |>.left iG).1,ih s hs⟩
 have:=key _ h
 rwa [show ((g.T + i:Nat):Int).toNat - g.T = i from by omega] at this
end Go.V
namespace Go.Proofs.YtndaepmjkbmjmaaGreatDoor
open Go.V
section
variable {w:World} {L:List ay} {g:af} {x:GA} {a an:Yg} {l c nl cn:Nat} {row:List Int} {nn:List Bool}
theorem Cj (hg:gR (hp w) g x) (hn:a_ (hp w) nn an nl) (hnl:nn.length = g.N) (hr:a_ (hp w) row a l) (hs:Vm g row) (hb:l<=4611686018427387904) (hT:g.T<=65) (hN:g.N<=65):aA Tryz.prog nY [.agg ⟨x.cells⟩,.slice an nl cn,.slice a l c] w λv w'=>(∃ r:Bool,v = .bool r/\(r = true↔Ov g nn row))/\Gr w w':=by
 refine lZ ?_
 refine cW hg λk1 w1 gw hg B=>?_
 have tl:g.T = x.tl:=hg.t.1
 have hn:=hn.mono gw
 have hr:=hr.mono gw
 have hn1:=hn.1
 refine ⟨λn w'=>∃ j:Nat,n = j/\j<=l/\Ov g nn (row.take j)/\Gr w1 w',λn _=>l - n.toNat,⟨0,rfl,by omega,λs hs=>by simp at hs,Gr.refl _⟩,?_⟩
 rintro _ n w2 ⟨j,rfl,hj,hv,g2⟩
 refine ae (λh1=>?_) λh1=>?_
 ·have h1:j < l:=by have:=V7 h1; omega
  obtain ⟨y,ad,hy1,hya,hy2⟩:=hr.cE h1
  have hym:=V_ hy1
  have hys:=hs y hym
  intro w3 hd
  have g3:Gr w1 w3:=g2.trans (Gr.drawn hd)
  have no:¬ ((g.T:Int)<=y/\aN nn (y.toNat - g.T) = true)->(∃ r:Bool,Value.bool false = .bool r/\(r = true↔Ov g nn row))/\Gr w w3:=λhn=>⟨⟨false,rfl,⟨λh=>absurd h (by decide),λh=>absurd (h y hym) hn⟩⟩,gw.trans g3⟩
  refine ⟨λw=>Gr w1 w,g3,aw hya h1 ⟨y,λw s=>hy2 _ s,_,_,_,λw s=>B.c0 s,ae (λh2=>no ?_) λh2=>?_⟩⟩
  ·have h2:=V7 h2; omega
  have h2:=V8 h2
  have hun:y.toNat - g.T < nl:=by omega
  obtain ⟨b,ad2,hb1,hba,hb2⟩:=hn.cE hun
  have eu:y - (x.tl:Int) = ((y.toNat - g.T:Nat):Int):=by rw [<- tl]; omega
  refine aw hya h1 ⟨y,λw s=>hy2 _ s,_,_,_,λw s=>B.c0 s,⟨by omega,by omega⟩,?_⟩
  rw [eu]
  refine aw hba hun ⟨b,λw s=>hb2 _ s,ae (λh3=>no ?_) λh3=>?_⟩
  ·rw [jr hb1]
   cases b
   ·simp
   ·cases h3
  ·refine ⟨⟨by omega,by omega⟩,⟨j + 1,by simp,by omega,λs hs=>?_,g3⟩,bw h1⟩
   rw [bA hy1] at hs
   rcases Wd.1 hs with hs | hs
   ·exact hv s hs
   ·simp at hs; subst hs
    exact ⟨by omega,by rw [jr hb1]; simpa using h3⟩
 ·have h1:j = l:=by have:=V8 h1; omega
  subst h1
  rw [Wq (by have:=hr.1; omega)] at hv
  exact ⟨⟨true,rfl,by simp [hv]⟩,gw.trans g2⟩
theorem Th (hg:gR (hp w) g x) (hb:iE g) (he:gH g):aA Tryz.prog uv [.agg ⟨x.cells⟩] w λv w'=>∃ (k:Nat) (nn:List Bool),v = .slice (some ⟨k,0,none⟩) g.N g.N/\ju g nn/\St w' (aK k (bv nn) :: all w):=by
 refine qL ?_
 refine cW hg λk1 w1 gw hg B=>?_
 obtain ⟨iG,bT,bN,pN,pT,bP⟩:=Q6 he
 have tl:g.T = x.tl:=hg.t.1
 have nl:g.N = x.nl:=hg.n.1
 have pl:=hg.p.1
 have gs:sub (hp w) (hp w1):=gw
 have h1:=St.all w1
 unfold V.all at h1
 generalize hH:hp w1 = H at *
 refine ⟨_,_,_,B.c1 (aU 0 h1.l),?_⟩
 rw [<- nl]
 refine ⟨⟨by omega,rfl,by omega⟩,?_⟩
 rw [Ws,db,Ci]
 refine ah h1 λk4 w2 h2=>?_
 obtain ⟨Q,hQ⟩:=AH (λ(b:Bool) (w:World) (m:Nat)=>∃ nn:List Bool,nn.length = g.N/\(∀ i,aN nn i = true->Af g ((g.T + i:Nat):Int))/\m = Ce nn + (if b then 1 else 0)/\(b = false->∀ p∈g.prods,T8 g nn p)/\St w [aK k4 (bv nn),has H])
 obtain ⟨μ,mu1,mu2⟩:=Cf (λ(y:Bool × World) m=>Q y.1 y.2 m)
 refine ⟨λb w'=>∃ m,Q b w' m,λb w=>μ (b,w),⟨Ce (List.replicate g.N false) + 1,?_⟩,?_⟩
 ·rw [hQ]
  exact ⟨List.replicate g.N false,by simp,λi h=>(by rw [kz] at h; exact absurd h (by decide)),rfl,λh=>absurd h (by decide),h2⟩
 clear h2
 intro _ b w3 hP
 have hP:=mu2 (b,w3) hP
 dsimp only at hP
 generalize hμ : μ (b,w3) = μ0 at *
 rw [hQ] at hP
 obtain ⟨nn0,hl0,hs0,hmu,hc0,h⟩:=hP
 refine ae (λhb1=>?_) λhb1=>?_
 rotate_left
 ·exact ⟨k4,nn0,rfl,Tg iG hl0 hs0 (hc0 hb1),h.qV (bD gs)⟩
 subst hb1
 rw [Wn rfl] at hmu
 refine ⟨λb n w'=>∃ (j:Nat) (nn:List Bool),n = j/\j<=g.prods.length/\nn.length = g.N/\(∀ i,aN nn i = true->Af g ((g.T + i:Nat):Int))/\Ce nn + (if b then 1 else 0)<=Ce nn0/\(b = false->∀ p∈g.prods.take j,T8 g nn p)/\St w' [aK k4 (bv nn),has H],λ_ n _=>g.prods.length - n.toNat,⟨0,nn0,rfl,by omega,hl0,hs0,by simp,by simp,h⟩,?_⟩
 clear h hc0
 rintro _ b n w4 ⟨j,nn,rfl,hj,hl,hs,hm,hc,h⟩
 refine ⟨_,_,_,B.c4 (aU 1 h.l),ae (λh3=>?_) λh3=>?_⟩
 rotate_left
 ·have h3:j = g.prods.length:=by have:=V8 h3; omega
  subst h3
  rw [Ww] at hc
  have key:Q b w4 (Ce nn + (if b then 1 else 0)):=by
   rw [hQ]; exact ⟨nn,hl,hs,rfl,hc,h⟩
  refine ⟨⟨_,key⟩,?_⟩
  have:=mu1 (b,w4) _ key
  dsimp only
  rw [hμ]
  omega
 have h3:j < g.prods.length:=by have:=V7 h3; omega
 obtain ⟨p,ad,vs,hp1,hpa,hp2,ra,rl,rc,rfl,hrc,hp3⟩:=hg.p.get (i:=j) (by omega)
 have hpm:=V_ hp1
 obtain ⟨hpl,hpr⟩:=iG p hpm
 have b7':=hb.2.2.2.2.2.2 p hpm
 have rl1:=hp3.1
 have et:g.prods.take (j + 1) = g.prods.take j ++ [p]:=by rw [Wf,hp1]; rfl
 intro w5 hd
 have h:=h.drawn hd
 have hun:p.left.toNat - g.T < g.N:=by omega
 have eu:p.left - (x.tl:Int) = ((p.left.toNat - g.T:Nat):Int):=by rw [<- tl]; omega
 refine ⟨λw=>sub H (hp w),aU 1 h.l,_,_,_,λw s=>B.c4 s,au hpa (by omega) ⟨_,λw s=>hp2.cell0 s,_,_,_,λw s=>B.c0 s,⟨by omega,by omega⟩,?_⟩⟩
 rw [eu]
 have nx:∀ {w' : World} {nn' : List Bool} {b' : Bool},nn'.length = g.N->(∀ i,aN nn' i = true->Af g ((g.T + i:Nat):Int))->Ce nn' + (if b' then 1 else 0)<=Ce nn0->(b' = false->(∀ p∈g.prods.take j,T8 g nn' p)/\T8 g nn' p)->St w' [aK k4 (bv nn'),has H]->ax ((j:Int) + 1)/\(∃ (j' : Nat) (nn:List Bool),(j:Int) + 1 = j'/\j'<=g.prods.length/\nn.length = g.N/\(∀ i,aN nn i = true->Af g ((g.T + i:Nat):Int))/\Ce nn + (if b' then 1 else 0)<=Ce nn0/\(b' = false->∀ p∈g.prods.take j',T8 g nn p)/\St w' [aK k4 (bv nn),has H])/\g.prods.length - ((j:Int) + 1).toNat < g.prods.length - (j:Int).toNat:=λ{w' nn' b'} a1 a2 a3 a4 a5=>by
  refine ⟨⟨by omega,by omega⟩,⟨j + 1,nn',by simp,by omega,a1,a2,a3,λhb' q hq=>?_,a5⟩,bw h3⟩
  rw [et] at hq
  rcases Wd.1 hq with hq | hq
  ·exact (a4 hb').1 q hq
  ·simp at hq; subst hq; exact (a4 hb').2
 refine aw rfl hun ⟨_,AM (ai 0 h.l) (by omega),ae (λh4=>nx hl hs hm (λhb'=>⟨hc hb',λ_=>h4⟩) h) λh4=>?_⟩
 intro w9 hd2
 have h:=h.drawn hd2
 refine ⟨λw=>sub H (hp w),aU 1 h.l,_,_,_,_,_,_,_,_,_,_,_,_,_,λw s=>B.row s,_,_,_,λw s=>B.c4 s,au hpa (by omega) ⟨_,_,_,λw s=>hp2.cell s (j:=1) rfl,?_⟩⟩
 have rn:a_ (hp w9) nn (some ⟨k4,0,none⟩) g.N:=kS hl (.inr ⟨_,rfl,ai 0 h.l⟩)
 refine (Cj (x:=x) (hg.mono (aU 1 h.l)) rn hl (hp3.mono (aU 1 h.l)) (λs hs=>⟨(hpr s hs).1,(hpr s hs).2⟩) (by omega) bT bN).mono ?_
 rintro _ w13 ⟨⟨r,rfl,hr⟩,g13⟩
 have h:=h.gr g13
 refine ⟨_,rfl,ae (λh5=>?_) λh5=>nx hl hs hm (λhb'=>⟨hc hb',λhv=>?_⟩) h⟩
 ·have hun' : p.left.toNat - g.T < nn.length:=by omega
  refine aw rfl hun ?_
  rw [aL]
  refine bh h (by rw [mH]; exact hun') λw14 h=>?_
  rw [FB] at h
  have hop:=KJ hun' h4
  refine nx (by rw [WE]; exact hl) (λi hi=>?_) ?_ (λhb'=>absurd hb' (by decide)) h
  ·rw [og hun',W9,X2] at hi
   rcases hi with hi | rfl
   ·exact hs i hi
   ·rw [show ((g.T + (p.left.toNat - g.T):Nat):Int) = p.left from by omega]
    refine .mk p hpm λs hs'=>?_
    obtain ⟨v1,v2⟩:=hr.1 h5 s hs'
    have:=hs _ v2
    rwa [show ((g.T + (s.toNat - g.T):Nat):Int) = s from by omega] at this
  ·have:=hm
   rw [Wn rfl]
   split at this <;> omega
 ·rw [hr.2 hv] at h5; cases h5
end
end Go.Proofs.YtndaepmjkbmjmaaGreatDoor
namespace Go.V
def qQ (T:Nat) (nn:List Bool):List Bool:=List.replicate T false ++ nn
theorem Hv {T:Nat} {nn:List Bool} (i:Nat):aN (qQ T nn) i = (decide (T<=i) && aN nn (i - T)):=by
 unfold qQ aN
 rw [Wb,Wb]
 by_cases h:T<=i
 ·rw [Wm (by simpa using h),X3]; simp [h]
 ·rw [Wl (by simp; omega),Xr,Wn (by omega)]
  simp [h]
def Hw (T p:Nat):Value:=.slice (some ⟨p,0,none⟩) T T
end Go.V
namespace Go.Proofs.YtndaepmjkbmjmaaGreatDoor
open Go.V
section
variable {w:World} {L:List ay} {T ks q:Nat} {x:GA} {a an ao:Yg} {l c nl cn ol co:Nat} {row:List Int} {nn bs:List Bool} {ps:List Nat} {vs:List (List Bool)}
theorem R_ (hT:T = x.tl) (h:St w (aK q (bv bs) :: L)) (hs:∀ h,aC L h->av h ⟨ks,0,none⟩ (x.cells ++ [.slice an nl cn,.slice ao ol co])) (hn:∀ h,aC L h->a_ h nn an nl) (ho:∀ h,aC L h->∃ ad,ao = some ad/\av h ad (ps.map (Hw T))) (hol:ps.length = ol) (hv:vs.length = ol) (hnl:ol = T + nl)
  (hle:∀ v∈vs,v.length = T) (hbl:bs.length = T) (hq:∀ h,aC L h->∀ (i:Nat) p v,ps[i]? = some p->vs[i]? = some v->av h ⟨p,0,none⟩ (bv v)\/(p = q/\v = bs))
  (hr:∀ h,aC L h->a_ h row a l) (hin:∀ s∈row,0<=s/\s.toNat < ol) (hb:l<=4611686018427387904) (hb2:ol<=4611686018427387904) :
  aA Tryz.prog mQ [.pointer (some ⟨ks,0,none⟩),.slice a l c,.slice (some ⟨q,0,none⟩) T T] w λv w'=>v = .bool (decide (ee (qQ T nn) vs bs row≠bs))/\St w' (aK q (bv (ee (qQ T nn) vs bs row)) :: L):=by
 subst hT
 obtain ⟨h0,hl,_,h1⟩:=h.freeze
 have hs:=hs h0 hl
 have hn:=hn h0 hl
 obtain ⟨ad0,rfl,ho'⟩:=ho h0 hl
 have hq:=hq h0 hl
 have hr:=hr h0 hl
 have hn1:=hn.1
 have hr1:=hr.1
 have done:∀ w' b,St w' (aK q b :: [has h0])->St w' (aK q b :: L):=λw' b h=>h.qV hl
 clear h hl
 have c0:∀ w',sub h0 (hp w')->w'.cell? (⟨ks,0,none⟩ : Addr) = some (.slice x.ta x.tl x.tc):=λw' s=>hs.cell0 s
 have c5:∀ w',sub h0 (hp w')->w'.cell? ((⟨ks,0,none⟩ : Addr).add 5) = some (.slice an nl cn):=λw' s=>hs.cell s (j:=5) rfl
 have c6:∀ w',sub h0 (hp w')->w'.cell? ((⟨ks,0,none⟩ : Addr).add 6) = some (.slice (some ad0) ol co):=λw' s=>hs.cell s (j:=6) rfl
 refine lb ?_
 refine ⟨λb n w'=>∃ (j:Nat) (U:List Bool),n = j/\j<=l/\U.length = bs.length/\(∀ k,aN bs k = true->aN U k = true)/\(b = true↔U≠bs)/\ee (qQ x.tl nn) vs bs row = ee (qQ x.tl nn) vs U (row.drop j)/\St w' [aK q (bv U),has h0],λ_ n _=>l - n.toNat,⟨0,bs,rfl,by omega,rfl,λ_ h=>h,by simp,by simp,h1⟩,?_⟩
 clear h1
 rintro _ b n w1 ⟨j,U,rfl,hj,hU,hsub,hb1,e1,h⟩
 have fin:∀ {w' : World} {V:List Bool} {b:Bool},(b = true↔V≠bs)->ee (qQ x.tl nn) vs bs row = V->St w' [aK q (bv V),has h0]->Value.bool b = .bool (decide (ee (qQ x.tl nn) vs bs row≠bs))/\St w' (aK q (bv (ee (qQ x.tl nn) vs bs row)) :: L):=λ{w' V b} h1 h2 h3=>by
  rw [h2]
  refine ⟨?_,done _ _ h3⟩
  congr 1
  rw [WX,h1,Wk]
 refine ae (λhlt=>?_) λhlt=>?_
 rotate_left
 ·have hlt:j = l:=by have:=V8 hlt; omega
  subst hlt
  rw [Xl (by omega),Cd] at e1
  exact fin hb1 e1 h
 have hlt:j < l:=by have:=V7 hlt; omega
 obtain ⟨y,ad,hy1,hya,hy2⟩:=hr.cE hlt
 obtain ⟨y0,yl⟩:=hin y (V_ hy1)
 obtain ⟨u,rfl⟩ : ∃ u:Nat,y = u:=⟨y.toNat,by omega⟩
 rw [Ws] at yl
 obtain ⟨p,hpp⟩ : ∃ p,ps[u]? = some p:=⟨ps[u]'(by omega),Wa _⟩
 obtain ⟨v,hv1⟩ : ∃ v,vs[u]? = some v:=⟨vs[u]'(by omega),Wa _⟩
 have hvl:=hle v (V_ hv1)
 have hvd:vs.getD u [] = v:=by simp [List.getD,hv1]
 have hpq:=hq u p v hpp hv1
 have ed:row.drop j = (u:Int) :: row.drop (j + 1):=by
  have:=WO (l:=row) (i:=j) (by rw [hr.1]; exact hlt)
  rw [this]; congr 1
  have:=V9.1 hy1; exact this.2
 rw [ed,yN,Ws,hvd,Hv] at e1
 intro w2 hd
 have h:=h.drawn hd
 have cp:∀ w',sub h0 (hp w')->w'.cell? (ad0.add u) = some (Hw x.tl p):=λw' s=>ho'.cell s (j:=u) (by rw [Wc,hpp]; rfl)
 refine ⟨λw=>sub h0 (hp w),aU 1 h.l,_,_,_,λw s=>c6 w s,aw hya hlt ⟨_,λw s=>hy2 _ s,aw rfl (by omega) ⟨_,_,_,λw s=>cp w s,?_⟩⟩⟩
 refine ⟨λb n w'=>∃ (t:Nat) (V:List Bool),n = t/\t<=x.tl/\V.length = bs.length/\(∀ k,aN V k = (aN U k || (decide (k < t) && aN v k)))/\(b = true↔V≠bs)/\St w' [aK q (bv V),has h0],λ_ n _=>x.tl - n.toNat,⟨0,U,rfl,by omega,hU,λk=>by simp,hb1,h⟩,?_⟩
 clear h
 rintro _ b n3 w6 ⟨t,V,rfl,ht,hV,hVf,hb3,h⟩
 refine ae (λhlt2=>?_) λhlt2=>?_
 ·have hlt2:t < x.tl:=by have:=V7 hlt2; omega
  have htV:t < V.length:=by omega
  have nx:∀ {w' : World} {V' : List Bool} {b' : Bool},V'.length = bs.length->(∀ k,aN V' k = (aN U k || (decide (k < t + 1) && aN v k)))->(b' = true↔V'≠bs)->St w' [aK q (bv V'),has h0]->ax ((t:Int) + 1)/\(∃ (t' : Nat) (V:List Bool),(t:Int) + 1 = t'/\t'<=x.tl/\V.length = bs.length/\(∀ k,aN V k = (aN U k || (decide (k < t') && aN v k)))/\(b' = true↔V≠bs)/\St w' [aK q (bv V),has h0])/\x.tl - ((t:Int) + 1).toNat < x.tl - (t:Int).toNat:=λ{w' V' b'} a1 a2 a3 a4 =>
   ⟨⟨by omega,by omega⟩,⟨t + 1,V',by simp,by omega,a1,a2,a3,a4⟩,bw hlt2⟩
  have hVt:aN V t = aN U t:=by rw [hVf]; simp
  have step:∀ k,k≠t->(aN U k || (decide (k < t + 1) && aN v k)) = aN V k:=λk hk=>by
   rw [hVf]
   by_cases h1:k < t
   ·simp [h1,show k < t + 1 by omega]
   ·simp [h1,show ¬ k < t + 1 by omega]
  obtain ⟨lt,hlt3,hlt4⟩ : ∃ lt:Bool,w6.cell? ((⟨p,0,none⟩ : Addr).add t) = some (.bool lt)/\(lt = aN v t\/(lt = aN V t/\(aN v t = true->aN V t = true))):=by
   rcases hpq with hr' | ⟨rfl,rfl⟩
   ·exact ⟨_,AM (hr'.mono (aU 1 h.l)) (by omega),.inl rfl⟩
   ·refine ⟨_,AM (ai 0 h.l) htV,.inr ⟨rfl,λhb'=>?_⟩⟩
    rw [hVt]; exact hsub t hb'
  refine aw rfl hlt2 ⟨lt,hlt3,ae (λh4=>?_) λh4=>?_⟩
  ·refine aw rfl hlt2 ⟨_,AM (ai 0 h.l) htV,ae (λh5=>?_) λh5=>?_⟩
   ·have h5:aN V t = false:=by simpa using h5
    have hvt:aN v t = true:=by
     rcases hlt4 with e | ⟨e,_⟩
     ·rw [<- e]; exact h4
     ·rw [h5] at e; rw [e] at h4; cases h4
    refine aw rfl hlt2 ?_
    rw [aL]
    refine bh h (by rw [mH]; exact htV) λw7 h=>?_
    rw [FB] at h
    refine nx (by rw [WE]; exact hV) (λk=>?_) ⟨λ_ he=>?_,λ_=>rfl⟩ h
    ·rw [og htV]
     by_cases hk:k = t
     ·subst hk; rw [hvt]; simp
     ·rw [step k hk]; simp [hk]
    ·have:=hVt ▸ h5
     have hbt:aN bs t = true:=by rw [<- he,og htV]; simp
     rw [hsub t hbt] at this; cases this
   ·have h5:aN V t = true:=by simpa using h5
    refine nx hV (λk=>?_) hb3 h
    by_cases hk:k = t
    ·subst hk; rw [h5,<- hVt,h5]; rfl
    ·exact (step k hk).symm
  ·refine nx hV (λk=>?_) hb3 h
   by_cases hk:k = t
   ·subst hk
    have:aN v k = true->aN V k = true:=λhv'=>by
     rcases hlt4 with e | ⟨_,e⟩
     ·rw [e,hv'] at h4; cases h4
     ·exact e hv'
    rw [<- hVt]
    cases hv' : aN v k
    ·simp
    ·rw [this hv']; rfl
   ·exact (step k hk).symm
 have hlt2:t = x.tl:=by have:=V8 hlt2; omega
 subst hlt2
 have eV:V = de U (dc v):=gE (by rw [bI,hV,hU]) λk=>by
  rw [hVf,dT,hU,hbl]
 have hsub2:∀ k,aN bs k = true->aN V k = true:=λk hk=>by rw [hVf,hsub k hk]; rfl
 rw [<- eV] at e1
 intro w8 hd8
 have h:=h.drawn hd8
 refine ⟨λw=>sub h0 (hp w),aU 1 h.l,aw hya hlt ⟨_,λw s=>hy2 _ s,_,_,_,λw s=>c0 w s,ae (λh4=>?_) λh4=>?_⟩⟩
 ·have h4:u < x.tl:=by have:=V7 h4; omega
  rw [W2 (by omega),Bool.false_and,Wg (by decide)] at e1
  exact fin hb3 e1 h
 have h4:x.tl<=u:=by have:=V8 h4; omega
 have hun:u - x.tl < nl:=by omega
 obtain ⟨b5,ad5,hb51,hba,hb52⟩:=hn.cE hun
 have eu:(u:Int) - (x.tl:Int) = ((u - x.tl:Nat):Int):=by omega
 refine ⟨_,_,_,λw s=>c5 w s,aw hya hlt ⟨_,λw s=>hy2 _ s,_,_,_,λw s=>c0 w s,⟨by omega,by omega⟩,?_⟩⟩
 rw [eu]
 rw [WI h4,XL,jr hb51] at e1
 refine aw hba hun ⟨b5,λw s=>hb52 _ s,ae (λh5=>?_) λh5=>?_⟩
 ·have h5:b5 = false:=by simpa using h5
  rw [h5,Wg (by decide)] at e1
  exact fin hb3 e1 h
 ·have h5:b5 = true:=by simpa using h5
  rw [h5,Wn rfl] at e1
  exact ⟨⟨by omega,by omega⟩,⟨j + 1,V,by simp,by omega,hV,hsub2,hb3,e1,h⟩,bw hlt⟩
theorem Ti (hr:a_ (hp w) bs a l) (hb:l<=4611686018427387904) (hb8:l * 8<=140737488355328):aA Tryz.prog ur [.slice a l c] w λv w'=>∃ o c',v = .slice o (aY bs) c'/\St w' (own 1 o (aY bs) c' (iv (dc bs)) :: all w):=by
 refine qH ?_
 have h0:=St.all w
 unfold V.all at *
 have hr1:=hr.1
 generalize hp w = H at *
 have key:∀ j,dc (bs.take j) = ((List.range j).filter λk=>aN (bs.take j) k).map λ(k:Nat)=>(k:Int):=λj=>yS (by simp; omega)
 refine ⟨λo l' c' n w'=>∃ j:Nat,n = j/\j<=l/\l' = aY (bs.take j)/\St w' [own 1 o l' c' (iv (dc (bs.take j))),has H],λ_ _ _ n _=>l - n.toNat,⟨0,rfl,by omega,by simp [aY,j9],?_⟩,?_⟩
 ·have:dc (bs.take 0) = []:=by simp [dc,mb,rX]
  rw [this]; exact az 1 h0
 rintro _ o l' c' n w1 ⟨j,rfl,hj,rfl,h⟩
 have s1:sub H (hp w1):=aU 1 h.l
 have hcl:=fy (bs.take j)
 refine ae (λhlt=>?_) λhlt=>?_
 rotate_left
 ·have hlt:j = l:=by have:=V8 hlt; omega
  subst hlt
  rw [Wq (by omega)] at h ⊢
  exact ⟨o,c',rfl,h⟩
 have hlt:j < l:=by have:=V7 hlt; omega
 obtain ⟨b,ad,hb1,hba,hb2⟩:=hr.cE hlt
 have et:bs.take (j + 1) = bs.take j ++ [b]:=by rw [Wf,hb1]; rfl
 have lt:(bs.take j).length = j:=by rw [Wx]; omega
 have em:dc (bs.take (j + 1)) = dc (bs.take j) ++ (if b then [(j:Int)] else []):=by
  rw [yS (n:=j + 1) (by simp; omega),Xi,WK,WB]
  have e1:((List.range j).filter λk=>aN (bs.take (j + 1)) k) = (List.range j).filter λk=>aN (bs.take j) k:=Xk λk hk=>by
   have hk:k < j:=by simpa using hk
   unfold aN
   rw [Wb,Wb,et,Wl (by omega)]
  rw [e1,<- yS (n:=j) (by omega)]
  have e2:aN (bs.take (j + 1)) j = b:=by
   rw [et]; exact jr (by rw [Wm (by omega),lt,Xe]; rfl)
  simp only [Xj,e2,List.filter_nil]
  cases b <;> rfl
 have ec:aY (bs.take (j + 1)) = aY (bs.take j) + (if b then 1 else 0):=by
  rw [<- oZ,em,We,oZ]
  cases b <;> rfl
 refine aw hba hlt ⟨b,hb2 _ s1,ae (λh3=>?_) λh3=>?_⟩
 ·subst h3
  refine ah h λk3 w2 h=>?_
  refine (aP aQ (rfl:aj Ty _ = .slice _) (rfl:aj Ty _ = .slice _) rfl rfl rfl h rfl (by simp [aV]) (by show (_ + 1) * 8<=_; omega) (by omega)).mono ?_
  rintro _ w3 ⟨o2,c2,rfl,h⟩
  refine ⟨_,_,_,rfl,⟨by omega,by omega⟩,⟨j + 1,by simp,by omega,ec.symm,?_⟩,bw hlt⟩
  have e2:iv (dc (bs.take j)) ++ [Value.int .i64 (j:Int)] = iv (dc (bs.take (j + 1))):=by rw [em]; simp [iv]
  rw [e2] at h
  exact h.pick 3 [0,2]
 ·subst h3
  refine ⟨⟨by omega,by omega⟩,⟨j + 1,by simp,by omega,by rw [ec]; rfl,?_⟩,bw hlt⟩
  rw [em,Wg (by decide),WG]
  exact h
end
end Go.Proofs.YtndaepmjkbmjmaaGreatDoor
namespace Go.V
def gq (ps:List Nat) (vs:List (List Bool)):List ay:=List.zipWith (λp v=>aK p (bv v)) ps vs
theorem Vn {L:List ay} {h:Hp} {ps:List Nat} {vs:List (List Bool)} {k p:Nat} {v:List Bool} (i:Nat) (hl:aC L h) (hp:ps[k]? = some p) (hv:vs[k]? = some v) (e:oJ L i = aG (gq ps vs):=by rfl) (hi:Nat.blt i (wN L) = true:=by rfl):av h ⟨p,0,none⟩ (bv v):=by
 obtain ⟨h1,s,ha⟩:=cO i (by simpa [gG] using hi) hl
 rw [e] at ha
 obtain ⟨h2,s2,hb⟩:=kU (A:=aK p (bv v)) (V_ (i:=k) (by unfold gq; rw [XE,hp,hv])) ha
 exact (oW hb).mono (s2.trans s)
theorem Vo {L:List ay} {h:Hp} {ps:List Nat} {vs:List (List Bool)} {k m p:Nat} {v:List Bool} (i:Nat) (hl:aC L h) (hp:ps[k]? = some p) (hv:vs[k]? = some v) (hk:k≠m) (e:oJ L i = aG ((gq ps vs).eraseIdx m):=by rfl) (hi:Nat.blt i (wN L) = true:=by rfl):av h ⟨p,0,none⟩ (bv v):=by
 obtain ⟨h1,s,ha⟩:=cO i (by simpa [gG] using hi) hl
 rw [e] at ha
 obtain ⟨h2,s2,hb⟩:=kU (A:=aK p (bv v)) (List.mem_eraseIdx_iff_getElem?.2 ⟨k,hk,by unfold gq; rw [XE,hp,hv]⟩) ha
 exact (oW hb).mono (s2.trans s)
theorem KK {L:List ay} {h:Hp} {a:Yg} {sz l c:Nat} {vs:List Value} (i:Nat) (hl:aC L h) (e:oJ L i = own sz a l c vs:=by rfl) (hi:Nat.blt i (wN L) = true:=by rfl):eR a vs h:=by
 obtain ⟨h1,s,ha⟩:=cO i (by simpa [gG] using hi) hl
 rw [e] at ha
 exact eR.mono s (cf ha)
def jl (T i:Nat):List Bool:=if i < T then (List.replicate T false).set i true else List.replicate T false
def kf (T j:Nat):List (List Bool):=(List.range j).map (jl T)
theorem Jt (T j:Nat):kf T (j + 1) = kf T j ++ [jl T j]:=by simp [kf,Xi]
theorem D9 (T j:Nat):(kf T j).length = j:=by simp [kf]
theorem yU (T i:Nat):(jl T i).length = T/\∀ t,aN (jl T i) t = true↔t = i/\t < T:=by
 unfold jl
 by_cases h:i < T
 ·rw [Wn h]
  refine ⟨by simp,λt=>?_⟩
  rw [og (by simpa using h),kz]
  simp; omega
 ·rw [Wg h]
  refine ⟨by simp,λt=>?_⟩
  rw [kz]; simp; omega
theorem ju.sym {g:af} {nn:List Bool} (h:ju g nn) (iG:PS g) (i:Nat):aN (qQ g.T nn) i = true↔Af g (i:Int):=by
 rw [Hv,Wo,Wk]
 constructor
 ·rintro ⟨h1,h2⟩
  have:=(h.2 _).1 h2
  rwa [show ((g.T + (i - g.T):Nat):Int) = i from by omega] at this
 ·intro hN
  have hl:=hN.left iG
  refine ⟨by omega,(h.2 _).2 ?_⟩
  rwa [show ((g.T + (i - g.T):Nat):Int) = i from by omega]
theorem Ow {g:af} {nn:List Bool} (iG:PS g) (hn:ju g nn):Df g (qQ g.T nn) (kf g.T (g.T + g.N)):=by
 have hget:∀ i,(kf g.T (g.T + g.N)).getD i [] = if i < g.T + g.N then jl g.T i else []:=λi=>by
  unfold kf
  rw [Wb,Wc]
  by_cases h:i < g.T + g.N
  ·rw [XA h,Wn h]; rfl
  ·rw [Wt (by simp; omega),Wg h]; rfl
 refine ⟨by unfold qQ; simp [hn.1],D9 _ _,λv hv=>?_,λi h=>(hn.sym iG i).1 h,λi t h=>?_,λt ht=>?_⟩
 ·obtain ⟨i,_,rfl⟩:=Wu.1 hv
  exact (yU _ _).1
 ·rw [hget] at h
  split at h
  ·obtain ⟨rfl,h'⟩:=((yU g.T i).2 t).1 h
   exact .tm t h'
  ·simp [aN] at h
 ·rw [hget,Wn (by omega)]
  exact ((yU _ _).2 _).2 ⟨rfl,ht⟩
theorem ju.uy {g:af} {nn:List Bool} (h:ju g nn) (iG:PS g) {p:aH} (hp:p∈g.prods):uy (qQ g.T nn) p.right = true->aN (qQ g.T nn) p.left.toNat = true:=λhr=>by
 obtain ⟨h1,h2⟩:=iG p hp
 rw [h.sym iG,bS (by omega)]
 refine .mk p hp λs hs=>?_
 have:=(h.sym iG _).1 (xr.1 hr s hs)
 rwa [bS (h2 s hs).1] at this
theorem D_ {α : Type} {l:List α} {k:Nat} {v:α} (h:l[k]? = some v):l.set k v = l:=by
 apply W8
 intro i
 rw [Xf]
 split
 ·rename_i e; subst e; rw [h]; simp; exact (V9.1 h).1
 ·rfl
end Go.V
namespace Go.Proofs.YtndaepmjkbmjmaaGreatDoor
open Go.V
section
variable {w:World} {L:List ay} {g:af} {x:GA}
theorem Q7 (hg:gR (hp w) g x) (hb:iE g) (he:gH g):aA Tryz.prog sG [.agg ⟨x.cells⟩] w λv w'=>∃ (b k4:Nat) (o:Yg) (c:Nat) (nn:List Bool) (ps:List Nat) (vs:List (List Bool)),v = .pointer (some ⟨b,0,none⟩)/\ju g nn/\Jk g (qQ g.T nn) vs/\ps.length = vs.length /\
  St w' (aK b (FC x k4 g.N o (g.T + g.N) c) :: aK k4 (bv nn) :: own 1 o (g.T + g.N) c (ps.map (Hw g.T)) :: aG (gq ps vs) :: all w):=by
 refine po ?_
 refine cW hg λk1 w1 gw hg B=>?_
 obtain ⟨iG,bT,bN,pN,pT,bP⟩:=Q6 he
 have tl:g.T = x.tl:=hg.t.1
 have nl:g.N = x.nl:=hg.n.1
 have pl:=hg.p.1
 intro w2 hd
 have e2:hp w2 = hp w1:=dA hd
 have gs:sub (hp w) (hp w1):=gw
 have hg2:gR (hp w2) g x:=hg.mono (e2 ▸ sub.refl _)
 have h2:=St.all w2
 unfold V.all at h2
 rw [e2] at h2
 generalize hH:hp w1 = H at *
 refine ⟨λw=>sub H (hp w),e2 ▸ sub.refl _,_,_,_,_,_,_,_,_,_,_,_,_,_,λw s=>B.row s,_,_,_,_,_,_,_,_,_,_,_,_,_,λw s=>B.row s,(Th (x:=x) hg2 hb he).mono ?_⟩
 rintro _ w5 ⟨k4,nn,rfl,hnn,h5⟩
 have h5:=h5.qV h2
 refine ⟨_,_,_,rfl,aU 1 h5.l,ah h5 λk20 w6 h=>⟨aU 2 h.l,?_⟩⟩
 have h:St w6 [aK k20 (FC x k4 g.N none 0 0),aK k4 (bv nn),has H]:=h
 refine ⟨λn w'=>∃ (j:Nat) (o:Yg) (c:Nat) (ps:List Nat),n = j/\j<=g.T + g.N/\ps.length = j/\St w' [aK k20 (FC x k4 g.N o j c),aK k4 (bv nn),own 1 o j c (ps.map (Hw g.T)),aG (gq ps (kf g.T j)),has H],λn _=>g.T + g.N - n.toNat,⟨0,none,0,[],rfl,by omega,rfl,?_⟩,?_⟩
 ·have h7:St w6 (aG (gq [] (kf g.T 0)) :: _):=St.flat.2 (show St w6 ([] ++ _) from az 1 h)
  exact h7.pick 5 [2,3,1,0,4]
 clear h h5 h2
 rintro _ n w7 ⟨j,o,c,ps,rfl,hj,hps,h⟩
 refine ⟨_,_,_,_,_,_,_,_,_,_,_,_,_,B.row (aU 4 h.l),(jh (x:=x) (hg.mono (aU 4 h.l)) hb).mono ?_⟩
 rintro _ w8 ⟨rfl,g8⟩
 have h:=h.gr g8
 refine ⟨_,rfl,ae (λhlt=>?_) λhlt=>?_⟩
 ·have hlt:j < g.T + g.N:=by have:=V7 hlt; omega
  refine ⟨_,_,_,B.c0 (aU 4 h.l),?_⟩
  rw [<- tl]
  refine ⟨⟨by omega,rfl,by omega⟩,?_⟩
  rw [Ws,db,Ci]
  refine ah h λk31 w9 h=>⟨_,_,_,B.c0 (aU 5 h.l),?_⟩
  have fin:∀ {w' : World} {o' : Yg} {c' : Nat},St w' [aK k20 (FC x k4 g.N o' (j + 1) c'),own 1 o' (j + 1) c' (ps.map (Hw g.T) ++ [Hw g.T k31]),aK k31 (bv (jl g.T j)),aK k4 (bv nn),aG (gq ps (kf g.T j)),has H]->ax ((j:Int) + 1)/\(∃ (j' : Nat) (o:Yg) (c:Nat) (ps:List Nat),(j:Int) + 1 = j'/\j'<=g.T + g.N/\ps.length = j'/\St w' [aK k20 (FC x k4 g.N o j' c),aK k4 (bv nn),own 1 o j' c (ps.map (Hw g.T)),aG (gq ps (kf g.T j')),has H])/\g.T + g.N - ((j:Int) + 1).toNat < g.T + g.N - (j:Int).toNat:=λ{w' o' c'} h=>by
   refine ⟨⟨by omega,by omega⟩,⟨j + 1,o',c',ps ++ [k31],by simp,by omega,by simp [hps],?_⟩,bw hlt⟩
   have h:=St.snoc (A:=aK k31 (bv (jl g.T j))) (M:=gq ps (kf g.T j)) (h.pick 6 [2,4,0,1,3,5])
   have lSv:(gq ps (kf g.T j) ++ [aK k31 (bv (jl g.T j))]) = gq (ps ++ [k31]) (kf g.T (j + 1)):=by
    rw [Jt]; unfold gq; rw [List.zipWith_append (by rw [D9]; exact hps)]; rfl
   have e1:ps.map (Hw g.T) ++ [Hw g.T k31] = (ps ++ [k31]).map (Hw g.T):=by simp
   rw [lSv,e1] at h
   exact h.pick 5 [1,3,2,0,4]
  refine ae (λhT=>?_) λhT=>?_
  ·have hT:j < g.T:=by have:=V7 hT; omega
   refine aw rfl hT ?_
   rw [aL]
   refine bh h (by rw [mH]; simpa using hT) λw10 h=>?_
   rw [FB] at h
   have ei:(List.replicate g.T false).set j true = jl g.T j:=by unfold jl; rw [Wn hT]
   rw [ei] at h
   have r20:av (hp w10) ⟨k20,0,none⟩ (FC x k4 g.N o j c):=ai 1 h.l
   refine ⟨_,_,_,r20.cell (sub.refl _) (j:=6) rfl,ah h λk36 w11 h=>?_⟩
   refine (aP aQ (rfl:aj Ty _ = .slice _) (rfl:aj Ty _ = .slice _) rfl rfl rfl (h.pick 7 [0,4,2,1,3,5,6]) rfl (by simp [aV]) (by show (j + 1) * 24<=_; omega) (by omega)).mono ?_
   rintro _ w12 ⟨o',c',rfl,h⟩
   refine ⟨_,_,_,rfl,?_⟩
   rw [aL]
   refine bh (h.pick 7 [2,0,3,4,5,6]) (by simp [FC]) λw13 h=>fin h
  ·have hT:¬ j < g.T:=by have:=V8 hT; omega
   have ei:List.replicate g.T false = jl g.T j:=by unfold jl; rw [Wg hT]
   rw [ei] at h
   have r20:av (hp w9) ⟨k20,0,none⟩ (FC x k4 g.N o j c):=ai 1 h.l
   refine ⟨_,_,_,r20.cell (sub.refl _) (j:=6) rfl,ah h λk36 w11 h=>?_⟩
   refine (aP aQ (rfl:aj Ty _ = .slice _) (rfl:aj Ty _ = .slice _) rfl rfl rfl (h.pick 7 [0,4,2,1,3,5,6]) rfl (by simp [aV]) (by show (j + 1) * 24<=_; omega) (by omega)).mono ?_
   rintro _ w12 ⟨o',c',rfl,h⟩
   refine ⟨_,_,_,rfl,?_⟩
   rw [aL]
   refine bh (h.pick 7 [2,0,3,4,5,6]) (by simp [FC]) λw13 h=>fin h
 have hlt:j = g.T + g.N:=by have:=V8 hlt; omega
 subst hlt
 obtain ⟨N0,hN0⟩:=AH (qQ g.T nn)
 obtain ⟨Q,hQ⟩:=AH (λ(b:Bool) (w:World) (m:Nat)=>∃ (vs:List (List Bool)),Df g N0 vs/\m = l7 N0 vs + (if b then 1 else 0)/\(b = false->∀ p∈g.prods,Q4 N0 vs p)/\St w [aK k20 (FC x k4 g.N o (g.T + g.N) c),aK k4 (bv nn),own 1 o (g.T + g.N) c (ps.map (Hw g.T)),aG (gq ps vs),has H])
 obtain ⟨μ,mu1,mu2⟩:=Cf (λ(y:Bool × World) m=>Q y.1 y.2 m)
 refine ⟨λb w'=>∃ m,Q b w' m,λb w=>μ (b,w),⟨l7 N0 (kf g.T (g.T + g.N)) + 1,?_⟩,?_⟩
 ·rw [hQ]
  exact ⟨_,hN0 ▸ Ow iG hnn,by simp,λh=>absurd h (by decide),h⟩
 clear h
 intro _ b3 w17 hP
 have hP:=mu2 (b3,w17) hP
 dsimp only at hP
 generalize hμ : μ (b3,w17) = μ0 at *
 rw [hQ] at hP
 obtain ⟨vs0,mk0,hmu,hcl,h⟩:=hP
 refine ae (λhb1=>?_) λhb1=>?_
 rotate_left
 ·refine ⟨k20,k4,o,c,nn,ps,vs0,rfl,hnn,hN0 ▸ mk0.all iG (hcl hb1),by rw [hps,mk0.lv],?_⟩
  exact St.on (N:=[_,_,_,_]) h (bD gs)
 subst hb1
 rw [Wn rfl] at hmu
 refine ⟨λb n w'=>∃ (j:Nat) (vs:List (List Bool)),n = j/\j<=g.prods.length/\l7 N0 vs + (if b then 1 else 0)<=l7 N0 vs0/\Df g N0 vs/\(b = false->∀ p∈g.prods.take j,Q4 N0 vs p)/\St w' [aK k20 (FC x k4 g.N o (g.T + g.N) c),aK k4 (bv nn),own 1 o (g.T + g.N) c (ps.map (Hw g.T)),aG (gq ps vs),has H],λ_ n _=>g.prods.length - n.toNat,⟨0,vs0,rfl,by omega,by simp,mk0,by simp,h⟩,?_⟩
 clear h
 rintro _ b2 n6 w18 ⟨j,vs,rfl,hj,hm4,mk,hcl4,h⟩
 refine ⟨_,_,_,B.c4 (aU 4 h.l),ae (λhlt=>?_) λhlt=>?_⟩
 rotate_left
 ·have hlt:j = g.prods.length:=by have:=V8 hlt; omega
  subst hlt
  rw [Ww] at hcl4
  have key:Q b2 w18 (l7 N0 vs + (if b2 then 1 else 0)):=by
   rw [hQ]; exact ⟨vs,mk,rfl,hcl4,h⟩
  refine ⟨⟨_,key⟩,?_⟩
  have:=mu1 (b2,w18) _ key
  dsimp only
  rw [hμ]
  omega
 have hlt:j < g.prods.length:=by have:=V7 hlt; omega
 obtain ⟨p,ad,pvs,hp1,hpa,hp2,ra,rl,rc,rfl,hrc,hp3⟩:=hg.p.get (i:=j) (by omega)
 have hpm:=V_ hp1
 obtain ⟨hpl,hpr⟩:=iG p hpm
 have rl1:=hp3.1
 have b7':=hb.2.2.2.2.2.2 p hpm
 have et:g.prods.take (j + 1) = g.prods.take j ++ [p]:=by rw [Wf,hp1]; rfl
 obtain ⟨k,hk⟩ : ∃ k:Nat,p.left = k:=⟨p.left.toNat,by omega⟩
 have hkt:p.left.toNat = k:=by omega
 have hkN:k < g.T + g.N:=by omega
 obtain ⟨px,hpx⟩ : ∃ px,ps[k]? = some px:=⟨ps[k]'(by omega),Wa _⟩
 obtain ⟨v,hv⟩ : ∃ v,vs[k]? = some v:=⟨vs[k]'(by rw [mk.lv]; exact hkN),Wa _⟩
 have hvd:vs.getD k [] = v:=by rw [Wb,hv]; rfl
 intro w19 hd
 have h:=h.drawn hd
 have ro:∃ ad,o = some ad/\av (hp w19) ad (ps.map (Hw g.T)):=by
  rcases KK 2 h.l with e | ⟨ad,e,hc⟩
  ·have:=congrArg List.length e
   rw [Wh,W0] at this; omega
  ·exact ⟨ad,e,hc⟩
 obtain ⟨ado,hado,rop⟩:=ro
 have r20:av (hp w19) ⟨k20,0,none⟩ (FC x k4 g.N o (g.T + g.N) c):=ai 0 h.l
 have rH:sub H (hp w19):=aU 4 h.l
 have gS:(gq ps vs)[k]? = some (aK px (bv v)):=by unfold gq; rw [XE,hpx,hv]
 have Ey:∀ v',(gq ps vs).set k (aK px (bv v')) = gq ps (vs.set k v'):=λv'=>Kp (λp v=>aK p (bv v)) hpx
 refine ⟨λw=>av (hp w) ⟨k20,0,none⟩ (FC x k4 g.N o (g.T + g.N) c)/\av (hp w) ado (ps.map (Hw g.T))/\sub H (hp w),⟨r20,rop,rH⟩,_,_,_,λw s=>B.c4 s.2.2,au hpa (by omega) ⟨_,_,_,λw s=>hp2.cell s.2.2 (j:=1) rfl,_,_,_,λw s=>s.1.cell (sub.refl _) (j:=6) rfl,_,_,_,λw s=>B.c4 s.2.2,au hpa (by omega) ⟨_,λw s=>hp2.cell0 s.2.2,?_⟩⟩⟩
 rw [hk]
 refine aw hado hkN ⟨_,_,_,λw s=>s.2.1.cell (sub.refl _) (j:=k) (by rw [Wc,hpx]; rfl),?_⟩
 have h:=St.out (h.pick 5 [3,0,1,2,4]) gS
 refine (R_ (T:=g.T) (x:=x) (ks:=k20) (nn:=nn) (vs:=vs) (ps:=ps) (row:=p.right) (an:=some ⟨k4,0,none⟩) (nl:=g.N) (cn:=g.N) (ao:=o) (ol:=g.T + g.N) (co:=c) tl h (λh hh=>ai 1 hh) (λh hh=>kS hnn.1 (.inr ⟨_,rfl,ai 2 hh⟩)) (λh hh=>?_) hps mk.lv rfl mk.le (mk.le v (V_ hv)) (λh hh i q v' hi hv'=>?_) (λh hh=>hp3.mono (aU 4 hh)) (λs hs=>⟨(hpr s hs).1,by have:=(hpr s hs).2; omega⟩) (by omega) (by omega)).mono ?_
 ·rcases KK 3 hh with e | ⟨ad,e,hc⟩
  ·have:=congrArg List.length e
   rw [Wh,W0] at this; omega
  ·exact ⟨ad,e,hc⟩
 ·by_cases ek:i = k
  ·subst ek
   rw [hpx] at hi; cases hi
   rw [hv] at hv'; cases hv'
   exact .inr ⟨rfl,rfl⟩
  ·exact .inl (Vo 0 hh hi hv' ek)
 rintro _ w26 ⟨rfl,h⟩
 rw [<- hN0] at h ⊢
 have mk':=mk.lay iG hpm
 rw [hkt,hvd] at mk'
 have hv'l:(ee N0 vs v p.right).length = v.length:=sU _ _ _ _
 have hcv:=yO N0 vs p.right v
 have hms:=Hs (nl:=N0) hv hv'l hcv
 have hsb:=pA N0 vs p.right v
 have h:=St.back h gS
 rw [Ey] at h
 refine ⟨_,rfl,⟨ai 1 h.l,?_,aU 4 h.l⟩,?_⟩
 ·rcases KK 3 h.l with e | ⟨ad,e,hc⟩
  ·have:=congrArg List.length e
   rw [Wh,W0] at this; omega
  ·rw [hado] at e; cases e; exact hc
 have nx:∀ {b' : Bool},(b' = true↔b2 = true\/ee N0 vs v p.right≠v)->ax ((j:Int) + 1)/\(∃ (j' : Nat) (vs:List (List Bool)),(j:Int) + 1 = j'/\j'<=g.prods.length/\l7 N0 vs + (if b' then 1 else 0)<=l7 N0 vs0/\Df g N0 vs/\(b' = false->∀ p∈g.prods.take j',Q4 N0 vs p)/\St w26 [aK k20 (FC x k4 g.N o (g.T + g.N) c),aK k4 (bv nn),own 1 o (g.T + g.N) c (ps.map (Hw g.T)),aG (gq ps vs),has H])/\g.prods.length - ((j:Int) + 1).toNat < g.prods.length - (j:Int).toNat:=λ{b'} hb'=>by
  refine ⟨⟨by omega,by omega⟩,⟨j + 1,vs.set k (ee N0 vs v p.right),by simp,by omega,?_,mk',λhf q hq=>?_,h.pick 5 [1,2,3,0,4]⟩,bw hlt⟩
  ·by_cases h0:ee N0 vs v p.right = v
   ·rw [h0,D_ hv]
    have:b' = b2:=by rw [WX,hb']; simp [h0]
    rw [this]; exact hm4
   ·have hlt' : aY v < aY (ee N0 vs v p.right):=Nat.lt_of_le_of_ne hcv λe=>h0 (Cg hv'l hsb e.symm)
    have:=fy (ee N0 vs v p.right)
    split at hm4 <;> split <;> omega
  ·have h0:ee N0 vs v p.right = v:=Xa λhn=>by
    have:=hb'.2 (.inr hn)
    rw [hf] at this; cases this
   have hb2:b2 = false:=by
    cases hbb:b2
    ·rfl
    ·have:=hb'.2 (.inl hbb)
     rw [hf] at this; cases this
   rw [h0,D_ hv]
   rw [et] at hq
   rcases Wd.1 hq with hq | hq
   ·exact hcl4 hb2 q hq
   ·simp at hq; subst hq
    refine ⟨hN0 ▸ hnn.uy iG hpm,?_⟩
    rw [hkt,hvd]; exact h0
 exact ae (λhb=>nx (by simp [hb])) λhb=>nx (by simp [hb])
end
end Go.Proofs.YtndaepmjkbmjmaaGreatDoor
