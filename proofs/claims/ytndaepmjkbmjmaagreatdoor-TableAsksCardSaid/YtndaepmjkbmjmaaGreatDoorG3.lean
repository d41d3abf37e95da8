/- Texts of this claim, one behind the other. -/
import Derived.Test.YtndaepmjkbmjmaaGreatDoorG2
import Derived.Shelf.SlSortCmp.NoneTotal
import Derived.Shelf.Sort.Plain
import Derived.Test.YtndaepmjkbmjmaaGreatDoorG1
import Derived.Shelf.Slices.In.SortNone
import Derived.Maps.RangeRun
import Derived.Laws.IdiomStrings
set_option linter.unusedVariables false
set_option linter.unusedSectionVars false
set_option maxRecDepth 100000
set_option maxHeartbeats 16000000
namespace Go.V
end Go.V
namespace Go.Proofs.YtndaepmjkbmjmaaGreatDoor
end Go.Proofs.YtndaepmjkbmjmaaGreatDoor
open Go.V Go.Proofs.YtndaepmjkbmjmaaGreatDoor
namespace Go.V
theorem N6 {α : Sort _} (a:α):∃ q,q = a:=⟨a,rfl⟩
theorem N7 {h:Hp} {a:Addr} {us vs:List Value} (h1:av h a us) (h2:av h (a.add us.length) vs):av h a (us ++ vs):=λj v hj=>by
 by_cases hl:j < us.length
 ·rw [WI hl] at hj; exact h1 j v hj
 ·rw [WK (by omega)] at hj
  have:=h2 _ v hj
  rw [add_add,show us.length + (j - us.length) = j from by omega] at this
  exact this
theorem yQ {α : Type} {h:Hp} {n:Nat} {f:α->List Value} (hf:∀ x,(f x).length = n):∀ (ts:List α) (ad:Addr),(∀ (i:Nat) x,ts[i]? = some x->av h (ad.add (cY i n)) (f x))->av h ad (ts.flatMap f)
 | [],ad,_=>λj v hj=>by simp at hj
 | t :: ts,ad,hh=>by
  rw [Xc]
  refine N7 ?_ ?_
  ·have:=hh 0 t rfl
   rwa [aJ,Nat.zero_mul,show ad.add 0 = ad from by simp [Addr.add]] at this
  ·rw [hf]
   refine yQ hf ts _ λi x hx=>?_
   have:=hh (i + 1) x hx
   rw [add_add,aJ]
   rwa [aJ,XU,Yv] at this
theorem bQ {α : Type} {h:Hp} {n:Nat} {f:α->List Value} (hf:∀ x,(f x).length = n):∀ (ts:List α) (ad:Addr),av h ad (ts.flatMap f)->∀ (i:Nat) x,ts[i]? = some x->av h (ad.add (cY i n)) (f x)
 | [],ad,_,i,x,hx=>by simp at hx
 | t :: ts,ad,hh,i,x,hx=>by
  rw [Xc] at hh
  match i,hx with
  | 0,hx =>
   cases hx
   rw [aJ,Nat.zero_mul,show ad.add 0 = ad from by simp [Addr.add]]
   exact hh.take
  | i + 1,hx =>
   have:=bQ hf ts _ hh.drop i x hx
   rw [hf,add_add,aJ] at this
   rwa [aJ,XU,Yv]
def BX (t:jL):List Value:=[.string t.name,.int .i64 t.level]
def po (ts:List jL):List Value:=ts.flatMap BX
def BZ (p:(YB × Nat) × aH):List Value:=[.int .i64 p.2.left,.slice p.1.1 p.2.right.length p.1.2,.int .i64 p.2.level]
def mQ (os:List (YB × Nat)) (ps:List aH):List Value:=(os.zip ps).flatMap BZ
def jy (os:List (YB × Nat)) (ps:List aH):List ay:=List.zipWith (λo p=>own 1 o.1 p.right.length o.2 (iv p.right)) os ps
theorem B3 (ts:List jL):(po ts).length = ts.length * 2:=by
 induction ts with
 | nil=>rfl
 | cons t ts ih=>simp only [po,Xc,WA,Xj,BX,Xk] at ih ⊢; omega
theorem QV {h:Hp} {ts:List jL} {ad:Addr} {l:Nat} (r:a_ h ts (some ad) l):av h ad (po ts) :=
 yQ (f:=BX) (n:=2) (λ_=>rfl) ts ad λi x hx=>by
  obtain ⟨ad',vs,e,h1,h2⟩:=r.2 i x hx
  cases e
  have h2:vs = BX x:=h2
  rw [<- h2]; exact h1
theorem QW {h:Hp} {ts:List jL} {a:YB} {l c:Nat} (hl:ts.length = l) (r:own 2 a l c (po ts) h):a_ h ts a l:=by
 refine ⟨hl,λi x hx=>?_⟩
 rcases cf r with e | ⟨ad,rfl,hc⟩
 ·have:=B3 ts
  rw [e] at this
  have h0:=(Wt.1 hx).1
  simp at this; omega
 ·exact ⟨ad,BX x,rfl,bQ (f:=BX) (n:=2) (λ_=>rfl) ts ad hc i x hx,rfl⟩
theorem Ju {os:List (YB × Nat)} {ps:List aH} {h:Hp} {ad:Addr} (hr:av h ad (mQ os ps)) {i:Nat} {o:YB × Nat} {p:aH} (ho:os[i]? = some o) (hp:ps[i]? = some p):av h (ad.add (cY i 3)) [.int .i64 p.left,.slice o.1 p.right.length o.2,.int .i64 p.level] :=
 bQ (f:=BZ) (n:=3) (λ_=>rfl) (os.zip ps) ad hr i (o,p) (by rw [List.getElem?_zip_eq_some]; exact ⟨ho,hp⟩)
theorem Jv {os:List (YB × Nat)} {ps:List aH} (h:os.length = ps.length):(mQ os ps).length = ps.length * 3:=by
 have:∀ zs:List ((YB × Nat) × aH),(zs.flatMap BZ).length = zs.length * 3:=λzs=>by
  induction zs with
  | nil=>rfl
  | cons t ts ih=>simp only [Xc,WA,Xj,BZ,Xk] at ih ⊢; omega
 unfold mQ; rw [this,List.length_zip,h,Nat.min_self]
theorem Ho {os:List (YB × Nat)} {ps:List aH} (h:os.length = ps.length) (o:YB × Nat) (p:aH):mQ (os ++ [o]) (ps ++ [p]) = mQ os ps ++ BZ (o,p):=by
 unfold mQ; rw [List.zip_append h]; simp
theorem Fu {os:List (YB × Nat)} {ps:List aH} (h:os.length = ps.length) (o:YB × Nat) (p:aH):jy (os ++ [o]) (ps ++ [p]) = jy os ps ++ [own 1 o.1 p.right.length o.2 (iv p.right)]:=by
 unfold jy; rw [List.zipWith_append h]; rfl
def UJ (g:af) (x:GA) (os:List (YB × Nat)):List ay:=[own 3 x.pa g.prods.length x.pc (mQ os g.prods),aG (jy os g.prods),own 2 x.ta g.terms.length x.tc (po g.terms),own 1 x.na g.nons.length x.nc (g.nons.map λs=>Value.string s),own 1 x.la g.levels.length x.lc (iv g.levels)]
structure UK (g:af) (x:GA):Prop where
 t:x.tl = g.terms.length
 n:x.nl = g.nons.length
 l:x.ll = g.levels.length
 s:x.s = g.start
 p:x.pl = g.prods.length
theorem QX {L:List ay} {h:Hp} {os:List (YB × Nat)} {ps:List aH} {k:Nat} {o:YB × Nat} {p:aH} (i:Nat) (hl:aC L h) (ho:os[k]? = some o) (hp:ps[k]? = some p) (e:oU L i = aG (jy os ps):=by rfl) (hi:Nat.blt i (xc L) = true:=by rfl):a_ h p.right o.1 p.right.length/\p.right.length<=o.2:=by
 obtain ⟨h1,s,ha⟩:=cR i (by simpa [gH] using hi) hl
 rw [e] at ha
 obtain ⟨h2,s2,hb⟩:=kW (A:=own 1 o.1 p.right.length o.2 (iv p.right)) (Wu (i:=k) (by unfold jy; rw [XZ,ho,hp])) ha
 refine ⟨(dS rfl (cf hb)).mono (s2.trans s),?_⟩
 rcases hb with ⟨_,h,h',_⟩ | ⟨_,_,_,_,_,_,_,_,h⟩ <;> omega
theorem Qg {L:List ay} {h:Hp} {A:ay} (i:Nat) (hl:aC L h) (e:oU L i = A:=by rfl) (hi:Nat.blt i (xc L) = true:=by rfl):∃ h1,sub h1 h/\A h1:=by
 obtain ⟨h1,s,ha⟩:=cR i (by simpa [gH] using hi) hl
 exact ⟨h1,s,e ▸ ha⟩
theorem xk {sz l c:Nat} {a:YB} {vs:List Value} {h:Hp} (ha:own sz a l c vs h):l<=c:=by
 rcases ha with ⟨_,rfl,rfl,_⟩ | ⟨_,_,_,_,_,_,_,_,h⟩
 ·exact WO _
 ·exact h
theorem QY {g:af} {x:GA} {os:List (YB × Nat)} {L:List ay} {h:Hp} (hx:UK g x) (ho:os.length = g.prods.length) (hs:aC (UJ g x os ++ L) h):gR h g x:=by
 obtain ⟨h1,s1,a1⟩:=Qg (A:=own 3 x.pa g.prods.length x.pc (mQ os g.prods)) 0 hs
 obtain ⟨h2,s2,a2⟩:=Qg (A:=own 2 x.ta g.terms.length x.tc (po g.terms)) 2 hs
 obtain ⟨h3,s3,a3⟩:=Qg (A:=own 1 x.na g.nons.length x.nc (g.nons.map λs=>Value.string s)) 3 hs
 obtain ⟨h4,s4,a4⟩:=Qg (A:=own 1 x.la g.levels.length x.lc (iv g.levels)) 4 hs
 obtain ⟨q1,q2,q3,q4,q5⟩:=hx
 refine ⟨?_,?_,?_,q4,?_,?_,?_,?_,?_⟩
 ·rw [q1]; exact (QW rfl a2).mono s2
 ·rw [q2]; exact (fi rfl (cf a3)).mono s3
 ·rw [q3]; exact (dS rfl (cf a4)).mono s4
 ·rw [q5]
  refine ⟨rfl,λi p hp=>?_⟩
  have hi:=(Wt.1 hp).1
  obtain ⟨o,hoi⟩ : ∃ o,os[i]? = some o:=⟨os[i]'(by omega),Wv _⟩
  rcases cf a1 with e | ⟨ad,e,hc⟩
  ·have:=Jv ho
   rw [e] at this; simp at this; omega
  ·obtain ⟨r1,r2⟩:=QX (k:=i) (o:=o) (p:=p) 1 hs hoi hp
   exact ⟨ad,_,e,(Ju hc hoi hp).mono s1,o.1,_,o.2,rfl,r2,r1⟩
 ·rw [q1]; exact xk a2
 ·rw [q2]; exact xk a3
 ·rw [q3]; exact xk a4
 ·rw [q5]; exact xk a1
end Go.V
namespace Go.Proofs.YtndaepmjkbmjmaaGreatDoor
section
variable {w:YC} {L:List ay} {g:af} {x:GA}
theorem Tv (hg:gR (hp w) g x) (hb:ik g) (hbT:g.terms.length * 24<=140737488355328) (hbN:g.nons.length * 16<=140737488355328):aA Tryz.prog j8 [.agg ⟨x.cells⟩] w λv w'=>∃ (x' : GA) (os:List (YB × Nat)),v = .agg ⟨x'.cells⟩/\UK g x'/\os.length = g.prods.length/\St w' (UJ g x' os ++ all w):=by
 refine qu ?_
 refine cN hg λk1 w1 gw hg B=>?_
 have tl:=hg.t.1
 have nl:=hg.n.1
 have ll:=hg.l.1
 have pl:=hg.p.1
 have hst:=hg.s
 obtain ⟨b1,b2,b3,b4,b5,b6,b7⟩:=hb
 have gs:sub (hp w) (hp w1):=gw
 have h1:=St.all w1
 unfold V.all at h1
 generalize hH:hp w1 = H at *
 refine ah h1 λk2 w2 h=>⟨_,B.c3 (aU 1 h.l),ah h λk3 w3 h=>bu h rfl (by intro v hv; simp at hv; rcases hv with rfl | rfl | rfl | rfl | rfl <;> rfl) λw4 h=>?_⟩
 refine ⟨_,_,_,h.cell 0,_,_,_,B.c0 (aU 2 h.l),?_⟩
 refine (iH aQ (rfl:aj Ty _ = .slice _) rfl rfl rfl (az 2 h) (fx (news:=po g.terms) aQ (rfl:aj Ty _ = .slice _) (n:=x.tl) (by rw [B3,tl]) ?_ (by
   intro u hu
   obtain ⟨t,_,ht⟩:=XS.1 hu
   simp [BX] at ht; rcases ht with rfl | rfl <;> rfl)) (by show (0 + x.tl) * 24<=_; omega) (by omega)).mono ?_
 ·by_cases h0:x.tl = 0
  ·exact .inl h0
  ·obtain ⟨t,ad,vs,_,ha,_⟩:=hg.t.get (i:=0) (by omega)
   have ht:=hg.t
   rw [ha] at ht
   exact .inr ⟨ad,ha,λj u hj=>(QV ht).cell (aU 2 h.l) hj⟩
 rintro _ w5 ⟨ta,tc,rfl,h⟩
 rw [Xx,<- tl] at h ⊢
 rw [Xd] at h
 refine ⟨_,_,_,rfl,bj (h.pick 4 [1,0,2,3]) (by simp) λw6 h=>?_⟩
 refine ⟨_,_,_,h.cell 1,_,_,_,B.c1 (aU 3 h.l),?_⟩
 refine (iH aQ (rfl:aj Ty _ = .slice _) rfl rfl rfl (az 1 h) (fx (news:=g.nons.map λs=>Value.string s) aQ (rfl:aj Ty _ = .slice _) (n:=x.nl) (by rw [WE,nl,XR]) ?_ (by
   intro u hu
   obtain ⟨t,_,rfl⟩:=WS.1 hu
   rfl)) (by show (0 + x.nl) * 16<=_; omega) (by omega)).mono ?_
 ·rcases (hg.n.mono (aU 3 h.l)).row with h0 | ⟨ad,ha,hc⟩
  ·exact .inl (by have:=congrArg List.length h0; rw [WE,nl] at this; exact this)
  ·exact .inr ⟨ad,ha,λj u hj=>pg (hc j u hj)⟩
 rintro _ w7 ⟨na,nc,rfl,h⟩
 rw [Xx,<- nl] at h ⊢
 rw [Xd] at h
 refine ⟨_,_,_,rfl,?_⟩
 rw [aL]
 refine bj (h.pick 5 [1,0,2,3,4]) (by simp) λw8 h=>?_
 refine ⟨_,_,_,h.cell 2,_,_,_,B.c2 (aU 4 h.l),?_⟩
 refine (iH aQ (rfl:aj Ty _ = .slice _) rfl rfl rfl (az 1 h) (fx (news:=iv g.levels) aQ (rfl:aj Ty _ = .slice _) (n:=x.ll) (by rw [pj,ll,XR]) ?_ (by
   intro u hu
   obtain ⟨t,_,rfl⟩:=WS.1 hu
   rfl)) (by show (0 + x.ll) * 8<=_; omega) (by omega)).mono ?_
 ·rcases (hg.l.mono (aU 4 h.l)).iv with h0 | ⟨ad,ha,hc⟩
  ·exact .inl (by have:=congrArg List.length h0; rw [pj,ll] at this; exact this)
  ·exact .inr ⟨ad,ha,λj u hj=>pg (hc j u hj)⟩
 rintro _ w9 ⟨la,lc,rfl,h⟩
 rw [Xx,<- ll] at h ⊢
 rw [Xd] at h
 refine ⟨_,_,_,rfl,?_⟩
 rw [aL]
 refine bj (h.pick 6 [1,0,2,3,4,5]) (by simp) λw10 h=>?_
 obtain ⟨K,hK⟩:=N6 (λ(pa:YB) (j pc:Nat)=>[Value.slice ta g.terms.length tc,.slice na g.nons.length nc,.slice la g.levels.length lc,.int .i64 x.s,.slice pa j pc])
 refine ⟨λn w'=>∃ (j:Nat) (pa:YB) (pc:Nat) (os:List (YB × Nat)),n = j/\j<=g.prods.length/\os.length = j/\St w' [aK k3 (K pa j pc),own 3 pa j pc (mQ os (g.prods.take j)),aG (jy os (g.prods.take j)),own 1 la g.levels.length lc (iv g.levels),own 1 na g.nons.length nc (g.nons.map λs=>Value.string s),own 2 ta g.terms.length tc (po g.terms),aK k2 [.slice none 0 0,.slice none 0 0,.slice none 0 0,.int .i64 0,.slice none 0 0],has H],λn _=>g.prods.length - n.toNat,⟨0,none,0,[],rfl,by omega,rfl,?_⟩,?_⟩
 ·have h:St w10 (aG (jy [] (g.prods.take 0)) :: _):=St.flat.2 (show St w10 ([] ++ _) from az 3 h)
  rw [hK]
  exact h.pick 8 [2,1,0,3,4,5,6,7]
 clear h
 rintro _ n w11 ⟨j,pa,pc,os,rfl,hj,hos,h⟩
 have hrl:(g.prods.take j).length = j:=by rw [WV]; omega
 refine ⟨_,_,_,B.c4 (aU 7 h.l),ae (λh2=>?_) λh2=>?_⟩
 ·have h2:j < g.prods.length:=by have:=Wr h2; omega
  obtain ⟨p,ad,vs,hp1,hpa,hp2,ra,rl,rc,rfl,hrc,hp3⟩:=hg.p.get (i:=j) (by omega)
  have hpm:=Wu hp1
  have b7':=b7 p hpm
  have rl1:=hp3.1
  have et:g.prods.take (j + 1) = g.prods.take j ++ [p]:=by rw [Wz,hp1]; rfl
  intro w12 hd
  have h:=h.drawn hd
  refine ⟨λw=>sub H (hp w),aU 7 h.l,_,_,_,λw s=>B.c4 s,aq hpa (by omega) ⟨_,λw s=>hp2.cell0 s,_,_,_,λw s=>B.c4 s,aq hpa (by omega) ⟨_,λw s=>hp2.cell s (j:=2) rfl,ah h λk28 w17 h=>⟨aU 8 h.l,bu h rfl (by intro v hv; simp at hv; rcases hv with rfl | rfl | rfl <;> rfl) λw18 h=>?_⟩⟩⟩⟩
  intro w19 hd
  have h:=h.drawn hd
  refine ⟨λw=>av (hp w) ⟨k28,0,none⟩ [.int .i64 p.left,.slice none 0 0,.int .i64 p.level]/\sub H (hp w),⟨ai 0 h.l,aU 8 h.l⟩,_,_,_,λw s=>s.1.cell (sub.refl _) (j:=1) rfl,_,_,_,λw s=>B.c4 s.2,aq hpa (by omega) ⟨_,_,_,λw s=>hp2.cell s.2 (j:=1) rfl,?_⟩⟩
  refine (iH aQ (rfl:aj Ty _ = .slice _) rfl rfl rfl (az 1 h) (fx (news:=iv p.right) aQ (rfl:aj Ty _ = .slice _) (n:=rl) (by rw [pj,rl1,XR]) ?_ (by
   intro u hu
   obtain ⟨t,_,rfl⟩:=WS.1 hu
   rfl)) (by show (0 + rl) * 8<=_; omega) (by omega)).mono ?_
  ·rcases (hp3.mono (aU 8 h.l)).iv with h0 | ⟨ad,ha,hc⟩
   ·exact .inl (by have:=congrArg List.length h0; rw [pj,rl1] at this; exact this)
   ·exact .inr ⟨ad,ha,λj u hj=>pg (hc j u hj)⟩
  rintro _ w23 ⟨qa,qc,rfl,h⟩
  rw [Xx,<- rl1] at h ⊢
  rw [Xd] at h
  refine ⟨_,_,_,rfl,⟨ai 1 h.l,aU 9 h.l⟩,?_⟩
  rw [aL]
  refine bj (h.pick 10 [1,0,2,3,4,5,6,7,8,9]) (by simp) λw24 h=>?_
  have ck:w24.cell? ((⟨k3,0,none⟩ : Addr).add 4) = some (.slice pa j pc):=by
   have r:av (hp w24) ⟨k3,0,none⟩ (K pa j pc):=ai 2 h.l
   rw [hK] at r
   exact r.cell (sub.refl _) (j:=4) rfl
  refine ⟨_,_,_,ck,_,_,_,_,_,h.row.at (sub.refl _) rfl,ah h λk41 w25 h=>?_⟩
  have h:St w25 [aK k41 (BZ ((qa,qc),p)),aK k28 _,own 1 qa p.right.length qc (iv p.right),aK k3 (K pa j pc),own 3 pa j pc (mQ os (g.prods.take j)),aG (jy os (g.prods.take j)),own 1 la g.levels.length lc (iv g.levels),own 1 na g.nons.length nc (g.nons.map λs=>Value.string s),own 2 ta g.terms.length tc (po g.terms),aK k2 [.slice none 0 0,.slice none 0 0,.slice none 0 0,.int .i64 0,.slice none 0 0],has H]:=h
  refine (aN aQ (rfl:aj Ty _ = .slice _) (rfl:aj Ty _ = .slice _) rfl rfl rfl (h.pick 11 [0,4,2,3,5,6,7,8,9,10]) rfl (by simp [aV,BZ]) (by show (_ + 1) * 40<=_; omega) (by omega)).mono ?_
  rintro _ w26 ⟨pa',pc',rfl,h⟩
  refine ⟨_,_,_,rfl,?_⟩
  rw [aL]
  refine bj (h.pick 10 [3,0,2,4,5,6,7,8,9]) (by rw [hK]; simp) λw27 h=>?_
  have eK:(K pa j pc).set 4 (.slice pa' (j + 1) pc') = K pa' (j + 1) pc':=by rw [hK]; rfl
  rw [eK] at h
  have h:=St.snoc (A:=own 1 qa p.right.length qc (iv p.right)) (M:=jy os (g.prods.take j)) (h.pick 9 [2,3,0,1,4,5,6,7,8])
  have e1:=Fu (hos.trans hrl.symm) (qa,qc) p
  have e2:=Ho (hos.trans hrl.symm) (qa,qc) p
  dsimp only at e1
  rw [<- e1,<- et] at h
  refine ⟨⟨by omega,by omega⟩,⟨j + 1,pa',pc',os ++ [(qa,qc)],by simp,by omega,by simp [hos],?_⟩,bx h2⟩
  rw [et] at h ⊢
  rw [e2]
  exact h.pick 8 [1,2,0,3,4,5,6,7]
 ·have h2:j = g.prods.length:=by have:=Ws h2; omega
  subst h2
  rw [WT] at h
  have r:av (hp w11) ⟨k3,0,none⟩ (K pa g.prods.length pc):=ai 0 h.l
  rw [hK] at r
  refine ⟨_,_,_,_,_,_,_,_,_,_,_,_,_,r.at (sub.refl _) rfl,bu (h.pick 8 [6,1,2,3,4,5,7]) rfl (by intro v hv; simp at hv; rcases hv with rfl | rfl | rfl | rfl | rfl <;> rfl) λw28 h=>?_⟩
  refine ⟨_,_,_,_,_,_,_,_,_,_,_,_,_,h.row.at (sub.refl _) rfl,⟨ta,g.terms.length,tc,na,g.nons.length,nc,la,g.levels.length,lc,x.s,pa,g.prods.length,pc⟩,os,rfl,⟨rfl,rfl,rfl,hst,rfl⟩,hos,?_⟩
  exact St.on (N:=[_,_,_,_,_]) (h.pick 7 [1,2,5,4,3,6]) (bC gs)
end
section
variable {w:YC} {L:List ay} {g:af} {x y:GA} {a a2:YB} {l l2 c c2:Nat} {xs ys:List Int} {bs:List Bool} {xss:List (List Int)}
theorem B5 (hx:a_ (hp w) xs a l) (hy:a_ (hp w) xs a2 l2) (hb:l<=4611686018427387904):aA Tryz.prog nG [.slice a l c,.slice a2 l2 c2] w λv w'=>v = .bool true/\hp w' = hp w:=by
 refine lM ?_
 have hl:=hx.1
 have hl2:=hy.1
 refine ae (λh0=>?_) λh0=>?_
 ·simp at h0; omega
 refine ⟨λn w'=>∃ j:Nat,n = j/\j<=l/\hp w' = hp w,λn _=>l - n.toNat,⟨0,rfl,by omega,rfl⟩,?_⟩
 rintro _ n w1 ⟨j,rfl,hj,e⟩
 refine ae (λh1=>?_) λ_=>⟨rfl,e⟩
 have h1:j < l:=by have:=Wr h1; omega
 intro w2 hd
 have e2:hp w2 = hp w:=(dB hd).trans e
 obtain ⟨u,ad,hu,hua,hu2⟩:=hx.cF h1
 obtain ⟨v,ad2,hv,hva,hv2⟩:=hy.cF (i:=j) (by omega)
 rw [hu] at hv; cases hv
 refine ⟨λw'=>sub (hp w) (hp w'),vy e2,aw hua h1 ⟨_,λw s=>hu2 _ s,aw hva (by omega) ⟨_,λw s=>hv2 _ s,ae (λh=>by simp at h) λ_=>⟨⟨by omega,by omega⟩,⟨j + 1,by simp,by omega,e2⟩,bx h1⟩⟩⟩⟩
theorem N8 (hg:gR (hp w) g x) (hk:gR (hp w) g y) (hb:ik g):aA Tryz.prog ux [.agg ⟨x.cells⟩,.agg ⟨y.cells⟩] w λv w'=>v = .bool true/\Gr w w':=by
 refine qw ?_
 refine cN hg λk1 w1 gw hg B=>cN (hk.mono gw) λk2 w2 g2 hk C=>?_
 have hg:=hg.mono g2
 have B:GB (hp w2) k1 x:=⟨λs=>B.c0 (sub.trans g2 s),λs=>B.c1 (sub.trans g2 s),λs=>B.c2 (sub.trans g2 s),λs=>B.c3 (sub.trans g2 s),λs=>B.c4 (sub.trans g2 s),λs=>B.row (sub.trans g2 s)⟩
 have gw2:Gr w w2:=gw.trans g2
 clear g2 gw
 obtain ⟨b1,b2,b3,b4,b5,b6,b7⟩:=hb
 have t1:=hg.t.1; have t2:=hk.t.1
 have n1:=hg.n.1; have n2:=hk.n.1
 have l1:=hg.l.1; have l2:=hk.l.1
 have p1:=hg.p.1; have p2:=hk.p.1
 have s1:=hg.s; have s2:=hk.s
 refine ⟨_,_,_,B.c2 (sub.refl _),_,_,_,C.c2 (sub.refl _),(B5 hg.l hk.l (by omega)).mono ?_⟩
 rintro _ w3 ⟨rfl,e3⟩
 have g3:Gr w2 w3:=Gr.of_eq e3
 refine ⟨_,rfl,λb w'=>b = false/\w' = w3,ae (λh=>absurd h (by decide)) λ_=>⟨_,B.c3 g3,_,C.c3 g3,ae (λh=>?_) λ_=>⟨_,_,_,B.c0 g3,_,_,_,C.c0 g3,ae (λh=>?_) λ_=>⟨_,_,_,B.c1 g3,_,_,_,C.c1 g3,ae (λh=>?_) λ_=>⟨_,_,_,B.c4 g3,_,_,_,C.c4 g3,?_,rfl⟩⟩⟩⟩,?_⟩
 ·rw [s1,s2] at h; simp at h
 ·simp at h; omega
 ·simp at h; omega
 ·simp; omega
 rintro _ _ w4 ⟨rfl,rfl⟩
 refine ae (λh=>absurd h (by decide)) λ_=>?_
 refine ⟨λn w'=>∃ j:Nat,n = j/\j<=x.tl/\Gr w2 w',λn _=>x.tl - n.toNat,⟨0,rfl,by omega,g3⟩,?_⟩
 rintro _ n w5 ⟨j,rfl,hj,g5⟩
 refine ⟨_,_,_,B.c0 g5,ae (λh=>?_) λ_=>?_⟩
 ·have h:j < x.tl:=by have:=Wr h; omega
  intro w6 hd
  have g6:Gr w2 w6:=g5.trans (Gr.drawn hd)
  obtain ⟨u,ad,vs,hu,hua,hu2,hu3⟩:=hg.t.get h
  obtain ⟨v,ad2,vs',hv,hva,hv2,hv3⟩:=hk.t.get (i:=j) (by omega)
  rw [hu] at hv; cases hv
  have hu3:vs = [.string u.name,.int .i64 u.level]:=hu3
  have hv3:vs' = [.string u.name,.int .i64 u.level]:=hv3
  subst hu3; subst hv3
  refine ⟨λw'=>sub (hp w2) (hp w'),g6,_,_,_,λw s=>B.c0 s,aq hua h ⟨_,_,λw s=>hu2.at s rfl,_,_,_,λw s=>C.c0 s,aq hva (by omega) ⟨_,_,λw s=>hv2.at s rfl,_,λw s=>KS w _ _ _ _ _ _,_,rfl,ae (λh=>by simp at h) λ_=>⟨⟨by omega,by omega⟩,⟨j + 1,by simp,by omega,g6⟩,bx h⟩⟩⟩⟩
 refine ⟨λn w'=>∃ j:Nat,n = j/\j<=x.nl/\Gr w2 w',λn _=>x.nl - n.toNat,⟨0,rfl,by omega,g5⟩,?_⟩
 rintro _ n w12 ⟨j,rfl,hj,g5⟩
 refine ⟨_,_,_,B.c1 g5,ae (λh=>?_) λ_=>?_⟩
 ·have h:j < x.nl:=by have:=Wr h; omega
  intro w6 hd
  have g6:Gr w2 w6:=g5.trans (Gr.drawn hd)
  obtain ⟨u,ad,hu,hua,hu2⟩:=hg.n.cF h
  obtain ⟨v,ad2,hv,hva,hv2⟩:=hk.n.cF (i:=j) (by omega)
  rw [hu] at hv; cases hv
  refine ⟨λw'=>sub (hp w2) (hp w'),g6,_,_,_,λw s=>B.c1 s,aw hua h ⟨u,λw s=>hu2 _ s,_,_,_,λw s=>C.c1 s,aw hva (by omega) ⟨u,λw s=>hv2 _ s,ae (λh=>by simp at h) λ_=>⟨⟨by omega,by omega⟩,⟨j + 1,by simp,by omega,g6⟩,bx h⟩⟩⟩⟩
 refine ⟨λn w'=>∃ j:Nat,n = j/\j<=x.pl/\Gr w2 w',λn _=>x.pl - n.toNat,⟨0,rfl,by omega,g5⟩,?_⟩
 rintro _ n w18 ⟨j,rfl,hj,g5⟩
 refine ⟨_,_,_,B.c4 g5,ae (λh=>?_) λ_=>⟨rfl,gw2.trans g5⟩⟩
 have h:j < x.pl:=by have:=Wr h; omega
 obtain ⟨u,ad,vs,hu,hua,hu2,ra,rl,rc,rfl,hrc,hu3⟩:=hg.p.get h
 obtain ⟨v,ad2,vs',hv,hva,hv2,sa,sl,sc,rfl,hsc,hv3⟩:=hk.p.get (i:=j) (by omega)
 rw [hu] at hv; cases hv
 have b7':=b7 u (Wu hu)
 have u1:=hu3.1
 refine ⟨_,_,_,B.c4 g5,aq hua h ⟨_,_,_,_,_,hu2.at g5 rfl,ah (St.all w18) λk37 w19 h1=>bu h1 rfl (by simp [aV]) λw20 h1=>?_⟩⟩
 have g20:Gr w18 w20:=h1.aZ
 refine ⟨_,_,_,C.c4 (sub.trans g5 g20),aq hva (by omega) ⟨_,_,_,_,_,hv2.at (sub.trans g5 g20) rfl,ah h1 λk42 w21 h1=>bu h1 rfl (by simp [aV]) λw22 h1=>?_⟩⟩
 have r37:av (hp w22) ⟨k37,0,none⟩ [.int .i64 u.left,.slice ra rl rc,.int .i64 u.level]:=ai 1 h1.l
 have r42:av (hp w22) ⟨k42,0,none⟩ [.int .i64 u.left,.slice sa sl sc,.int .i64 u.level]:=ai 0 h1.l
 have g22:Gr w2 w22:=sub.trans g5 (aU 2 h1.l)
 refine ⟨_,_,_,r37.cell (sub.refl _) (j:=1) rfl,_,_,_,r42.cell (sub.refl _) (j:=1) rfl,(B5 (hu3.mono g22) (hv3.mono g22) (by omega)).mono ?_⟩
 rintro _ w23 ⟨rfl,e23⟩
 have s23:=vy e23
 refine ⟨_,rfl,ae (λh=>absurd h (by decide)) λ_=>⟨_,r37.cell0 s23,_,r42.cell0 s23,ae (λh=>by simp at h) λ_=>⟨_,r37.cell s23 (j:=2) rfl,_,r42.cell s23 (j:=2) rfl,ae (λh=>by simp at h) λ_=>⟨⟨by omega,by omega⟩,⟨j + 1,by simp,by omega,g22.trans s23⟩,bx h⟩⟩⟩⟩
end
open Go.Shelf Go.Proofs
def Mf:Go.Shelf.Ren:=⟨fun | 6=>96 | 15=>95 | 14=>156 | 28=>154 | 29=>155 | 20=>192 | 21=>193 | 22=>194 | 23=>195 | 24=>196 | 25=>197 | 26=>198 | 27=>199 | 46=>235 | 47=>188 | 48=>189 | 49=>236 | 50=>237 | 57=>257 | n=>n,fun | 22=>51 | 24=>104 | 25=>170 | 3=>3 | 39=>167 | 0=>0 | 53=>239 | 55=>241 | 4=>4 | 46=>232 | 45=>231 | 50=>236 | 5=>5 | 9=>9 | 66=>263 | 70=>267 | 76=>310 | 77=>311 | n=>n,fun | n=>n⟩
theorem Sx:Go.Proofs.SlLaysF0.n6 Tryz.prog Mf:={
  mixed:=by kernel_rfl,
  f6:=⟨Tryz.f96.name,by decide,Tryz.func96.trans (congrArg some (by kernel_rfl))⟩,
  f14:=⟨Tryz.f156.name,by decide,Tryz.func156.trans (congrArg some (by kernel_rfl))⟩,
  f15:=Tryz.func95.trans (congrArg some (by kernel_rfl)),
  f20:=⟨Tryz.f192.name,by decide,Tryz.func192.trans (congrArg some (by kernel_rfl))⟩,
  f21:=⟨Tryz.f193.name,by decide,Tryz.func193.trans (congrArg some (by kernel_rfl))⟩,
  f22:=⟨Tryz.f194.name,by decide,Tryz.func194.trans (congrArg some (by kernel_rfl))⟩,
  f23:=⟨Tryz.f195.name,by decide,Tryz.func195.trans (congrArg some (by kernel_rfl))⟩,
  f24:=⟨Tryz.f196.name,by decide,Tryz.func196.trans (congrArg some (by kernel_rfl))⟩,
  f25:=⟨Tryz.f197.name,by decide,Tryz.func197.trans (congrArg some (by kernel_rfl))⟩,
  f26:=⟨Tryz.f198.name,by decide,Tryz.func198.trans (congrArg some (by kernel_rfl))⟩,
  f27:=⟨Tryz.f199.name,by decide,Tryz.func199.trans (congrArg some (by kernel_rfl))⟩,
  f28:=Tryz.func154.trans (congrArg some (by kernel_rfl)),
  f29:=Tryz.func155.trans (congrArg some (by kernel_rfl)),
  f46:=⟨Tryz.f235.name,by decide,Tryz.func235.trans (congrArg some (by kernel_rfl))⟩,
  f47:=Tryz.func188.trans (congrArg some (by kernel_rfl)),
  f48:=Tryz.func189.trans (congrArg some (by kernel_rfl)),
  f49:=⟨Tryz.f236.name,by decide,Tryz.func236.trans (congrArg some (by kernel_rfl))⟩,
  f50:=⟨Tryz.f237.name,by decide,Tryz.func237.trans (congrArg some (by kernel_rfl))⟩,
  f57:=⟨Tryz.f257.name,by decide,Tryz.func257.trans (congrArg some (by kernel_rfl))⟩,
  t0:=Tryz.underlying0,
  a0:=Tryz.isAgg0,
  z0:=Tryz.sizeOf0,
  v0:=Tryz.zeroValue0,
  t3:=Tryz.underlying3,
  a3:=Tryz.isAgg3,
  z3:=Tryz.sizeOf3,
  v3:=Tryz.zeroValue3,
  t4:=Tryz.underlying4,
  a4:=Tryz.isAgg4,
  z4:=Tryz.sizeOf4,
  v4:=Tryz.zeroValue4,
  t5:=Tryz.underlying5,
  a5:=Tryz.isAgg5,
  z5:=Tryz.sizeOf5,
  v5:=Tryz.zeroValue5,
  t9:=Tryz.underlying9,
  a9:=Tryz.isAgg9,
  z9:=Tryz.sizeOf9,
  v9:=Tryz.zeroValue9,
  t22:=Tryz.underlying51,
  a22:=Tryz.isAgg51,
  z22:=Tryz.sizeOf51,
  v22:=Tryz.zeroValue51,
  t25:=Tryz.underlying170,
  a25:=Tryz.isAgg170,
  z25:=Tryz.sizeOf170,
  v25:=Tryz.zeroValue170,
  t39:=Tryz.underlying167,
  a39:=Tryz.isAgg167,
  z39:=Tryz.sizeOf167,
  v39:=Tryz.zeroValue167,
  t45:=Tryz.underlying231,
  a45:=Tryz.isAgg231,
  z45:=Tryz.sizeOf231,
  v45:=Tryz.zeroValue231,
  t46:=Tryz.underlying232,
  a46:=Tryz.isAgg232,
  z46:=Tryz.sizeOf232,
  v46:=Tryz.zeroValue232,
  t50:=Tryz.underlying236,
  a50:=Tryz.isAgg236,
  z50:=Tryz.sizeOf236,
  v50:=Tryz.zeroValue236,
  t53:=Tryz.underlying239,
  a53:=Tryz.isAgg239,
  z53:=Tryz.sizeOf239,
  v53:=Tryz.zeroValue239,
  t55:=Tryz.underlying241,
  a55:=Tryz.isAgg241,
  z55:=Tryz.sizeOf241,
  v55:=Tryz.zeroValue241,
  t66:=Tryz.underlying263,
  a66:=Tryz.isAgg263,
  z66:=Tryz.sizeOf263,
  v66:=Tryz.zeroValue263,
  t70:=Tryz.underlying267,
  a70:=Tryz.isAgg267,
  z70:=Tryz.sizeOf267,
  v70:=Tryz.zeroValue267,
  t76:=Tryz.underlying310,
  a76:=Tryz.isAgg310,
  z76:=Tryz.sizeOf310,
  v76:=Tryz.zeroValue310,
  t77:=Tryz.underlying311,
  a77:=Tryz.isAgg311,
  z77:=Tryz.sizeOf311,
  v77:=Tryz.zeroValue311 }
def Mg:Go.Shelf.Ren:=⟨fun | 189=>53 | 125=>95 | 257=>94 | 128=>154 | 129=>155 | 294=>145 | 295=>146 | 296=>147 | 297=>148 | 298=>149 | 299=>150 | 216=>151 | 300=>152 | 301=>153 | 328=>187 | 329=>188 | 330=>189 | 331=>190 | 332=>191 | 215=>157 | 343=>234 | n=>n,fun | 28=>24 | 3=>3 | 46=>167 | 0=>0 | 51=>239 | 53=>241 | 4=>4 | 183=>232 | 182=>231 | 131=>236 | 5=>5 | 9=>9 | 218=>263 | 222=>267 | 228=>310 | 229=>311 | n=>n,fun | n=>n⟩
theorem Sy:Go.Proofs.Lays.n189 Tryz.prog Mg:={
  mixed:=by kernel_rfl,
  f125:=Tryz.func95.trans (congrArg some (by kernel_rfl)),
  f128:=Tryz.func154.trans (congrArg some (by kernel_rfl)),
  f129:=Tryz.func155.trans (congrArg some (by kernel_rfl)),
  f189:=Tryz.func53.trans (congrArg some (by kernel_rfl)),
  f215:=Tryz.func157.trans (congrArg some (by kernel_rfl)),
  f216:=Tryz.func151.trans (congrArg some (by kernel_rfl)),
  f257:=Tryz.func94.trans (congrArg some (by kernel_rfl)),
  f294:=Tryz.func145.trans (congrArg some (by kernel_rfl)),
  f295:=Tryz.func146.trans (congrArg some (by kernel_rfl)),
  f296:=Tryz.func147.trans (congrArg some (by kernel_rfl)),
  f297:=Tryz.func148.trans (congrArg some (by kernel_rfl)),
  f298:=Tryz.func149.trans (congrArg some (by kernel_rfl)),
  f299:=Tryz.func150.trans (congrArg some (by kernel_rfl)),
  f300:=Tryz.func152.trans (congrArg some (by kernel_rfl)),
  f301:=Tryz.func153.trans (congrArg some (by kernel_rfl)),
  f328:=Tryz.func187.trans (congrArg some (by kernel_rfl)),
  f329:=Tryz.func188.trans (congrArg some (by kernel_rfl)),
  f330:=Tryz.func189.trans (congrArg some (by kernel_rfl)),
  f331:=Tryz.func190.trans (congrArg some (by kernel_rfl)),
  f332:=Tryz.func191.trans (congrArg some (by kernel_rfl)),
  f343:=Tryz.func234.trans (congrArg some (by kernel_rfl)),
  t0:=Tryz.underlying0,
  a0:=Tryz.isAgg0,
  z0:=Tryz.sizeOf0,
  v0:=Tryz.zeroValue0,
  t3:=Tryz.underlying3,
  a3:=Tryz.isAgg3,
  z3:=Tryz.sizeOf3,
  v3:=Tryz.zeroValue3,
  t4:=Tryz.underlying4,
  a4:=Tryz.isAgg4,
  z4:=Tryz.sizeOf4,
  v4:=Tryz.zeroValue4,
  t5:=Tryz.underlying5,
  a5:=Tryz.isAgg5,
  z5:=Tryz.sizeOf5,
  v5:=Tryz.zeroValue5,
  t9:=Tryz.underlying9,
  a9:=Tryz.isAgg9,
  z9:=Tryz.sizeOf9,
  v9:=Tryz.zeroValue9,
  t28:=Tryz.underlying24,
  a28:=Tryz.isAgg24,
  z28:=Tryz.sizeOf24,
  v28:=Tryz.zeroValue24,
  t46:=Tryz.underlying167,
  a46:=Tryz.isAgg167,
  z46:=Tryz.sizeOf167,
  v46:=Tryz.zeroValue167,
  t51:=Tryz.underlying239,
  a51:=Tryz.isAgg239,
  z51:=Tryz.sizeOf239,
  v51:=Tryz.zeroValue239,
  t53:=Tryz.underlying241,
  a53:=Tryz.isAgg241,
  z53:=Tryz.sizeOf241,
  v53:=Tryz.zeroValue241,
  t131:=Tryz.underlying236,
  a131:=Tryz.isAgg236,
  z131:=Tryz.sizeOf236,
  v131:=Tryz.zeroValue236,
  t182:=Tryz.underlying231,
  a182:=Tryz.isAgg231,
  z182:=Tryz.sizeOf231,
  v182:=Tryz.zeroValue231,
  t183:=Tryz.underlying232,
  a183:=Tryz.isAgg232,
  z183:=Tryz.sizeOf232,
  v183:=Tryz.zeroValue232,
  t218:=Tryz.underlying263,
  a218:=Tryz.isAgg263,
  z218:=Tryz.sizeOf263,
  v218:=Tryz.zeroValue263,
  t222:=Tryz.underlying267,
  a222:=Tryz.isAgg267,
  z222:=Tryz.sizeOf267,
  v222:=Tryz.zeroValue267,
  t228:=Tryz.underlying310,
  a228:=Tryz.isAgg310,
  z228:=Tryz.sizeOf310,
  v228:=Tryz.zeroValue310,
  t229:=Tryz.underlying311,
  a229:=Tryz.isAgg311,
  z229:=Tryz.sizeOf311,
  v229:=Tryz.zeroValue311 }
end Go.Proofs.YtndaepmjkbmjmaaGreatDoor
namespace Go.V
open Go.Proofs Go.Sort
theorem Jw {X:Type} (P:X->Prop) (f:X->Nat) (h:∃ x,P x):∃ x,P x/\∀ y,P y->f x<=f y:=by
 obtain ⟨x,hx⟩:=h
 generalize hn:f x = n
 induction n using Nat.strongRecOn generalizing x with
 | ind n ih =>
  by_cases hm:∃ y,P y/\f y < n
  ·obtain ⟨y,hy,hl⟩:=hm
   exact ih (f y) hl y hy rfl
  ·exact ⟨x,hx,λy hy=>by rw [hn]; exact X6 λhl=>hm ⟨y,hy,hl⟩⟩
open Classical in
noncomputable def Sz {X:Type} (P:X->YC->Prop) (f:X->Nat) (w:YC):Nat:=if h:∃ x,P x w then f (Jw (λx=>P x w) f h).choose else 0
theorem Fv {X:Type} {P:X->YC->Prop} {f:X->Nat} {w:YC} (h:∃ x,P x w):∃ x,P x w/\f x = Sz P f w:=by
 have:=(Jw (λx=>P x w) f h).choose_spec
 refine ⟨_,this.1,?_⟩
 unfold Sz; rw [dif_pos h]
theorem B6 {X:Type} {P:X->YC->Prop} {f:X->Nat} {w:YC} {x:X} (hx:P x w):Sz P f w<=f x:=by
 have h:∃ x,P x w:=⟨x,hx⟩
 have:=(Jw (λx=>P x w) f h).choose_spec
 unfold Sz; rw [dif_pos h]; exact this.2 x hx
section
variable {w:YC} {L:List ay}
theorem AV {sz l c k:Nat} {a:YB} {vs:List Value} (h:St w (own sz a l c vs :: L)) (hk:k<=l):St w (own sz (gE a 0 c sz) k c (vs.take (k * sz)) :: L):=by
 rcases dA h with ⟨rfl,rfl,rfl,rfl⟩ | ⟨b,pre,cs,post,rfl,hc,h1,h2,h3⟩
 ·have:k = 0:=by omega
  subst this
  have:gE none 0 0 sz = none:=by simp [gE]
  rw [this]; simpa using h
 ·have e:gE (some (⟨b,pre.length,none⟩ : Addr)) 0 c sz = some ⟨b,pre.length,none⟩:=by
   unfold gE; split
   ·rfl
   ·simp [aJ,add_lit]
  have hle:k * sz<=l * sz:=X7 _ hk
  rw [e]
  refine fw (cs:=vs.drop (k * sz) ++ cs) (post:=post) ?_ ?_ ?_ (by omega)
  ·have e2:vs.take (k * sz) ++ (vs.drop (k * sz) ++ cs ++ post) = vs ++ (cs ++ post):=by
    rw [<- WG,<- WG,WX,WG]
   rw [e2]; exact hc
  ·rw [WV]; omega
  ·rw [<- WG,WX]; exact h2
theorem ub {a:YB} {len cap hi sz:Nat} {k:YB->Nat->Nat->Prop} (h1:hi<=cap) (hk:k (gE a 0 cap sz) hi cap):uw a len cap none (some (hi:Int)) none sz k :=
 ⟨.inl rfl,.inr ⟨by show (0:Int)<=(hi:Int); omega,by show (hi:Int)<=(cap:Int); omega⟩,⟨by decide,by show (0:Int)<=(hi:Int); omega⟩,by simpa using hk⟩
theorem aB {w w' : YC} (h:drawn w w'):hp w' = hp w:=by rw [show w' = _ from h]; rfl
theorem fB {L:List ay} {h:Hp} {a:YB} {sz l c:Nat} {vs:List Value} (i:Nat) (hl:aC L h) (e:oU L i = own sz a l c vs:=by rfl) (hi:Nat.blt i (xc L) = true:=by rfl):eJ a vs h:=by
 obtain ⟨h1,s,ha⟩:=cR i (by simpa [gH] using hi) hl
 rw [e] at ha
 exact eJ.mono s (cf ha)
theorem QZ (xs:List Int) (i:Nat) (v:Int):(iv xs).set i (.int .i64 v) = iv (xs.set i v):=by simp [iv,Xy]
theorem KU {M:List ay} {n:Nat} (hn:n < M.length):M.Perm (M[n] :: (M.take n ++ M.drop (n + 1))):=by
 have e:M = M.take n ++ M[n] :: M.drop (n + 1):=by rw [<- W_ hn,WX]
 exact (List.Perm.of_eq e).trans Xo
theorem set_perm {M:List ay} {n:Nat} {A:ay} (hn:n < M.length):(M.set n A).Perm (A :: (M.take n ++ M.drop (n + 1))):=by
 rw [List.set_eq_take_append_cons_drop,WJ hn]
 exact Xo
theorem St.N9 {A:ay} {M:List ay} (h:St w (A :: aG M :: L)) {n:Nat} (hn:n < M.length):St w (aG (M.set n A) :: L):=by
 have h1:=St.flat.1 h.swap
 have h2:St w ((M[n] :: (M.take n ++ M.drop (n + 1))) ++ (A :: L)):=h1.perm ((KU hn).append_right _)
 have h3:St w ((M.take n ++ M.drop (n + 1)) ++ (A :: L)):=h2.tail
 have h4:St w ((A :: (M.take n ++ M.drop (n + 1))) ++ L):=h3.perm Xo
 exact St.flat.2 (h4.perm ((set_perm hn).symm.append_right _))
theorem St.B7 {M:List ay} {A:ay} (h:St w (aG M :: L)) {n:Nat} (hn:M[n]? = some A):St w (A :: aG (M.take n ++ M.drop (n + 1)) :: L):=by
 obtain ⟨hl,rfl⟩:=Wt.1 hn
 have h1:=St.flat.1 h
 have h2:St w ((M[n] :: (M.take n ++ M.drop (n + 1))) ++ L):=h1.perm ((KU hl).append_right _)
 have h3:St w ((M.take n ++ M.drop (n + 1)) ++ (M[n] :: L)):=h2.perm Xo.symm
 exact (St.flat.2 h3).swap
theorem xl {A:ay} (hA:∀ w L,St w L->St w (A :: L)):∀ (n:Nat),St w L->St w (aG (List.replicate n A) :: L)
 | 0,h=>(St.flat (M:=[])).2 h
 | n + 1,h=>by
  have h1:=St.flat.1 (xl hA n h)
  exact (St.flat (M:=List.replicate (n + 1) A)).2 (hA _ _ h1)
theorem St.Fw {w:YC} {L M:List ay} {A:ay} {n:Nat} (hn:n < M.length) (h:St w (A :: aG (M.take n ++ M.drop (n + 1)) :: L)):St w (aG (M.set n A) :: L):=by
 have h1:=St.flat.1 h.swap
 have h2:St w ((A :: (M.take n ++ M.drop (n + 1))) ++ L):=h1.perm Xo
 exact St.flat.2 (h2.perm ((set_perm hn).symm.append_right _))
theorem xm (xs:List Nat) (i v:Nat):(nS xs).set i (.int .i64 (v:Int)) = nS (xs.set i v):=by simp [nS,Xy]
theorem N_ (xs:List Nat) (v:Nat):nS xs ++ [.int .i64 (v:Int)] = nS (xs ++ [v]):=by simp [nS]
theorem iM {low:List Nat} {i x:Nat} (h:low[i]? = some x):(nS low)[i]? = some (.int .i64 (x:Int)):=by simp [nS,h]
theorem AW (ms:List Bool) (u:Nat) (b:Bool):(bv ms).set u (.bool b) = bv (ms.set u b):=by simp [bv,Xy]
theorem xn {α : Type} {l:List α} {i:Nat} {x:α} (h:l[i]? = some x):l.set i x = l:=by
 obtain ⟨h1,rfl⟩:=Wt.1 h
 exact List.set_getElem_self h1
end
section
variable {α : Type} [Inhabited α] {w:YC} {L:List ay} {enc:α->Value} {blk:Nat} {d:Array α}
theorem uc (w:YC) (off m:Nat) (dk:Array α) (os:Array Obj) (b:Nat) (o:Obj) (h:w.heap[b]? = some o) :
  (sortWorld enc w blk off m dk os).heap[b]? = some (if blk = b then onCells (putCells enc off dk) o else o):=by
 have hb:b < w.heap.size:=(Xg.1 h).1
 unfold sortWorld grow putRow mapBlock Sort.ahead
 simp only
 rw [Array.getElem?_append_left (by simpa using hb),Xr]
 split
 ·rw [h]; rfl
 ·exact h
theorem Ev.sort (w:YC) (off m:Nat) (dk:Array α) (os:Array Obj):Ev w (sortWorld enc w blk off m dk os):=by
 refine ⟨rfl,rfl,rfl,?_,?_,?_⟩
 ·unfold sortWorld grow putRow mapBlock Sort.ahead; simp
 ·intro b x h; rw [uc w off m dk os b _ h]; split <;> rfl
 ·intro b x h; rw [uc w off m dk os b _ h]; split <;> rfl
theorem St.sort {cs:List Value} (h:St w (aK blk cs :: L)) (off m:Nat) (dk:Array α) (os:Array Obj):St (sortWorld enc w blk off m dk os) (aK blk (putCells enc off dk ⟨cs⟩).toList :: L):=by
 obtain ⟨e,h⟩:=jU.1 h
 have hg:=h.get
 have hs:∀ b o,hp w b = some o->b≠blk->hp (sortWorld enc w blk off m dk os) b = some o:=λb o hb hne=>by
  have:=uc (enc:=enc) (blk:=blk) w off m dk os b o (nA hb)
  rw [WB (X2 hne)] at this
  unfold hp; rw [this]
  unfold hp at hb
  rw [nA hb] at hb; exact hb
 have hblk:hp (sortWorld enc w blk off m dk os) blk = some (.cells (putCells enc off dk ⟨cs⟩) e (0,0)):=by
  have:=uc (enc:=enc) (blk:=blk) w off m dk os blk _ hg
  rw [WJ rfl] at this
  unfold hp; rw [this]; rfl
 refine jU.2 ⟨e,?_⟩
 have h1:=mB (h:=hp w) (h':=λk=>if k = blk then some (.cells (putCells enc off dk ⟨cs⟩) e (0,0)) else hp w k) (o':=.cells (putCells enc off dk ⟨cs⟩) e (0,0)) h (λk hk=>by simp [hk]) (by simp)
 refine ft h1 λk o hk=>?_
 split at hk
 ·rename_i e'; subst e'; cases hk; exact hblk
 ·rename_i hne; exact hs k o hk hne
theorem xp (pre post:List Value) (d d' : Array α) (hs:d'.size = d.size):(putCells enc pre.length d' ⟨pre ++ (d.toList.map enc ++ post)⟩).toList = pre ++ (d'.toList.map enc ++ post):=by
 have l1:(d.toList.map enc).length = d.size:=by simp
 have l2:(d'.toList.map enc).length = d.size:=by simp [hs]
 apply Xs
 intro k
 simp only [putCells,Array.toList_mapIdx,List.getElem?_mapIdx]
 by_cases h1:k < pre.length
 ·rw [WI h1,WI h1,Wv h1,Xw,WB (by omega)]
 ·rw [WK (X6 h1),WK (X6 h1)]
  by_cases h2:k - pre.length < d.size
  ·rw [WI (l₁:=d.toList.map enc) (by omega),WI (l₁:=d'.toList.map enc) (by omega),Wv (l:=d.toList.map enc) (by omega),Wv (l:=d'.toList.map enc) (by omega)]
   simp only [Xw]
   rw [WJ ⟨by omega,by omega⟩,getElem!_pos d' _ (by omega)]
   simp
  ·rw [WK (l₁:=d.toList.map enc) (by omega),WK (l₁:=d'.toList.map enc) (by omega),l1,l2]
   cases post[k - pre.length - d.size]? with
   | none=>rfl
   | some v=>rw [Xw,WB (by omega)]
theorem Q0 {a:YB} {l c:Nat} (h:St w (own 1 a l c (d.toList.map enc) :: L)) (hl:0 < l) :
  ∃ b off,a = some ⟨b,off,none⟩/\l = d.size/\Holds enc w b off d/\b < w.heap.size /\
   (∀ (m:Nat) (os:Array Obj) (d' : Array α),d'.size = d.size->St (sortWorld enc w b off m d' os) (own 1 a l c (d'.toList.map enc) :: L)):=by
 rcases dA h with ⟨_,h2,_⟩ | ⟨b,pre,cs,post,rfl,hc,h1,h2,h3⟩
 ·omega
 ·have hsz:l = d.size:=by simp at h1; omega
  refine ⟨b,pre.length,rfl,hsz,?_,?_,?_⟩
  ·intro j hj
   refine ⟨?_,hc.frozen _ _⟩
   rw [hc.cell,WK (by omega),Xq,WI (by simpa using hj),Wx,Wv (by simpa using hj),getElem!_pos d j hj]
   simp
  ·obtain ⟨e,h⟩:=jU.1 hc
   exact (Xg.1 h.get).1
  ·intro m os d' hs
   have h5:=hc.sort (enc:=enc) pre.length m d' os
   rw [xp pre (cs ++ post) d d' hs] at h5
   refine fw h5 ?_ ?_ h3
   ·simp [hs]; omega
   ·simp at h2 ⊢; omega
end
theorem xq {w:YC} {b o:Nat}:∀ (vs:List Value) (i:Nat),jA w ⟨b,0,none⟩ (o + i) vs->jA w ⟨b,o,none⟩ i vs
 | [],i,_=>trivial
 | v :: vs,i,⟨h1,h2,h3,h4⟩=>by
  rw [aL] at h2 h3
  refine ⟨h1,?_,?_,xq vs (i + 1) h4⟩
  ·rw [add_lit]; exact h2
  ·rw [add_lit]; exact h3
theorem xr {b o:Nat}:∀ (vs:List Value) (i:Nat) (w:YC),cd w ⟨b,o,none⟩ i vs = cd w ⟨b,0,none⟩ (o + i) vs
 | [],i,w=>rfl
 | v :: vs,i,w=>by
  simp only [cd]
  rw [add_lit,aL,xr vs (i + 1)]
  rfl
theorem xt {w:YC} {L:List ay} {sz l c i:Nat} {a:YB} {ad:Addr} {us vs:List Value} {k:YC->Prop} (h:St w (own sz a l c us :: L)) (ha:a = some ad) (hi:i + vs.length<=us.length) (h1:∀ v∈vs,aV v = true) (h0:0 < vs.length)
  (hk:∀ w',St w' (own sz a l c (us.take i ++ vs ++ us.drop (i + vs.length)) :: L)->k w'):fL w (ad.add i) vs k:=by
 rcases dA h with ⟨rfl,_,_,_⟩ | ⟨b,pre,cs,post,rfl,hc,e1,e2,e3⟩
 ·cases ha
 ·cases ha
  rw [add_lit]
  have hl:(pre.length + i) + vs.length<=(pre ++ (us ++ (cs ++ post))).length:=by simp only [WA]; omega
  refine ⟨xq vs 0 (vD hc vs _ hl h1),λw' hw=>?_⟩
  subst hw
  rw [xr]
  have h2:=sF vs _ (pre.length + i) hl hc
  refine hk _ ?_
  have e:(pre ++ (us ++ (cs ++ post))).take (pre.length + i) ++ vs ++ (pre ++ (us ++ (cs ++ post))).drop (pre.length + i + vs.length) = pre ++ ((us.take i ++ vs ++ us.drop (i + vs.length)) ++ (cs ++ post)):=by
   rw [List.take_append,WN (by omega),Xq,List.take_append_of_le_length (by omega)]
   rw [show pre.length + i + vs.length = pre.length + (i + vs.length) from by omega,List.drop_append,XG (by omega),Xq,List.drop_append_of_le_length (by omega)]
   simp
  rw [e] at h2
  have el:(us.take i ++ vs ++ us.drop (i + vs.length)).length = us.length:=by simp only [WA,WV,XK]; omega
  refine fw h2 (by rw [el]; exact e1) ?_ e3
  rw [WA,el,<- WA]; exact e2
structure ag where
 prod:Int
 dot:Int
deriving DecidableEq
instance:oP ag:={ n:=2,rd:=λ_ x vs=>vs = [.int .i64 x.prod,.int .i64 x.dot],mono:=λ_ h=>h,len:=λh=>by rw [h]; rfl }
def ag.lt (x y:ag):Prop:=x.prod < y.prod\/x.prod = y.prod/\x.dot < y.dot
instance (x y:ag):Decidable (x.lt y):=inferInstanceAs (Decidable (_\/_))
theorem ag.ext' {x y:ag} (h1:x.prod = y.prod) (h2:x.dot = y.dot):x = y:=by cases x; cases y; cases h1; cases h2; rfl
theorem ag.lt_irrefl (x:ag):¬x.lt x:=by unfold ag.lt; omega
theorem ag.lt_trans {x y z:ag} (h1:x.lt y) (h2:y.lt z):x.lt z:=by unfold ag.lt at *; omega
theorem ag.KV {x y:ag} (h:x≠y):x.lt y\/y.lt x:=by
 unfold ag.lt
 by_cases h1:x.prod = y.prod
 ·have h2:x.dot≠y.dot:=λh2=>h (ag.ext' h1 h2)
  omega
 ·omega
abbrev iz (l:List ag):Prop:=l.Pairwise ag.lt
def sI (x:ag):List ag->List ag
 | []=>[x]
 | y :: l=>if x = y then y :: l else if x.lt y then x :: y :: l else y :: sI x l
def lay (l:List ag):List ag:=l.foldl (λout x=>sI x out) []
theorem sJ {x y:ag}:∀ {l:List ag},y∈sI x l↔y = x\/y∈l
 | []=>by simp [sI]
 | z :: l=>by
  unfold sI
  split
  ·rename_i h; subst h; simp
  ·split
   ·simp
   ·rw [WM,sJ,WM]
    constructor
    ·rintro (h | h | h)
     ·exact .inr (.inl h)
     ·exact .inl h
     ·exact .inr (.inr h)
    ·rintro (h | h | h)
     ·exact .inr (.inl h)
     ·exact .inl h
     ·exact .inr (.inr h)
theorem xu {x:ag}:∀ {l:List ag},iz l->iz (sI x l)
 | [],_=>by simp [sI]
 | z :: l,h=>by
  unfold sI
  have h':=Xu.1 h
  split
  ·exact h
  ·rename_i hne
   split
   ·rename_i hlt
    exact Xu.2 ⟨λy hy=>by
     rcases WM.1 hy with rfl | hy
     ·exact hlt
     ·exact ag.lt_trans hlt (h'.1 y hy),h⟩
   ·rename_i hnl
    refine Xu.2 ⟨λy hy=>?_,xu h'.2⟩
    rcases sJ.1 hy with rfl | hy
    ·exact (ag.KV hne).resolve_left hnl
    ·exact h'.1 y hy
theorem foldI (l:List ag):∀ out,iz out->iz (l.foldl (λout x=>sI x out) out)/\∀ y,y∈l.foldl (λout x=>sI x out) out↔y∈out\/y∈l:=by
 induction l with
 | nil=>exact λout h=>⟨h,λy=>by simp⟩
 | cons x l ih =>
  intro out h
  obtain ⟨h1,h2⟩:=ih _ (xu (x:=x) h)
  refine ⟨h1,λy=>?_⟩
  show y∈l.foldl (λout x=>sI x out) (sI x out)↔_
  rw [h2,sJ,WM]
  constructor
  ·rintro ((h | h) | h)
   ·exact .inr (.inl h)
   ·exact .inl h
   ·exact .inr (.inr h)
  ·rintro (h | h | h)
   ·exact .inl (.inr h)
   ·exact .inl (.inl h)
   ·exact .inr h
theorem fC (l:List ag):iz (lay l):=(foldI l [] .nil).1
theorem eO {l:List ag} {y:ag}:y∈lay l↔y∈l:=by have:=(foldI l [] .nil).2 y; simpa [lay] using this
theorem iz.nodup {l:List ag} (h:iz l):l.Nodup:=Xi.2 (h.imp λh e=>by subst e; exact ag.lt_irrefl _ h)
theorem iz.one {l m:List ag} (h:iz l) (h' : iz m) (he:∀ x,x∈l↔x∈m):l = m:=by
 have p:l.Perm m:=(List.perm_ext_iff_of_nodup h.nodup h'.nodup).2 he
 refine List.Perm.eq_of_pairwise (le:=λx y=>ag.lt x y\/x = y) (λa b _ _ h1 h2=>?_) (h.imp .inl) (h'.imp .inl) p
 rcases h1 with h1 | h1
 ·rcases h2 with h2 | h2
  ·exact absurd (ag.lt_trans h1 h2) (ag.lt_irrefl _)
  ·exact h2.symm
 ·exact h1
theorem nY {l:List ag} (h:iz l):lay l = l:=(fC l).one h λ_=>eO
theorem Jy {l m:List ag} (h:iz m) (he:∀ x,x∈m↔x∈l):lay l = m:=(fC l).one h λx=>by rw [eO,he]
def jZ (g:af) (x:ag):Prop:=0<=x.prod/\0<=x.dot/\∃ p,g.prods[x.prod.toNat]? = some p/\x.dot<=p.right.length
def cO (g:af) (x:ag):Int :=
 match g.prods[x.prod.toNat]? with
 | none=>-1
 | some p=>p.right.getD x.dot.toNat (-1)
theorem jM {g:af} {x:ag} {p:aH} (h:g.prods[x.prod.toNat]? = some p):cO g x = p.right.getD x.dot.toNat (-1):=by unfold cO; rw [h]
inductive nZ (g:af) (I:List ag):ag->Prop
 | base {x:ag}:x∈I->nZ g I x
 | step {y:ag} {i:Nat} {p:aH}:nZ g I y->0<=cO g y->g.prods[i]? = some p->p.left = cO g y->nZ g I ⟨i,0⟩
def Dz (g:af) (l:List ag):List ag:=((List.range g.prods.length).filter λi=>l.any λy=>decide (0<=cO g y) && decide ((g.prods[i]?.map aH.left) = some (cO g y))).map λi:Nat=>⟨(i:Int),0⟩
def Da (g:af) (I:List ag):Nat->List ag
 | 0=>lay I
 | k + 1=>lay (Da g I k ++ Dz g (Da g I k))
def cls (g:af) (I:List ag):List ag:=Da g I g.prods.length
section
variable {g:af} {I l:List ag} {x y:ag} {k:Nat}
theorem B8:x∈Dz g l↔∃ (i:Nat) (p:aH) (y:ag),x = ⟨i,0⟩/\g.prods[i]? = some p/\y∈l/\0<=cO g y/\p.left = cO g y:=by
 unfold Dz
 rw [WS]
 constructor
 ·rintro ⟨i,hi,rfl⟩
  rw [W9,XL] at hi
  obtain ⟨h1,y,hy,h2⟩:=hi
  rw [WL,WH,WH] at h2
  rw [WY] at h1
  refine ⟨i,g.prods[i],y,rfl,Wv h1,hy,h2.1,?_⟩
  have:=h2.2
  rw [Wv h1] at this
  exact Option.some.inj this
 ·rintro ⟨i,p,y,rfl,hp,hy,h1,h2⟩
  refine ⟨i,W9.2 ⟨WY.2 (Wt.1 hp).1,XL.2 ⟨y,hy,?_⟩⟩,rfl⟩
  rw [WL,WH,WH,hp]
  exact ⟨h1,by rw [<- h2]; rfl⟩
theorem Fx:∀ k,iz (Da g I k)
 | 0=>fC _
 | _ + 1=>fC _
theorem sK:x∈Da g I (k + 1)↔x∈Da g I k\/x∈Dz g (Da g I k):=by
 show x∈lay _↔_
 rw [eO,Wy]
theorem yR:∀ k x,x∈Da g I k->nZ g I x
 | 0,x,h=>.base (eO.1 h)
 | k + 1,x,h=>by
  rcases sK.1 h with h | h
  ·exact yR k x h
  ·obtain ⟨i,p,y,rfl,hp,hy,h1,h2⟩:=B8.1 h
   exact .step (yR k y hy) h1 hp h2
theorem Hq:∀ k,∀ x∈I,x∈Da g I k
 | 0,x,h=>eO.2 h
 | k + 1,x,h=>sK.2 (.inl (Hq k x h))
def Jz (g:af) (I:List ag) (k:Nat):List Nat:=(List.range g.prods.length).filter λi=>decide ((⟨i,0⟩ : ag)∈Da g I k)
theorem UL:∀ {l m:List Nat},l.Nodup->(∀ x∈l,x∈m)->l.length<=m.length
 | [],m,_,_=>WC _
 | a :: l,m,h,hs=>by
  obtain ⟨m1,m2,rfl⟩:=Yq (hs a (by simp))
  rw [Xp] at h
  have:=UL (l:=l) (m:=m1 ++ m2) h.2 λx hx=>by
   have h1:=hs x (by simp [hx])
   rw [Wy,WM] at h1
   rw [Wy]
   rcases h1 with h1 | rfl | h1
   ·exact .inl h1
   ·exact absurd hx h.1
   ·exact .inr h1
  simp at this ⊢; omega
theorem Q1 (h:∀ x∈Dz g (Da g I k),x∈Da g I k):Da g I (k + 1) = Da g I k:=(Fx _).one (Fx _) λx=>by
 rw [sK]; exact ⟨λh1=>h1.elim id (h x),.inl⟩
theorem Oa:∀ k,(∀ x∈Dz g (Da g I k),x∈Da g I k)\/k + 1<=(Jz g I (k + 1)).length:=by
 have grow:∀ k,¬(∀ x∈Dz g (Da g I k),x∈Da g I k)->(Jz g I k).length + 1<=(Jz g I (k + 1)).length:=by
  intro k hk
  have ⟨x,hx⟩:=Classical.not_forall.1 hk
  have ⟨h1,h2⟩:=Classical.not_imp.1 hx
  obtain ⟨i,p,y,rfl,hp,_⟩:=B8.1 h1
  have hn:i∉Jz g I k:=λh=>h2 (by have:=(W9.1 h).2; exact Wr this)
  have:=UL (l:=i :: Jz g I k) (m:=Jz g I (k + 1)) (Xp.2 ⟨hn,List.nodup_range.filter _⟩) λz hz=>by
   refine W9.2 ?_
   rcases WM.1 hz with rfl | hz
   ·exact ⟨WY.2 (Wt.1 hp).1,W4 (sK.2 (.inr h1))⟩
   ·obtain ⟨q1,q2⟩:=W9.1 hz
    exact ⟨q1,W4 (sK.2 (.inl (Wr q2)))⟩
  simpa using this
 intro k
 induction k with
 | zero =>
  by_cases h:∀ x∈Dz g (Da g I 0),x∈Da g I 0
  ·exact .inl h
  ·have:=grow 0 h; exact .inr (by omega)
 | succ k ih =>
  by_cases h:∀ x∈Dz g (Da g I (k + 1)),x∈Da g I (k + 1)
  ·exact .inl h
  ·rcases ih with ih | ih
   ·rw [Q1 ih] at h; exact absurd ih h
   ·have:=grow (k + 1) h; exact .inr (by omega)
theorem JA:∀ x∈Dz g (cls g I),x∈cls g I:=by
 rcases Oa (g:=g) (I:=I) g.prods.length with h | h
 ·exact h
 ·have:(Jz g I (g.prods.length + 1)).length<=(List.range g.prods.length).length:=W6 _ _
  rw [XN] at this; omega
theorem iN:x∈cls g I↔nZ g I x:=by
 refine ⟨yR _ x,λh=>?_⟩
 induction h with
 | base h=>exact Hq _ _ h
 | step _ h1 h2 h3 ih=>exact JA _ (B8.2 ⟨_,_,_,rfl,h2,ih,h1,h3⟩)
theorem xv:iz (cls g I):=Fx _
theorem KW {l:List ag} (hs:iz l) (hm:∀ x,x∈l↔nZ g I x):l = cls g I:=hs.one xv λx=>by rw [hm,iN]
def aF (g:af) (I:List ag) (s:Int):List ag:=((cls g I).filter λx=>decide (cO g x = s)).map λx=>⟨x.prod,x.dot + 1⟩
theorem B9 {s:Int}:iz (aF g I s):=by
 unfold aF iz
 rw [Xn]
 refine (xv.filter _).imp λh=>?_
 unfold ag.lt at *
 simp only
 omega
theorem cJ {s:Int}:x∈aF g I s↔∃ y,nZ g I y/\cO g y = s/\x = ⟨y.prod,y.dot + 1⟩:=by
 unfold aF
 rw [WS]
 constructor
 ·rintro ⟨y,hy,rfl⟩
  obtain ⟨h1,h2⟩:=W9.1 hy
  exact ⟨y,iN.1 h1,Wr h2,rfl⟩
 ·rintro ⟨y,h1,h2,rfl⟩
  exact ⟨y,W9.2 ⟨iN.2 h1,W4 h2⟩,rfl⟩
end
structure aP where
 sym:Int
 to:Int
deriving DecidableEq
instance:oP aP:={ n:=2,rd:=λ_ x vs=>vs = [.int .i64 x.sym,.int .i64 x.to],mono:=λ_ h=>h,len:=λh=>by rw [h]; rfl }
abbrev cg:=List ag
def ql (st:List cg) (k:cg):List cg:=if k∈st then st else st ++ [k]
def bD (g:af) (K:cg):List Nat:=(List.range (g.T + g.N)).filter λs=>decide (aF g K s≠[])
def kK (g:af) (K:cg) (l:List Nat) (acc:List cg × List aP):List cg × List aP :=
 l.foldl (λ(acc:List cg × List aP) (s:Nat)=>(ql acc.1 (aF g K (s:Int)),acc.2 ++ [⟨(s:Int),(acc.1.idxOf (aF g K (s:Int)):Int)⟩])) acc
def b_ (g:af):Nat->List cg × List (List aP)
 | 0=>([[⟨0,0⟩]],[])
 | i + 1=>match (b_ g i).1[i]? with
  | none=>b_ g i
  | some K=>((kK g K (bD g K) ((b_ g i).1,[])).1,(b_ g i).2 ++ [(kK g K (bD g K) ((b_ g i).1,[])).2])
structure B_ (g:af) (st:List cg):Prop where
 nd:st.Nodup
 ne:∀ K∈st,K≠[]
 PC:∀ K∈st,iz K
 fit:∀ K∈st,∀ x∈K,jZ g x
 dots:∀ (j:Nat) (K:cg),st[j]? = some K->∀ x∈K,x.dot<=j
section
variable {g:af} {I K k:cg} {st:List cg} {i j s:Nat} {x y:ag} {acc:List cg × List aP}
theorem nZ.fit (h:nZ g I x) (hI:∀ x∈I,jZ g x):jZ g x:=by
 induction h with
 | base h=>exact hI _ h
 | @step y i p _ _ hp _ _=>exact ⟨W7 _,Int.le_refl _,p,by simpa using hp,by simp⟩
theorem nZ.dot {d:Int} (h:nZ g I x) (hI:∀ x∈I,x.dot<=d) (hd:0<=d):x.dot<=d:=by
 induction h with
 | base h=>exact hI _ h
 | step _ _ _ _ _=>exact hd
theorem Ca {s:Int} (h:jZ g x) (ha:cO g x = s) (hs:0<=s):∃ p,g.prods[x.prod.toNat]? = some p/\x.dot < p.right.length/\p.right[x.dot.toNat]? = some s:=by
 obtain ⟨_,h1,p,hp,h2⟩:=h
 rw [jM hp,Ww] at ha
 cases hg:p.right[x.dot.toNat]? with
 | none=>rw [hg] at ha; simp at ha; omega
 | some v =>
  rw [hg] at ha; simp at ha; subst ha
  have:=(Wt.1 hg).1
  exact ⟨p,hp,by omega,hg⟩
theorem Cb {s:Int} (hI:∀ x∈I,jZ g x) (hs:0<=s):∀ x∈aF g I s,jZ g x:=λx hx=>by
 obtain ⟨y,h1,h2,rfl⟩:=cJ.1 hx
 have hy:=h1.fit hI
 obtain ⟨p,hp,h3,_⟩:=Ca hy h2 hs
 exact ⟨hy.1,by have:=hy.2.1; show 0<=y.dot + 1; omega,p,hp,by show y.dot + 1<=_; omega⟩
theorem Fy:K∈ql st k↔K∈st\/K = k:=by
 unfold ql; split
 ·rename_i h; exact ⟨.inl,λh'=>h'.elim id λe=>e ▸ h⟩
 ·simp
theorem KX (h:st[i]? = some K):(ql st k)[i]? = some K:=by
 unfold ql; split
 ·exact h
 ·rw [WI (Wt.1 h).1]; exact h
theorem B_.start (hp:0 < g.prods.length):B_ g [[⟨0,0⟩]]:=by
 refine ⟨by simp,by simp,by simp,λK hK x hx=>?_,λj K hj x hx=>?_⟩
 ·simp at hK; subst hK; simp at hx; subst hx
  exact ⟨Int.le_refl _,Int.le_refl _,g.prods[0],Wv hp,by simp⟩
 ·cases j with
  | zero=>simp at hj; subst hj; simp at hx; subst hx; simp
  | succ j=>simp at hj
theorem B_.put (h:B_ g st) (hK:st[i]? = some K) (hs:aF g K (s:Int)≠[]):B_ g (ql st (aF g K (s:Int))):=by
 have hm:=Wu hK
 have hil:=(Wt.1 hK).1
 refine ⟨?_,λL hL=>?_,λL hL=>?_,λL hL=>?_,λj L hL x hx=>?_⟩
 ·unfold ql; split
  ·exact h.nd
  ·rename_i hn
   rw [Xb]
   exact ⟨h.nd,by simp,λa ha b hb e=>by simp at hb; subst hb; subst e; exact hn ha⟩
 ·rcases Fy.1 hL with hL | rfl
  ·exact h.ne L hL
  ·exact hs
 ·rcases Fy.1 hL with hL | rfl
  ·exact h.PC L hL
  ·exact B9
 ·rcases Fy.1 hL with hL | rfl
  ·exact h.fit L hL
  ·exact Cb (h.fit K hm) (W7 _)
 ·unfold ql at hL
  split at hL
  ·exact h.dots j L hL x hx
  ·by_cases e:j < st.length
   ·rw [WI e] at hL
    exact h.dots j L hL x hx
   ·have hl:=(Wt.1 hL).1
    rw [WA,Yr] at hl
    have e2:j = st.length:=by omega
    subst e2
    rw [WK (WO _),Xz] at hL
    simp at hL; subst hL
    obtain ⟨y,h1,_,rfl⟩:=cJ.1 hx
    have:=h1.dot (h.dots i K hK) (W7 _)
    show y.dot + 1<=_
    omega
theorem xw {l:List Nat}:kK g K (l ++ [s]) acc = (ql (kK g K l acc).1 (aF g K s),(kK g K l acc).2 ++ [⟨s,(kK g K l acc).1.idxOf (aF g K s)⟩]):=by
 unfold kK; rw [List.foldl_append]; rfl
theorem Hr {l:List Nat} (h:l[j]? = some s):kK g K (l.take (j + 1)) acc = (ql (kK g K (l.take j) acc).1 (aF g K s),(kK g K (l.take j) acc).2 ++ [⟨s,(kK g K (l.take j) acc).1.idxOf (aF g K s)⟩]):=by
 rw [Wz,h,XC,xw]
theorem Q2 (h:B_ g st) (hK:st[i]? = some K):∀ (l:List Nat),(∀ s∈l,aF g K (s:Int)≠[])->∀ es,B_ g (kK g K l (st,es)).1/\(kK g K l (st,es)).1[i]? = some K:=by
 have key:∀ (l:List Nat),(∀ s∈l,aF g K (s:Int)≠[])->∀ st es,B_ g st->st[i]? = some K->B_ g (kK g K l (st,es)).1/\(kK g K l (st,es)).1[i]? = some K:=by
  intro l
  induction l with
  | nil=>exact λ_ st es h hK=>⟨h,hK⟩
  | cons s l ih =>
   intro hl st es h hK
   exact ih (λz hz=>hl z (by simp [hz])) _ _ (h.put hK (hl s (by simp))) (KX hK)
 exact λl hl es=>key l hl st es h hK
theorem sM:∀ (l:List Nat) (st:List cg) (es:List aP) (j:Nat) (L:cg),st[j]? = some L->(kK g K l (st,es)).1[j]? = some L
 | [],_,_,_,_,h=>h
 | s :: l,st,es,j,L,h=>sM l _ _ j L (KX h)
theorem Hs {st st' : List cg} (h:∀ (j:Nat) (L:cg),st[j]? = some L->st'[j]? = some L):st.length<=st'.length:=by
 refine Xv λhc=>?_
 have:=h st'.length _ (Wv (by omega))
 rw [WR (WO _)] at this
 cases this
theorem ud:∀ s∈bD g K,aF g K (s:Int)≠[]:=λs hs=>Wr (W9.1 hs).2
theorem d_ (h:(b_ g i).1[i]? = some K):b_ g (i + 1) = ((kK g K (bD g K) ((b_ g i).1,[])).1,(b_ g i).2 ++ [(kK g K (bD g K) ((b_ g i).1,[])).2]):=by
 show (match (b_ g i).1[i]? with | none=>_ | some K=>_) = _
 rw [h]
theorem n_ (h:(b_ g i).1[i]? = none):b_ g (i + 1) = b_ g i:=by
 show (match (b_ g i).1[i]? with | none=>_ | some K=>_) = _
 rw [h]
theorem di (hp:0 < g.prods.length):∀ i,B_ g (b_ g i).1
 | 0=>B_.start hp
 | i + 1=>by
  cases h:(b_ g i).1[i]? with
  | none=>rw [n_ h]; exact di hp i
  | some K=>rw [d_ h]; exact (Q2 (di hp i) h _ ud _).1
theorem Mh (i j:Nat) (L:cg) (h:(b_ g i).1[j]? = some L):(b_ g (i + 1)).1[j]? = some L:=by
 cases hi:(b_ g i).1[i]? with
 | none=>rw [n_ hi]; exact h
 | some K=>rw [d_ hi]; exact sM _ _ _ _ _ h
theorem xx {i i' : Nat} (hi:i<=i') (j:Nat) (L:cg) (h:(b_ g i).1[j]? = some L):(b_ g i').1[j]? = some L:=by
 induction hi with
 | refl=>exact h
 | step _ ih=>exact Mh _ _ _ ih
theorem Fz:∀ i,i<=(b_ g i).1.length->(b_ g i).2.length = i
 | 0,_=>rfl
 | i + 1,h=>by
  cases hi:(b_ g i).1[i]? with
  | none =>
   rw [n_ hi] at h
   rw [List.getElem?_eq_none_iff] at hi
   omega
  | some K =>
   have:=Fz i (by have:=(Wt.1 hi).1; omega)
   rw [d_ hi]; simp [this]
def Ht (g:af) (n:Nat):Prop:=(b_ g n).1.length = n/\n<=256/\∀ i,i < n->i < (b_ g i).1.length
def Q3 (g:af):Prop:=∃ i K k,(b_ g i).1[i]? = some K/\(∀ j,j<=i->j < (b_ g j).1.length)/\256 < (kK g K ((bD g K).take k) ((b_ g i).1,[])).1.length
theorem Hu {n m:Nat} (h:Ht g n) (h' : Ht g m):n = m:=by
 rcases Nat.lt_trichotomy n m with e | e | e
 ·have:=h'.2.2 n e; have:=h.1; omega
 ·exact e
 ·have:=h.2.2 m e; have:=h'.1; omega
theorem Ob (l:List Nat) (k:Nat) (es:List aP):(kK g K (l.take k) (st,es)).1.length<=(kK g K l (st,es)).1.length:=by
 have e:kK g K l (st,es) = kK g K (l.drop k) (kK g K (l.take k) (st,es)):=by
  unfold kK; rw [<- List.foldl_append,WX]
 rw [e]
 exact Hs λj L h=>sM _ _ _ _ _ h
theorem Cc {n:Nat} (h:Ht g n) (h' : Q3 g):False:=by
 obtain ⟨i,K,k,hK,hj,hb⟩:=h'
 have hin:i < n:=by
  refine Xv λhc=>?_
  have:=hj n (by omega)
  have:=h.1; omega
 have h1:=Ob (g:=g) (K:=K) (st:=(b_ g i).1) (bD g K) k []
 have h2:(b_ g (i + 1)).1.length<=(b_ g n).1.length:=Hs λj L hL=>xx (by omega) j L hL
 rw [d_ hK] at h2
 have:=h.1
 have:=h.2.1
 simp only at h2
 omega
end
end Go.V
namespace Go.Proofs.YtndaepmjkbmjmaaGreatDoor
abbrev zW:FuncId:=26
def DA:bg:={ rngs:=[],loops:=[(7,[(6,(.one (.int .i64)))]),(12,[(8,(.one .slice))]),(18,[(10,(.one .slice)),(61,(.one (.int .i64)))])],joins:=[],blocks:=[] }
theorem DB {a:YB} {b c:Nat} {d:YB} {e f:Nat} {g:YB} {i j:Nat} {k:Int} {l:YB} {m n:Nat} {w:YC} {R:Value->WP} (h:new w (oC [vS a b c,vS d e f,vS g i j,iI k,vS l m n] 27) λk1 w1=>new w1 (oC [vS none 0 0,iI 0,iI 0] 45) λk2 w2=>∃ o1 k3 k4 o2 k5 k6 o3 k7 k8 n1 o4 k9 k10,rA w2 (aM k1) 5 [vS o1 k3 k4,vS o2 k5 k6,vS o3 k7 k8,iI n1,vS o4 k9 k10]/\rE 49 [vG [vS o1 k3 k4,vS o2 k5 k6,vS o3 k7 k8,iI n1,vS o4 k9 k10]] w2 λv1 w3=>∃ b1,v1 = vB b1/\br (!b1) (fL w3 (aM k2) [vS none 0 0,iI 0,iI 0] λw4=>∃ o5 k11 k12 n2 n3,rA w4 (aM k2) 3 [vS o5 k11 k12,iI n2,iI n3]/\R (vU [vG [vS o5 k11 k12,iI n2,iI n3],iI 1]) w4) (∃ o6 k13 k14 o7 k15 k16 o8 k17 k18 n4 o9 k19 k20,rA w3 (aM k1) 5 [vS o6 k13 k14,vS o7 k15 k16,vS o8 k17 k18,iI n4,vS o9 k19 k20]/\rE 50 [vG [vS o6 k13 k14,vS o7 k15 k16,vS o8 k17 k18,iI n4,vS o9 k19 k20]] w3 λv2 w5=>∃ o10,v2 = vP o10/\new w5 (Obj.map (Array.mk []) 0) λk21 w6=>new w6 (oC [vS none 0 0,iI 0,iI 0,Value.map (some k21)] 101) λk22 w7=>new w7 (oC [iI 0,iI 0] 104) λk23 w8=>rE 51 [vP (some (aM k22)),vS (some (aM k23)) 1 1] w8 λv3 w9=>∃ n5,v3 = iI n5/\∃ (x1:lP [(6,aD)]),∃ (x2:lN [(6,aD)]),x1 0 w9/\∀ (I1:Nat->Value) (n6:Int) (w10:YC),x1 n6 w10->∃ o11 k24 k25,cL w10 (aM k22) (vS o11 k24 k25)/\br (decide (n6 < (k24:Int))) (∃ o12 k26 k27,cL w10 (aM k22) (vS o12 k26 k27)/\idx o12 k26 n6 2 λa1=>∃ o13 k28 k29,cL w10 a1 (vS o13 k28 k29)/\rE 52 [vP o10,vS o13 k28 k29] w10 λv4 w11=>∃ o14,v4 = Value.map o14/\aX Proofs.Tryz.prog (Instr.range 105 (Value.map o14)) w11 λv5 w12=>∃ o15,v5 = vP o15/\∃ (x3:lP [(8,fX)]),∃ (x4:lN [(8,fX)]),x3 none 0 0 w12/\∀ (I2:Nat->Value) (o16:YB) (k30 k31:Nat) (w13:YC),x3 o16 k30 k31 w13->aX Proofs.Tryz.prog (Instr.next (vP o15) false 0) w13 λv6 w14=>(v6 = vU [vB false]/\rE 53 [vS o16 k30 k31] w14 λv7 w15=>v7 = vU []/\∃ (x5:lP [(10,fX),(61,aD)]),∃ (x6:lN [(10,fX),(61,aD)]),x5 none 0 0 0 w15/\∀ (I3:Nat->Value) (o17:YB) (k32 k33:Nat) (n7:Int) (w16:YC),x5 o17 k32 k33 n7 w16->br (decide (n7 < (k30:Int))) (idx o16 k30 n7 1 λa2=>∃ n8,cL w16 a2 (iI n8)/\aX Proofs.Tryz.prog (Instr.lookup 105 (Value.map o14) (iI n8) false) w16 λv8 w17=>∃ o18 k34 k35,v8 = vS o18 k34 k35/\rE 54 [vS o18 k34 k35] w17 λv9 w18=>∃ o19 k36 k37,v9 = vS o19 k36 k37/\rE 51 [vP (some (aM k22)),vS o19 k36 k37] w18 λv10 w19=>∃ n9,v10 = iI n9/\new w19 (oC [iI n8,iI n9] 56) λk38 w20=>rS (ir 52 (Array.mk [vS o17 k32 k33,vS (some (aM k38)) 1 1])) w20 λv11 w21=>∃ o20 k39 k40,v11 = vS o20 k39 k40/\∃ o21 k41 k42,cL w21 (aM k22) (vS o21 k41 k42)/\br (decide (256 < (k41:Int))) (fL w21 (aM k2) [vS none 0 0,iI 0,iI 0] λw22=>∃ o22 k43 k44 n10 n11,rA w22 (aM k2) 3 [vS o22 k43 k44,iI n10,iI n11]/\R (vU [vG [vS o22 k43 k44,iI n10,iI n11],iI 11]) w22) (ax (n7 + 1)/\x5 o20 k39 k40 (n7 + 1) w21/\x6 o20 k39 k40 (n7 + 1) w21 < x6 o17 k32 k33 n7 w16)) (∀ w23,drawn w16 w23->∃ (I4:WP),I4 w23/\∃ o23 k45 k46,(∀ w24,I4 w24->cL w24 (aM k22) (vS o23 k45 k46))/\rE 55 [vS o17 k32 k33] w23 λv12 w25=>∃ o24 k47 k48,v12 = vS o24 k47 k48/\I4 w25/\idx o23 k45 n6 2 λa3=>st1 w25 (Addr.add a3 1) (vS o24 k47 k48) λw26=>ax (n6 + 1)/\x1 (n6 + 1) w26/\x2 (n6 + 1) w26 < x2 n6 w10))\/∃ n12 v13,v6 = vU [vB true,iI n12,v13]/\aX Proofs.Tryz.prog (Instr.entry (vP o15)) w14 λv14 w27=>∃ n13 v15,v14 = vU [iI n13,v15]/\new w27 (oC [iI n13] 3) λk49 w28=>rS (ir 24 (Array.mk [vS o16 k30 k31,vS (some (aM k49)) 1 1])) w28 λv16 w29=>∃ o25 k50 k51,v16 = vS o25 k50 k51/\x3 o25 k50 k51 w29/\x4 o25 k50 k51 w29 < x4 o16 k30 k31 w13) (∃ o26 k52 k53,cL w10 (aM k22) (vS o26 k52 k53)/\rE 56 [vS o26 k52 k53] w10 λv17 w30=>∃ o27 k54 k55,v17 = vS o27 k54 k55/\st1 w30 (aM k22) (vS o27 k54 k55) λw31=>∃ o28 k56 k57 n14 n15,rA w31 (aM k22) 3 [vS o28 k56 k57,iI n14,iI n15]/\fL w31 (aM k2) [vS o28 k56 k57,iI n14,iI n15] λw32=>∃ o29 k58 k59 n16 n17,rA w32 (aM k2) 3 [vS o29 k58 k59,iI n16,iI n17]/\R (vU [vG [vS o29 k58 k59,iI n16,iI n17],iI 0]) w32))):aA Tryz.prog 26 [(.agg #[(.slice a b c),(.slice d e f),(.slice g i j),(.int .i64 k),(.slice l m n)])] w R:=rv Tryz.func26 DA (by kernel_rfl) h
abbrev Oc:FuncId:=50
def JB:bg:={ rngs:=[],loops:=[(3,[(13,(.one (.int .i64)))])],joins:=[],blocks:=[] }
theorem JC {a:YB} {b c:Nat} {d:YB} {e f:Nat} {g:YB} {i j:Nat} {k:Int} {l:YB} {m n:Nat} {w:YC} {R:Value->WP} (h:new w (oC [vS a b c,vS d e f,vS g i j,iI k,vS l m n] 27) λk1 w1=>∃ o1 k2 k3 o2 k4 k5 o3 k6 k7 n1 o4 k8 k9,rA w1 (aM k1) 5 [vS o1 k2 k3,vS o2 k4 k5,vS o3 k6 k7,iI n1,vS o4 k8 k9]/\new w1 (Obj.map (Array.mk []) 0) λk10 w2=>new w2 (oC [vS o1 k2 k3,vS o2 k4 k5,vS o3 k6 k7,iI n1,vS o4 k8 k9,Value.map (some k10)] 162) λk11 w3=>∃ o5 k12 k13,cL w3 (Addr.add (aM k1) 4) (vS o5 k12 k13)/\∃ (x1:lP [(13,aD)]),∃ (x2:lN [(13,aD)]),x1 0 w3/\∀ (I1:Nat->Value) (n2:Int) (w4:YC),x1 n2 w4->br (decide (n2 < (k12:Int))) (idx o5 k12 n2 3 λa1=>∃ n3 o6 k14 k15 n4,rA w4 a1 3 [iI n3,vS o6 k14 k15,iI n4]/\new w4 (oC [iI 0,vS none 0 0,iI 0] 81) λk16 w5=>fL w5 (aM k16) [iI n3,vS o6 k14 k15,iI n4] λw6=>∀ w7,drawn w6 w7->∃ (I2:WP),I2 w7/\∃ o7,(∀ w8,I2 w8->cL w8 (Addr.add (aM k11) 5) (Value.map o7))/\∃ n5,(∀ w9,I2 w9->cL w9 (aM k16) (iI n5))/\∃ o8,(∀ w10,I2 w10->cL w10 (Addr.add (aM k11) 5) (Value.map o8))/\∃ n6,(∀ w11,I2 w11->cL w11 (aM k16) (iI n6))/\(aX Proofs.Tryz.prog (Instr.lookup 160 (Value.map o8) (iI n6) false) w7 λv1 w12=>∃ o9 k17 k18,v1 = vS o9 k17 k18/\I2 w12/\new w12 (oC [iI n2] 3) λk19 w13=>I2 w13/\rS (ir 24 (Array.mk [vS o9 k17 k18,vS (some (aM k19)) 1 1])) w13 λv2 w14=>∃ o10 k20 k21,v2 = vS o10 k20 k21/\I2 w14/\aX Proofs.Tryz.prog (Instr.mapUpdate 160 (Value.map o7) (iI n5) (vS o10 k20 k21)) w14 λ(x3:Unit) (w15:YC)=>ax (n2 + 1)/\x1 (n2 + 1) w15/\x2 (n2 + 1) w15 < x2 n2 w4)/\new w7 (oC [iI n2] 3) λk22 w16=>I2 w16/\aX Proofs.Tryz.prog (Instr.lookup 160 (Value.map o8) (iI n6) false) w16 λv3 w17=>∃ o11 k23 k24,v3 = vS o11 k23 k24/\I2 w17/\rS (ir 24 (Array.mk [vS o11 k23 k24,vS (some (aM k22)) 1 1])) w17 λv4 w18=>∃ o12 k25 k26,v4 = vS o12 k25 k26/\I2 w18/\aX Proofs.Tryz.prog (Instr.mapUpdate 160 (Value.map o7) (iI n5) (vS o12 k25 k26)) w18 λ(x4:Unit) (w19:YC)=>ax (n2 + 1)/\x1 (n2 + 1) w19/\x2 (n2 + 1) w19 < x2 n2 w4) (R (vP (some (aM k11))) w4)):aA Tryz.prog 50 [(.agg #[(.slice a b c),(.slice d e f),(.slice g i j),(.int .i64 k),(.slice l m n)])] w R:=rv Tryz.func50 JB (by kernel_rfl) h
abbrev vF:FuncId:=51
def sO:bg:={ rngs:=[],loops:=[],joins:=[(5,[])],blocks:=[] }
theorem sQ {a b:YB} {c d:Nat} {w:YC} {R:Value->WP} (h:nn a λa1=>∃ n1,cL w (Addr.add a1 1) (iI n1)/\ax (n1 + 1)/\nn a λa2=>st1 w (Addr.add a2 1) (iI (n1 + 1)) λw1=>rE 91 [vS b c d] w1 λv1 w2=>∃ s1,v1 = Value.string s1/\∃ (x1:lP []),(∀ w3,drawn w2 w3->∃ (I1:WP),I1 w3/\nn a λa3=>∃ o1,(∀ w4,I1 w4->cL w4 (Addr.add a3 3) (Value.map o1))/\aX Proofs.Tryz.prog (Instr.lookup 99 (Value.map o1) (Value.string s1) false) w3 λv2 w5=>∃ n2,v2 = iI n2/\∃ (I2:WP),I2 w5/\(∀ w6,I2 w6->I1 w6)/\br (decide (0 < n2)) (nn a λa4=>∃ o2 k1 k2,(∀ w7,I2 w7->cL w7 a4 (vS o2 k1 k2))/\nn a λa5=>∃ o3,(∀ w8,I2 w8->cL w8 (Addr.add a5 3) (Value.map o3))/\idx b c 0 2 λa6=>∃ n3 n4,(∀ w9,I2 w9->rA w9 a6 2 [iI n3,iI n4])/\aX Proofs.Tryz.prog (Instr.lookup 99 (Value.map o3) (Value.string s1) false) w5 λv3 w10=>∃ n5,v3 = iI n5/\∃ (I3:WP),I3 w10/\(∀ w11,I3 w11->I2 w11)/\ax (n5 - 1)/\idx o2 k1 (n5 - 1) 2 λa7=>∃ o4 k3 k4,(∀ w12,I3 w12->cL w12 a7 (vS o4 k3 k4))/\idx o4 k3 0 2 λa8=>∃ n6 n7,(∀ w13,I3 w13->rA w13 a8 2 [iI n6,iI n7])/\∃ v4,(∀ w14,I3 w14->Sem.run Proofs.Tryz.prog (iB BinOp.eql 104 (Operand.tmp 41) (Operand.tmp 44) (vG [iI n6,iI n7]) (vG [iI n3,iI n4])) w14 = Result.ok v4 w14)/\∃ b1,v4 = vB b1/\br b1 (nn a λa9=>∃ o5,cL w10 (Addr.add a9 3) (Value.map o5)/\aX Proofs.Tryz.prog (Instr.lookup 99 (Value.map o5) (Value.string s1) false) w10 λv5 w15=>∃ n8,v5 = iI n8/\ax (n8 - 1)/\R (iI (n8 - 1)) w15) (x1 w10)) (x1 w5))/\∀ (I4:Nat->Value) (w16:YC),x1 w16->nn a λa10=>∃ n9,cL w16 (Addr.add a10 2) (iI n9)/\ax (n9 + 1)/\nn a λa11=>st1 w16 (Addr.add a11 2) (iI (n9 + 1)) λw17=>nn a λa12=>∃ o6 k5 k6,cL w17 a12 (vS o6 k5 k6)/\new w17 (oC [vS b c d,vS none 0 0] 54) λk7 w18=>rS (ir 43 (Array.mk [vS o6 k5 k6,vS (some (aM k7)) 1 1])) w18 λv6 w19=>∃ o7 k8 k9,v6 = vS o7 k8 k9/\nn a λa13=>st1 w19 a13 (vS o7 k8 k9) λw20=>∀ w21,drawn w20 w21->∃ (I5:WP),I5 w21/\nn a λa14=>∃ o8,(∀ w22,I5 w22->cL w22 (Addr.add a14 3) (Value.map o8))/\nn a λa15=>∃ o9 k10 k11,(∀ w23,I5 w23->cL w23 a15 (vS o9 k10 k11))/\aX Proofs.Tryz.prog (Instr.mapUpdate 99 (Value.map o8) (Value.string s1) (iI (k10:Int))) w21 λ(x2:Unit) (w24:YC)=>nn a λa16=>∃ o10,cL w24 (Addr.add a16 3) (Value.map o10)/\aX Proofs.Tryz.prog (Instr.lookup 99 (Value.map o10) (Value.string s1) false) w24 λv7 w25=>∃ n10,v7 = iI n10/\ax (n10 - 1)/\R (iI (n10 - 1)) w25):aA Tryz.prog 51 [(.pointer a),(.slice b c d)] w R:=rv Tryz.func51 sO (by kernel_rfl) h
abbrev uE:FuncId:=52
def qI:bg:={ rngs:=[],loops:=[(3,[(14,(.one (.int .i64)))])],joins:=[],blocks:=[] }
theorem qJ {a b:YB} {c d:Nat} {w:YC} {R:Value->WP} (h:new w (Obj.map (Array.mk []) 0) λk1 w1=>rE 92 [vP a,vS b c d] w1 λv1 w2=>∃ o1 k2 k3,v1 = vS o1 k2 k3/\∃ (x1:lP [(14,aD)]),∃ (x2:lN [(14,aD)]),x1 0 w2/\∀ (I1:Nat->Value) (n1:Int) (w3:YC),x1 n1 w3->br (decide (n1 < (k2:Int))) (idx o1 k2 n1 2 λa1=>∃ n2 n3,rA w3 a1 2 [iI n2,iI n3]/\new w3 (oC [iI 0,iI 0] 104) λk4 w4=>fL w4 (aM k4) [iI n2,iI n3] λw5=>∃ n4 n5,rA w5 (aM k4) 2 [iI n4,iI n5]/\rE 93 [vP a,vG [iI n4,iI n5]] w5 λv2 w6=>∃ n6,v2 = iI n6/\br (decide (0<=n6)) (aX Proofs.Tryz.prog (Instr.lookup 105 (Value.map (some k1)) (iI n6) false) w6 λv3 w7=>∃ o2 k5 k6,v3 = vS o2 k5 k6/\∃ n7,cL w7 (aM k4) (iI n7)/\∃ n8,cL w7 (Addr.add (aM k4) 1) (iI n8)/\ax (n8 + 1)/\new w7 (oC [iI n7,iI (n8 + 1)] 104) λk7 w8=>rS (ir 51 (Array.mk [vS o2 k5 k6,vS (some (aM k7)) 1 1])) w8 λv4 w9=>∃ o3 k8 k9,v4 = vS o3 k8 k9/\aX Proofs.Tryz.prog (Instr.mapUpdate 105 (Value.map (some k1)) (iI n6) (vS o3 k8 k9)) w9 λ(x3:Unit) (w10:YC)=>ax (n1 + 1)/\x1 (n1 + 1) w10/\x2 (n1 + 1) w10 < x2 n1 w3) (ax (n1 + 1)/\x1 (n1 + 1) w6/\x2 (n1 + 1) w6 < x2 n1 w3)) (R (Value.map (some k1)) w3)):aA Tryz.prog 52 [(.pointer a),(.slice b c d)] w R:=rv Tryz.func52 qI (by kernel_rfl) h
abbrev JD:FuncId:=54
def FA:bg:={ rngs:=[],loops:=[],joins:=[],blocks:=[] }
theorem FB {a:YB} {b c:Nat} {w:YC} {R:Value->WP} (h:rE 96 [vS a b c,Value.func (Fn.func 97) (Array.mk []) (Array.mk [])] w λv1 w1=>v1 = vU []/\rE 101 [vS a b c] w1 λv2 w2=>∃ o1 k1 k2,v2 = vS o1 k1 k2/\rE 100 [vS o1 k1 k2] w2 λv3 w3=>∃ o2 k3 k4,v3 = vS o2 k3 k4/\R (vS o2 k3 k4) w3):aA Tryz.prog 54 [(.slice a b c)] w R:=rv Tryz.func54 FA (by kernel_rfl) h
def gO:bg:={ rngs:=[],loops:=[],joins:=[],blocks:=[] }
theorem gP {a:YB} {b c:Nat} {w:YC} {R:Value->WP} (h:uw a b c none (some (b:Int)) (some (b:Int)) 2 λ(o1:YB) (k1 k2:Nat)=>R (vS o1 k1 k2) w):aA Tryz.prog 55 [(.slice a b c)] w R:=rv Tryz.func55 gO (by kernel_rfl) h
def fQ:bg:={ rngs:=[],loops:=[],joins:=[],blocks:=[] }
theorem fR {a:YB} {b c:Nat} {w:YC} {R:Value->WP} (h:uw a b c none (some (b:Int)) (some (b:Int)) 2 λ(o1:YB) (k1 k2:Nat)=>R (vS o1 k1 k2) w):aA Tryz.prog 56 [(.slice a b c)] w R:=rv Tryz.func56 fQ (by kernel_rfl) h
abbrev Mi:FuncId:=91
def Hv:bg:={ rngs:=[],loops:=[(3,[(3,(.one .slice)),(8,(.one (.int .i64)))])],joins:=[],blocks:=[] }
theorem Hw {a:YB} {b c:Nat} {w:YC} {R:Value->WP} (h:∃ (x1:lP [(3,fX),(8,aD)]),∃ (x2:lN [(3,fX),(8,aD)]),x1 none 0 0 0 w/\∀ (I1:Nat->Value) (o1:YB) (k1 k2:Nat) (n1:Int) (w1:YC),x1 o1 k1 k2 n1 w1->br (decide (n1 < (b:Int))) (idx a b n1 2 λa1=>∃ n2 n3,rA w1 a1 2 [iI n2,iI n3]/\new w1 (oC [iI 0,iI 0] 104) λk3 w2=>fL w2 (aM k3) [iI n2,iI n3] λw3=>∃ n4,cL w3 (aM k3) (iI n4)/\∃ n5,cL w3 (Addr.add (aM k3) 1) (iI n5)/\∃ n6,cL w3 (Addr.add (aM k3) 1) (iI n6)/\ns 8/\new w3 (oC [Value.int IntKind.u8 (IntKind.wrap IntKind.u8 n4),Value.int IntKind.u8 (IntKind.wrap IntKind.u8 n5),Value.int IntKind.u8 (IntKind.wrap IntKind.u8 (bH IntKind.i64 n6 8))] 5) λk4 w4=>rS (ir 201 (Array.mk [vS o1 k1 k2,vS (some (aM k4)) 3 3])) w4 λv1 w5=>∃ o2 k5 k6,v1 = vS o2 k5 k6/\ax (n1 + 1)/\x1 o2 k5 k6 (n1 + 1) w5/\x2 o2 k5 k6 (n1 + 1) w5 < x2 o1 k1 k2 n1 w1) (aX Proofs.Tryz.prog (convert 201 9 (vS o1 k1 k2)) w1 λv2 w6=>∃ s1,v2 = Value.string s1/\R (Value.string s1) w6)):aA Tryz.prog 91 [(.slice a b c)] w R:=rv Tryz.func91 Hv (by kernel_rfl) h
abbrev uF:FuncId:=92
def qK:bg:={ rngs:=[],loops:=[(4,[(5,(.one .slice)),(7,(.one (.int .i64)))]),(10,[(5,(.one .slice)),(45,(.one (.int .i64)))])],joins:=[],blocks:=[] }
theorem qL {a b:YB} {c d:Nat} {w:YC} {R:Value->WP} (h:rE 144 [vS b c d] w λv1 w1=>∃ o1 k1 k2,v1 = vS o1 k1 k2/\new w1 (Obj.map (Array.mk []) 0) λk3 w2=>∃ (x1:lP [(5,fX),(7,aD)]),∃ (x2:lN [(5,fX),(7,aD)]),x1 o1 k1 k2 0 w2/\∀ (I1:Nat->Value) (o2:YB) (k4 k5:Nat) (n1:Int) (w3:YC),x1 o2 k4 k5 n1 w3->br (decide (n1 < (k4:Int))) (idx o2 k4 n1 2 λa1=>∃ n2 n3,rA w3 a1 2 [iI n2,iI n3]/\rE 93 [vP a,vG [iI n2,iI n3]] w3 λv2 w4=>∃ n4,v2 = iI n4/\br (decide (n4 < 0)) (ax (n1 + 1)/\x1 o2 k4 k5 (n1 + 1) w4/\x2 o2 k4 k5 (n1 + 1) w4 < x2 o2 k4 k5 n1 w3) (aX Proofs.Tryz.prog (Instr.lookup 226 (Value.map (some k3)) (iI n4) false) w4 λv3 w5=>∃ n5,v3 = iI n5/\br (decide (0 < n5)) (ax (n1 + 1)/\x1 o2 k4 k5 (n1 + 1) w5/\x2 o2 k4 k5 (n1 + 1) w5 < x2 o2 k4 k5 n1 w3) (aX Proofs.Tryz.prog (Instr.lookup 226 (Value.map (some k3)) (iI n4) false) w5 λv4 w6=>∃ n6,v4 = iI n6/\ax (n6 + 1)/\aX Proofs.Tryz.prog (Instr.mapUpdate 226 (Value.map (some k3)) (iI n4) (iI (n6 + 1))) w6 λ(x3:Unit) (w7:YC)=>nn a λa2=>∃ o3,cL w7 (Addr.add a2 5) (Value.map o3)/\aX Proofs.Tryz.prog (Instr.lookup 160 (Value.map o3) (iI n4) false) w7 λv5 w8=>∃ o4 k6 k7,v5 = vS o4 k6 k7/\∃ (x4:lP [(5,fX),(45,aD)]),∃ (x5:lN [(5,fX),(45,aD)]),x4 o2 k4 k5 0 w8/\∀ (I2:Nat->Value) (o5:YB) (k8 k9:Nat) (n7:Int) (w9:YC),x4 o5 k8 k9 n7 w9->br (decide (n7 < (k6:Int))) (idx o4 k6 n7 1 λa3=>∃ n8,cL w9 a3 (iI n8)/\new w9 (oC [iI n8,iI 0] 104) λk10 w10=>rS (ir 51 (Array.mk [vS o5 k8 k9,vS (some (aM k10)) 1 1])) w10 λv6 w11=>∃ o6 k11 k12,v6 = vS o6 k11 k12/\ax (n7 + 1)/\x4 o6 k11 k12 (n7 + 1) w11/\x5 o6 k11 k12 (n7 + 1) w11 < x5 o5 k8 k9 n7 w9) (ax (n1 + 1)/\x1 o5 k8 k9 (n1 + 1) w9/\x2 o5 k8 k9 (n1 + 1) w9 < x2 o2 k4 k5 n1 w3)))) (rE 54 [vS o2 k4 k5] w3 λv7 w12=>∃ o7 k13 k14,v7 = vS o7 k13 k14/\R (vS o7 k13 k14) w12)):aA Tryz.prog 92 [(.pointer a),(.slice b c d)] w R:=rv Tryz.func92 qK (by kernel_rfl) h
abbrev vH:FuncId:=93
def sR:bg:={ rngs:=[],loops:=[],joins:=[],blocks:=[] }
theorem sU {a:YB} {b c:Int} {w:YC} {R:Value->WP} (h:new w (oC [iI b,iI c] 104) λk1 w1=>∀ w2,drawn w1 w2->∃ (I1:WP),I1 w2/\nn a λa1=>∃ o1 k2 k3,(∀ w3,I1 w3->cL w3 (Addr.add a1 4) (vS o1 k2 k3))/\∃ n1,(∀ w4,I1 w4->cL w4 (aM k1) (iI n1))/\idx o1 k2 n1 3 λa2=>∃ o2 k4 k5,(∀ w5,I1 w5->cL w5 (Addr.add a2 1) (vS o2 k4 k5))/\∃ n2,cL w2 (Addr.add (aM k1) 1) (iI n2)/\br (n2 == (k4:Int)) (R (iI (-1)) w2) (∃ n3,cL w2 (Addr.add (aM k1) 1) (iI n3)/\idx o2 k4 n3 1 λa3=>∃ n4,cL w2 a3 (iI n4)/\R (iI n4) w2)):aA Tryz.prog 93 [(.pointer a),(.agg #[(.int .i64 b),(.int .i64 c)])] w R:=rv Tryz.func93 sR (by kernel_rfl) h
def Ap:bg:={ rngs:=[],loops:=[],joins:=[],blocks:=[] }
theorem Aq {a b c d:Int} {w:YC} {R:Value->WP} (h:new w (oC [iI a,iI b] 104) λk1 w1=>new w1 (oC [iI c,iI d] 104) λk2 w2=>∀ w3,drawn w2 w3->∃ (I1:WP),I1 w3/\∃ n1,(∀ w4,I1 w4->cL w4 (aM k1) (iI n1))/\∃ n2,(∀ w5,I1 w5->cL w5 (aM k2) (iI n2))/\∃ n3,(∀ w6,I1 w6->cL w6 (Addr.add (aM k1) 1) (iI n3))/\∃ n4,(∀ w7,I1 w7->cL w7 (Addr.add (aM k2) 1) (iI n4))/\rE 99 [iI n1,iI n2] w3 λv1 w8=>∃ n5,v1 = iI n5/\I1 w8/\rE 99 [iI n3,iI n4] w8 λv2 w9=>∃ n6,v2 = iI n6/\I1 w9/\new w9 (oC [iI n5,iI n6] 3) λk3 w10=>I1 w10/\rE 98 [vS (some (aM k3)) 2 2] w10 λv3 w11=>∃ n7,v3 = iI n7/\I1 w11/\R (iI n7) w11):aA Tryz.prog 97 [(.agg #[(.int .i64 a),(.int .i64 b)]),(.agg #[(.int .i64 c),(.int .i64 d)])] w R:=rv Tryz.func97 Ap (by kernel_rfl) h
def Ar:bg:={ rngs:=[],loops:=[(3,[(8,(.one (.int .i64)))])],joins:=[],blocks:=[] }
theorem As {a:YB} {b c:Nat} {w:YC} {R:Value->WP} (h:∃ (x1:lP [(8,aD)]),∃ (x2:lN [(8,aD)]),x1 0 w/\∀ (I1:Nat->Value) (n1:Int) (w1:YC),x1 n1 w1->br (decide (n1 < (b:Int))) (idx a b n1 1 λa1=>∃ n2,World.cell? w1 a1 = some (iI n2)/\br (n2 != 0) (R (iI n2) w1) (ax (n1 + 1)/\x1 (n1 + 1) w1/\x2 (n1 + 1) w1 < x2 n1 w1)) (R (iI 0) w1)):aA Tryz.prog 98 [(.slice a b c)] w R:=rv Tryz.func98 Ar (by kernel_rfl) h
def sV:bg:={ rngs:=[],loops:=[],joins:=[],blocks:=[] }
theorem sW {a b:Int} {w:YC} {R:Value->WP} (h:rE 157 [iI a] w λv1 w1=>∃ b1,v1 = vB b1/\rE 157 [iI b] w1 λv2 w2=>∃ b2,v2 = vB b2/\br b1 (br b2 (R (iI 0) w2) (R (iI (-1)) w2)) (br b2 (R (iI 1) w2) (br (decide (a < b)) (R (iI (-1)) w2) (br (decide (b < a)) (R (iI 1) w2) (R (iI 0) w2))))):aA Tryz.prog 99 [(.int .i64 a),(.int .i64 b)] w R:=rv Tryz.func99 sV (by kernel_rfl) h
def gQ:bg:={ rngs:=[],loops:=[],joins:=[],blocks:=[] }
theorem gT {a:YB} {b c:Nat} {w:YC} {R:Value->WP} (h:uw a b c none (some (b:Int)) (some (b:Int)) 2 λ(o1:YB) (k1 k2:Nat)=>R (vS o1 k1 k2) w):aA Tryz.prog 100 [(.slice a b c)] w R:=rv Tryz.func100 gQ (by kernel_rfl) h
abbrev gk:FuncId:=101
def fD:bg:={ rngs:=[],loops:=[(4,[(3,(.one (.int .i64)))]),(9,[(3,(.one (.int .i64))),(5,(.one (.int .i64)))])],joins:=[],blocks:=[] }
theorem fE {a:YB} {b c:Nat} {w:YC} {R:Value->WP} (h:br (decide ((b:Int) < 2)) (R (vS a b c) w) (∃ (x1:lP [(3,aD)]),∃ (x2:lN [(3,aD)]),x1 1 w/\∀ (I1:Nat->Value) (n1:Int) (w1:YC),x1 n1 w1->br (decide (n1 < (b:Int))) (∀ w2,drawn w1 w2->∃ (I2:WP),I2 w2/\idx a b n1 2 λa1=>∃ n2 n3,(∀ w3,I2 w3->V.rowAt w3 a1 0 2 = some [iI n2,iI n3])/\ax (n1 - 1)/\idx a b (n1 - 1) 2 λa2=>∃ n4 n5,(∀ w4,I2 w4->V.rowAt w4 a2 0 2 = some [iI n4,iI n5])/\∃ v1,(∀ w5,I2 w5->Sem.run Proofs.Tryz.prog (iB BinOp.eql 104 (Operand.tmp 19) (Operand.tmp 24) (vG [iI n2,iI n3]) (vG [iI n4,iI n5])) w5 = Result.ok v1 w5)/\∃ b1,v1 = vB b1/\br b1 (uw a b c (some n1) none none 2 λ(o1:YB) (k1 k2:Nat)=>∃ (x3:lP [(3,aD),(5,aD)]),∃ (x4:lN [(3,aD),(5,aD)]),x3 n1 1 w2/\∀ (I3:Nat->Value) (n6 n7:Int) (w6:YC),x3 n6 n7 w6->br (decide (n7 < (k1:Int))) (∀ w7,drawn w6 w7->∃ (I4:WP),I4 w7/\idx o1 k1 n7 2 λa3=>∃ n8 n9,(∀ w8,I4 w8->V.rowAt w8 a3 0 2 = some [iI n8,iI n9])/\ax (n7 - 1)/\idx o1 k1 (n7 - 1) 2 λa4=>∃ n10 n11,(∀ w9,I4 w9->V.rowAt w9 a4 0 2 = some [iI n10,iI n11])/\∃ v2,(∀ w10,I4 w10->Sem.run Proofs.Tryz.prog (iB BinOp.neq 104 (Operand.tmp 38) (Operand.tmp 43) (vG [iI n8,iI n9]) (vG [iI n10,iI n11])) w10 = Result.ok v2 w10)/\∃ b2,v2 = vB b2/\br b2 (idx o1 k1 n7 2 λa5=>∃ n12 n13,V.rowAt w7 a5 0 2 = some [iI n12,iI n13]/\idx a b n6 2 λa6=>fL w7 a6 [iI n12,iI n13] λw11=>ax (n6 + 1)/\ax (n7 + 1)/\x3 (n6 + 1) (n7 + 1) w11/\x4 (n6 + 1) (n7 + 1) w11 < x4 n6 n7 w6) (ax (n7 + 1)/\x3 n6 (n7 + 1) w7/\x4 n6 (n7 + 1) w7 < x4 n6 n7 w6)) (uw a b c (some n6) none none 2 λ(o2:YB) (k3 k4:Nat)=>rS (Builtin.clear_ (Array.mk [51]) 0 (Array.mk [vS o2 k3 k4])) w6 λv3 w12=>uw a b c none (some n6) none 2 λ(o3:YB) (k5 k6:Nat)=>R (vS o3 k5 k6) w12)) (ax (n1 + 1)/\x1 (n1 + 1) w2/\x2 (n1 + 1) w2 < x2 n1 w1)) (R (vS a b c) w1))):aA Tryz.prog 101 [(.slice a b c)] w R:=rv Tryz.func101 fD (by kernel_rfl) h
abbrev iA:FuncId:=144
def gl:bg:={ rngs:=[],loops:=[],joins:=[],blocks:=[] }
theorem gm {a:YB} {b c:Nat} {w:YC} {R:Value->WP} (h:br (Option.isNone a) (R (vS none 0 0) w) (new w (oC [] 104) λk1 w1=>rS (ir 51 (Array.mk [vS (some (aM k1)) 0 0,vS a b c])) w1 λv1 w2=>∃ o1 k2 k3,v1 = vS o1 k2 k3/\R (vS o1 k2 k3) w2)):aA Tryz.prog 144 [(.slice a b c)] w R:=rv Tryz.func144 gl (by kernel_rfl) h
end Go.Proofs.YtndaepmjkbmjmaaGreatDoor
namespace Go.V
open Go.Proofs Go.Sort
instance:Inhabited ag:=⟨⟨0,0⟩⟩
def cj (x:ag):List Value:=[.int .i64 x.prod,.int .i64 x.dot]
def tv (xs:List ag):List Value:=xs.flatMap cj
theorem xy (x:ag) (xs:List ag):tv (x :: xs) = .int .i64 x.prod :: .int .i64 x.dot :: tv xs:=rfl
theorem dH:∀ xs:List ag,(tv xs).length = xs.length * 2
 | []=>rfl
 | x :: xs=>by rw [xy,Xj,Xj,dH xs,Xj]; omega
theorem mR (xs ys:List ag):tv (xs ++ ys) = tv xs ++ tv ys:=Xe
theorem Od:∀ (xs:List ag) (t:Nat),(tv xs)[t]? = (xs[t / 2]?).bind λx=>(cj x)[t % 2]?
 | [],t=>by simp [tv]
 | x :: xs,0=>rfl
 | x :: xs,1=>rfl
 | x :: xs,t + 2=>by
  rw [xy,Yj,Yj,Od xs t,show (t + 2) / 2 = t / 2 + 1 by omega,show (t + 2) % 2 = t % 2 by omega,Yj]
theorem FD (xs:List ag):(flatK cj 2 xs.toArray).toList = tv xs:=by
 apply Xs
 intro t
 rw [Od]
 by_cases h:t < xs.length * 2
 ·have h1:t / 2 < xs.length:=by omega
  have h2:t < (flatK cj 2 xs.toArray).size:=by simp; omega
  have h3:=get_flatK cj 2 xs.toArray t (by simpa using h)
  rw [getElem!_pos _ t h2] at h3
  rw [Xa,Array.getElem?_eq_getElem h2,h3,Wv h1,Option.bind_some,getElem!_pos xs.toArray (t / 2) (by simpa using h1)]
  have h4:t % 2 < (cj xs[t / 2]).length:=by simp [cj]; omega
  rw [Wv h4]
  congr 1
  simp [h4]
 ·rw [Xa,Array.getElem?_eq_none (by simp; omega),WR (by omega)]; rfl
section
variable {w:YC} {L:List ay}
theorem Oe {a:YB} {l c:Nat} {xs:List ag} (h:St w (own 2 a l c (tv xs) :: L)) (hl:0 < l) :
  ∃ b off,a = some ⟨b,off,none⟩/\l = xs.length/\HoldsK cj 2 w b off xs.toArray/\b < w.heap.size /\
   (∀ (m:Nat) (os:Array Obj) (d' : Array ag),d'.size = xs.length->St (sortWorldK cj 2 w b off m d' os) (own 2 a l c (tv d'.toList) :: L)):=by
 rcases dA h with ⟨_,h2,_⟩ | ⟨b,pre,cs,post,rfl,hc,h1,h2,h3⟩
 ·omega
 ·have hsz:l = xs.length:=by rw [dH] at h1; omega
  refine ⟨b,pre.length,rfl,hsz,?_,?_,?_⟩
  ·intro j hj
   have hj2:j < (tv xs).length:=by rw [dH]; simpa using hj
   refine ⟨?_,hc.frozen _ _⟩
   rw [hc.cell,WK (by omega),Xq,WI hj2,<- FD,Xa,Array.getElem?_eq_getElem hj,getElem!_pos _ j hj]
   rfl
  ·obtain ⟨e,h⟩:=jU.1 hc
   exact (Xg.1 h.get).1
  ·intro m os d' hs
   have h5:=hc.sort (enc:=id) pre.length m (flatK cj 2 d') os
   have e1:tv xs = (flatK cj 2 xs.toArray).toList.map id:=by rw [FD]; simp
   have e2:(flatK cj 2 d').toList.map id = tv d'.toList:=by
    have:=FD d'.toList
    simp only [Array.toArray_toList] at this
    rw [this]; simp
   rw [e1,xp pre (cs ++ post) (flatK cj 2 xs.toArray) (flatK cj 2 d') (by simp [hs]),e2] at h5
   refine fw h5 ?_ ?_ h3
   ·rw [dH,Array.length_toList,hs]; omega
   ·rw [WA,dH] at h2 ⊢
    rw [Array.length_toList,hs]; omega
end
def qM (a b:Int):Int:=if a < b then -1 else if b < a then 1 else 0
def JE (x y:ag):Int:=if qM x.prod y.prod = 0 then qM x.dot y.dot else qM x.prod y.prod
theorem mr (x y:ag):ltOf JE x y = decide (x.lt y):=by
 have h:JE x y < 0↔x.lt y:=by
  unfold JE qM ag.lt
  by_cases h1:x.prod < y.prod
  ·simp [h1]
  ·by_cases h2:y.prod < x.prod
   ·simp [h1,h2]; omega
   ·have h3:x.prod = y.prod:=by omega
    by_cases h4:x.dot < y.dot
    ·simp [h3,h4]
    ·by_cases h5:y.dot < x.dot
     ·simp [h3,h4,h5]
     ·simp [h3,h4,h5]
 unfold ltOf
 rw [decide_eq_decide,h]
theorem VE:SWO (ltOf JE):=⟨λx=>by rw [mr]; exact Xm (ag.lt_irrefl x),λx y z=>by rw [mr,mr,mr]; simp only [WH]; exact ag.lt_trans,λx y z=>by
 rw [mr,mr,mr]; simp only [Xl]; unfold ag.lt; intro h1 h2 h3; omega⟩
end Go.V
namespace Go.Proofs.YtndaepmjkbmjmaaGreatDoor
open Go.V Go.Sort Go.Shelf
variable {w:YC} {L:List ay}
theorem Og (a b:Int):rE uD [.int .i64 a,.int .i64 b] w λv w'=>v = .int .i64 (qM a b)/\w' = w:=by
 have nan:∀ a:Int,∀ w,rE xh [.int .i64 a] w λv w'=>v = .bool false/\w' = w:=λa w=>kS ⟨by simp,rfl⟩
 refine sW ((nan a w).mono ?_)
 rintro _ _ ⟨rfl,rfl⟩
 refine ⟨_,rfl,(nan b _).mono ?_⟩
 rintro _ _ ⟨rfl,rfl⟩
 refine ⟨_,rfl,ae (λh=>by cases h) λ_=>ae (λh=>by cases h) λ_=>ae (λh=>?_) λh=>ae (λh2=>?_) λh2=>?_⟩
 ·have h:=Wr h; unfold qM; rw [WJ h]; exact ⟨rfl,rfl⟩
 ·have h:=Ws h; have h2:=Wr h2; unfold qM; rw [WB h,WJ h2]; exact ⟨rfl,rfl⟩
 ·have h:=Ws h; have h2:=Ws h2; unfold qM; rw [WB h,WB h2]; exact ⟨rfl,rfl⟩
theorem VF {a:YB} {x y:Int} (hx:a_ (hp w) [x,y] a 2):rE BT [.slice a 2 2] w λv w'=>v = .int .i64 (if x = 0 then y else x)/\w' = w:=by
 refine As ⟨λz w'=>∃ i:Nat,z = i/\i<=2/\(0 < i->x = 0)/\(1 < i->y = 0)/\w' = w,λz _=>2 - z.toNat,⟨0,rfl,by omega,by omega,by omega,rfl⟩,?_⟩
 rintro _ z w1 ⟨i,rfl,hi,h0,h1,e1⟩
 rw [e1]
 refine ae (λh2=>?_) λh2=>?_
 ·have h2:i < 2:=by have:=Wr h2; omega
  obtain ⟨u,ad,hu,ha,cu⟩:=hx.cF h2
  refine aw ha h2 ⟨u,cu _ (sub.refl _),ae (λh3=>?_) λh3=>?_⟩
  ·have h3:u≠0:=bne_iff_ne.1 h3
   match i,h2 with
   | 0,_=>simp at hu; subst hu; exact ⟨by rw [WB h3],rfl⟩
   | 1,_=>simp at hu; subst hu; rw [WJ (h0 (by omega))]; exact ⟨rfl,rfl⟩
  ·have h3:u = 0:=by simpa using h3
   subst h3
   refine ⟨⟨by omega,by omega⟩,⟨i + 1,rfl,h2,λ_=>?_,λ_=>?_,rfl⟩,bx h2⟩
   ·match i,h2 with
    | 0,_=>simpa using hu
    | 1,_=>exact h0 (by omega)
   ·match i,h2 with
    | 0,_=>omega
    | 1,_=>simpa using hu
 ·have h2:i = 2:=by have:=Ws h2; omega
  subst h2
  have e0:=h0 (by omega)
  have e1:=h1 (by omega)
  subst e0; subst e1
  exact ⟨by simp,rfl⟩
theorem Tw (x y:ag) (w:YC):aA Tryz.prog dE [.agg (cj x).toArray,.agg (cj y).toArray] w λv w'=>v = .int .i64 (JE x y)/\∃ q os',w' = grow (w.drewN q) os':=by
 refine Aq ?_
 intro k1 w1 b1 e1
 have h1:St w1 (aK k1 (cj x) :: all w):=(ah (St.all w) λb w' h=>h:new w (oC [iI x.prod,iI x.dot] bF) λb w'=>St w' (aK b (cj x) :: all w)) k1 w1 b1 e1
 intro k2 w2 b2 e2
 have h2:St w2 (aK k2 (cj y) :: aK k1 (cj x) :: all w):=(ah h1 λb w' h=>h:new w1 (oC [iI y.prod,iI y.dot] bF) λb w'=>St w' (aK b (cj y) :: aK k1 (cj x) :: all w)) k2 w2 b2 e2
 intro w3 e3
 have h3:=h2.eq (dB e3)
 have r1:av (hp w3) (aM k1) (cj x):=ai 1 h3.l
 have r2:av (hp w3) (aM k2) (cj y):=ai 0 h3.l
 refine ⟨λu=>Gr w3 u,Gr.refl _,x.prod,λu s=>r1.cell0 s,y.prod,λu s=>r2.cell0 s,x.dot,λu s=>r1.cell s (j:=1) rfl,y.dot,λu s=>r2.cell s (j:=1) rfl,(Og _ _).mono ?_⟩
 rintro _ _ ⟨rfl,rfl⟩
 refine ⟨_,rfl,Gr.refl _,(Og _ _).mono ?_⟩
 rintro _ _ ⟨rfl,rfl⟩
 refine ⟨_,rfl,Gr.refl _,?_⟩
 intro k3 w10 b3 e10
 have h10:St w10 (aK k3 [iI (qM x.prod y.prod),iI (qM x.dot y.dot)] :: all _):=(ah (St.all _) λb w' h=>h:new _ (oC [iI (qM x.prod y.prod),iI (qM x.dot y.dot)] cZ) λb w'=>St w' (aK b [iI (qM x.prod y.prod),iI (qM x.dot y.dot)] :: all _)) k3 w10 b3 e10
 have g10:=h10.aZ
 refine ⟨g10,(VF (x:=qM x.prod y.prod) (y:=qM x.dot y.dot) (dS rfl (.inr ⟨_,rfl,ai 0 h10.l⟩))).mono ?_⟩
 rintro _ _ ⟨rfl,rfl⟩
 refine ⟨_,rfl,g10,rfl,1,#[oC [iI x.prod,iI x.dot] bF,oC [iI y.prod,iI y.dot] bF,oC [iI (qM x.prod y.prod),iI (qM x.dot y.dot)] cZ],?_⟩
 unfold drawn at e3
 rw [e10,e3,e2,e1]
 unfold grow World.drewN
 simp only [World.mk.injEq,true_and,and_true]
 apply XX
 simp
theorem Q4 {blk off:Nat} {n:Nat}:CmpLays Tryz.prog dE #[] cj 2 JE blk off n w:=λm os dk hdk x y=>by
 refine Calls.mono (Tw x y _) ?_
 rintro e w' ⟨v,rfl,_,rfl,q,os',rfl⟩
 exact ⟨rfl,q,os',rfl⟩
theorem Ev.UM (w:YC) (blk off m:Nat) (dk:Array ag) (os:Array Obj):Ev w (sortWorldK cj 2 w blk off m dk os):=Ev.sort (enc:=id) (blk:=blk) w off m (flatK cj 2 dk) os
theorem Q5 {a:YB} {l c:Nat} {xs:List ag} (h:St w (own 2 a l c (tv xs) :: L)) (hb:l < 4611686018427387904) :
  rE fA [.slice a l c,.func (.func dE) (Array.mk []) (Array.mk [])] w λv w'=>v = .tuple (Array.mk [])/\∃ ys:List ag,ys.Perm xs/\ys.Pairwise (λx y=>¬y.lt x)/\St w' (own 2 a l c (tv ys) :: L):=by
 have hln:=iE h
 rw [dH] at hln
 by_cases hl:0 < l
 ·obtain ⟨b,off,rfl,hsz,hH,hblk,hk⟩:=Oe h hl
  subst hsz
  have eg:∀ args w,(callFunc dE args).run Tryz.prog w = .ok (.enter dE args) w:=enters_of Ao (by kernel_rfl) rfl
  refine Calls.mono (AnyQ.slices_SortFunc Sx 2 Fq Fs cj (λ_=>rfl) (λx v hv=>by simp [cj] at hv; rcases hv with rfl | rfl <;> rfl) JE VE dE #[] b off c xs.toArray w eg Q4 hH hblk (by simpa using hb)) ?_
  rintro e w' ⟨rfl,d',n,os,hP,hS,rfl⟩
  have hsz:d'.size = xs.length:=by simpa using hP.1
  refine ⟨_,rfl,Ev.UM w b off n _ os,rfl,d'.toList,?_,?_,hk n os d' hsz⟩
  ·have:=hP.2.2
   rw [Array.extract_size] at this
   have e2:d'.extract 0 xs.toArray.size = d':=by rw [<- hP.1,Array.extract_size]
   rw [e2] at this
   simpa using this
  ·rw [List.pairwise_iff_getElem]
   intro i j hi hj hij
   rw [Array.length_toList] at hi hj
   have:=hS i j (WC _) hij (by rw [<- hP.1]; exact hj)
   rw [mr,getElem!_pos d' j hj,getElem!_pos d' i hi] at this
   simpa using this
 ·have e:l = 0:=by omega
  subst e
  have ex:xs = []:=WU (by omega)
  subst ex
  refine Calls.mono (AnyF.slices_SortFunc_none Sx a c _ w) ?_
  rintro e w' ⟨rfl,rfl⟩
  exact ⟨_,rfl,Ev.refl _,rfl,[],.refl _,.nil,h⟩
theorem KY {a:YB} {l c:Nat} {zs:List Int} (h:St w (own 1 a l c (iv zs) :: L)) (hb:l < 4611686018427387904) :
  rE nW [.slice a l c] w λv w'=>v = .tuple (Array.mk [])/\St w' (own 1 a l c (iv (zs.mergeSort λx y=>decide (x<=y))) :: L):=by
 rcases Nat.eq_zero_or_pos l with rfl | hl
 ·have hz:zs = []:=WU (by have:=iE h; simpa [iv] using this)
  subst hz
  refine Calls.mono (Any.slices_Sort_int_none Sy a c w) ?_
  rintro e w' ⟨rfl,rfl⟩
  exact ⟨_,rfl,Ev.refl _,rfl,by simpa using h⟩
 obtain ⟨b,off,rfl,hsz,hH,hblk,hk⟩:=Q0 (d:=zs.toArray) (enc:=Value.int .i64) (by simpa [iv] using h) hl
 simp only [List.size_toArray] at hsz
 subst hsz
 refine Calls.mono (Any.slices_Sort_int Sy b off c zs w hH hblk hb) ?_
 rintro e w' ⟨rfl,n,os,rfl⟩
 refine ⟨_,rfl,Ev.sort (enc:=Value.int .i64) w off n _ os,rfl,?_⟩
 have:=hk n os (zs.mergeSort λx y=>decide (x<=y)).toArray (by simp)
 have e:(zs.mergeSort λx y=>decide (x<=y)).toArray.toList.map (Value.int .i64) = iv (zs.mergeSort λx y=>decide (x<=y)):=by simp [iv]
 rw [e] at this
 exact this
end Go.Proofs.YtndaepmjkbmjmaaGreatDoor
namespace Go.V
section
variable {P:Program} {Ty:TypeId->Option cU} {w:YC} {L:List ay}
theorem Ei (hT:eC P Ty) {t e ty:TypeId} {i:cU} {z:Value} (hk:aj Ty t = .slice e) (hi:Ty e = some i) (hz:i.zero = some z) (hzs:(cellsOf z).length = i.size) (h1:∀ v∈cellsOf z,aV v = true) (h0:0 < i.size)
  {a:YB} {l c kk c2:Nat} {us:List Value} (h:St w (own i.size a l c us :: L)) (hkl:kk<=l) :
  aX P (Builtin.clear_ (Array.mk [t]) ty (Array.mk [.slice (gE a kk c i.size) (l - kk) c2])) w λv w'=>∃ us' : List Value,us'.take (kk * i.size) = us.take (kk * i.size)/\St w' (own i.size a l c us' :: L):=by
 obtain ⟨d,hd,hd'⟩:=dv hT hk (by simp)
 rw [iC hd'] at hd
 obtain ⟨info,d2,ha⟩:=rV hT hi
 have hzz:(zeroValue e).run P w = .ok z w:=jC ha.inf (by rw [<- ha.zero,hz])
 have hul:=iE h
 by_cases hk2:kk < l
 ·have hlt:0 < us.length:=by rw [hul]; exact Nat.mul_pos (by omega) h0
  obtain ⟨ad,rfl⟩:=nR h hlt
  have hle:=fa h
  have esl:gE (some ad) kk c i.size = some (ad.add (kk * i.size)):=by
   unfold gE; rw [WB (by omega),aJ]; rfl
  obtain ⟨m,hm⟩ : ∃ m,l - kk = m + 1:=⟨l - kk - 1,by omega⟩
  have hcz:z.cells = ⟨cellsOf z⟩:=by rw [dq]
  have hzc:(Builtin.zeroCells z.cells (m + 1)).toList = (List.replicate (m + 1) (cellsOf z)).flatten:=by
   unfold Builtin.zeroCells
   rw [hcz]
   have:=Bt (cellsOf z) (m + 1)
   simp only [List.size_toArray] at this ⊢
   rw [this]
  have hfl:∀ n,(List.replicate n (cellsOf z)).flatten.length = n * i.size:=λn=>by
   induction n with
   | zero=>simp
   | succ n ih=>rw [Ym,List.flatten_cons,WA,ih,hzs,XU,Yv]
  have hbig:(m + 1) * i.size = l * i.size - kk * i.size:=by rw [<- hm,Nat.sub_mul]
  have hkl2:kk * i.size<=l * i.size:=X7 _ hkl
  have hst:=xt (i:=kk * i.size) (vs:=(List.replicate (m + 1) (cellsOf z)).flatten) (k:=λw'=>St w' (own i.size (some ad) l c (us.take (kk * i.size) ++ (List.replicate (m + 1) (cellsOf z)).flatten ++ us.drop (kk * i.size + (List.replicate (m + 1) (cellsOf z)).flatten.length)) :: L)) h rfl
   (by rw [hfl,hul,hbig]; omega) (λv hv=>by
    obtain ⟨x,hx,hv⟩:=List.mem_flatten.1 hv
    rw [List.eq_of_mem_replicate hx] at hv; exact h1 v hv) (by rw [hfl]; exact Nat.mul_pos (by omega) h0) λw' h=>h
  refine ⟨.tuple #[],_,?_,Ev.cd w _ _ _ _ (Ev.refl _),_,?_,hst.2 _ rfl⟩
  ·unfold Builtin.clear_
   rw [esl,hm]
   simp only [Sem.run_bind,aS hd,Result.andThen_ok,hzz,hzc,e_ _ _ _ _ hst.1,Sem.run_pure]
   simp [Sem.run_bind,aS hd,hzz,hzc,e_ _ _ _ _ hst.1]
  ·rw [WG,List.take_left' (by rw [WV]; omega)]
 ·have e:l - kk = 0:=by omega
  rw [e]
  refine ⟨.tuple #[],w,?_,Ev.refl _,us,rfl,h⟩
  unfold Builtin.clear_
  cases hs:gE a kk c i.size <;> simp [Sem.run_bind,aS hd]
end
section
variable {w:YC} {L:List ay} {xs:List ag} {a:YB} {l c:Nat}
theorem Oh {h:Hp} {ad:Addr} (r:av h ad (tv xs)) {i:Nat} {x:ag} (hx:xs[i]? = some x):av h (ad.add (cY i 2)) (cj x):=λj v hv=>by
 have hj:j < 2:=(Wt.1 hv).1
 rw [aJ,add_add]
 refine r (i * 2 + j) v ?_
 rw [Od,show (i * 2 + j) / 2 = i by omega,show (i * 2 + j) % 2 = j by omega,hx]
 exact hv
theorem AX {h:Hp} (hl:xs.length = l) (r:eJ a (tv xs) h):a_ h xs a l:=by
 refine ⟨hl,λi x hx=>?_⟩
 rcases r with e | ⟨ad,rfl,hc⟩
 ·have h1:=congrArg List.length e
  rw [dH,Xk] at h1
  have:=(Wt.1 hx).1
  omega
 ·exact ⟨ad,_,rfl,Oh hc hx,rfl⟩
theorem cq (h:St w (own 2 a l c (tv xs) :: L)):a_ (hp w) xs a l:=by
 have hl:=iE h
 rw [dH] at hl
 obtain ⟨h1,s,ha⟩:=h.first
 exact (AX (by omega) (cf ha)).mono s
theorem cr {h:Hp} (r:a_ h xs a l) {i:Nat} (hi:i < l):∃ x ad,xs[i]? = some x/\a = some ad/\∀ u:YC,sub h (hp u)->V.rowAt u (ad.add (cY i 2)) 0 2 = some [.int .i64 x.prod,.int .i64 x.dot]:=by
 obtain ⟨x,ad,vs,hx,ha,hr,rfl⟩:=r.get hi
 exact ⟨x,ad,hx,ha,λu s=>hr.at s rfl⟩
theorem Tx {i:Nat} {x:ag} (hi:i < xs.length):(tv xs).take (i * 2) ++ [.int .i64 x.prod,.int .i64 x.dot] ++ (tv xs).drop (i * 2 + 2) = tv (xs.set i x):=by
 rw [List.set_eq_take_append_cons_drop,WJ hi]
 have e1:tv xs = tv (xs.take i) ++ tv (xs.drop i):=by rw [<- mR,WX]
 have e2:tv xs = tv (xs.take (i + 1)) ++ tv (xs.drop (i + 1)):=by rw [<- mR,WX]
 have l1:(tv (xs.take i)).length = i * 2:=by rw [dH,WV]; omega
 have l2:(tv (xs.take (i + 1))).length = i * 2 + 2:=by rw [dH,WV]; omega
 have t1:(tv xs).take (i * 2) = tv (xs.take i):=by rw [e1,List.take_left' l1]
 have t2:(tv xs).drop (i * 2 + 2) = tv (xs.drop (i + 1)):=by rw [e2,List.drop_left' l2]
 rw [t1,t2,mR,xy]
 simp
theorem Q6 (xs:List ag) (k:Nat):(tv xs).take (k * 2) = tv (xs.take k):=by
 by_cases h:k<=xs.length
 ·have e1:tv xs = tv (xs.take k) ++ tv (xs.drop k):=by rw [<- mR,WX]
  rw [e1,List.take_left' (by rw [dH,WV]; omega)]
 ·rw [WN (by rw [dH]; omega),WN (by omega)]
theorem gn {sz:Nat} {vs:List Value} (h:St w (own sz a l c vs :: L)):St w (own sz (gE a 0 l sz) l l vs :: L):=by
 rcases dA h with ⟨rfl,rfl,rfl,rfl⟩ | ⟨b,pre,cs,post,rfl,hc,h1,h2,h3⟩
 ·have:gE none 0 0 sz = none:=by simp [gE]
  rw [this]; exact h
 ·have e:gE (some (⟨b,pre.length,none⟩ : Addr)) 0 l sz = some ⟨b,pre.length,none⟩:=by
   unfold gE; split
   ·rfl
   ·simp [aJ,add_lit]
  rw [e]
  exact fw (cs:=[]) (post:=cs ++ post) (by simpa using hc) h1 (by simpa using h1) (WO _)
theorem gp {a:YB} {l c sz:Nat} {k:YB->Nat->Nat->Prop} (h1:l<=c) (hk:k (gE a 0 l sz) l l):uw a l c none (some (l:Int)) (some (l:Int)) sz k :=
 ⟨.inr ⟨by simp,by show (0:Int)<=(l:Int); omega,by show (l:Int)<=(c:Int); omega⟩,.inr ⟨by show (0:Int)<=(l:Int); omega,by show (l:Int)<=(l:Int); omega⟩,⟨by decide,by show (0:Int)<=(l:Int); omega⟩,by simpa using hk⟩
end
abbrev UN (l:List ag):Prop:=l.Pairwise λx y=>¬y.lt x
theorem UN.at {xs:List ag} (h:UN xs) {i j:Nat} {x y:ag} (hij:i < j) (hi:xs[i]? = some x) (hj:xs[j]? = some y):¬y.lt x:=by
 obtain ⟨h1,rfl⟩:=Wt.1 hi
 obtain ⟨h2,rfl⟩:=Wt.1 hj
 exact List.pairwise_iff_getElem.1 h i j h1 h2 hij
theorem KZ {xs:List ag} {n:Nat} {x:ag} (h1:xs[n]? = some x) (h2:xs[n + 1]? = some x):lay (xs.take (n + 2)) = lay (xs.take (n + 1)) :=
 Jy (fC _) λy=>by
  rw [eO,Wz (i:=n + 1),h2,XC,Wy,WW]
  refine ⟨.inl,λh=>h.elim id ?_⟩
  rintro rfl
  exact Wu (i:=n) (by rw [XB,WJ (by omega)]; exact h1)
theorem K1 {xs:List ag} (hs:UN xs) {n:Nat} {x z:ag} (h1:xs[n]? = some z) (h2:xs[n + 1]? = some x) (hne:x≠z):lay (xs.take (n + 2)) = lay (xs.take (n + 1)) ++ [x]:=by
 refine Jy ?_ λy=>by rw [Wy,eO,Wz (i:=n + 1),h2,XC,Wy]
 rw [iz,Yw]
 refine ⟨fC _,by simp,λy hy u hu=>?_⟩
 rw [WW] at hu
 subst hu
 rw [eO] at hy
 obtain ⟨i,hi⟩:=W3 hy
 have hin:i < n + 1:=by have:=(Wt.1 hi).1; rw [WV] at this; omega
 rw [XB,WJ hin] at hi
 have hzu:z.lt u:=(ag.KV hne).resolve_left (hs.at (Nat.lt_succ_self n) h1 h2)
 by_cases e:i = n
 ·subst e; rw [h1] at hi; cases hi; exact hzu
 ·have hzy:=hs.at (show i < n by omega) hi h1
  by_cases e2:y = z
  ·rw [e2]; exact hzu
  ·exact ag.lt_trans ((ag.KV e2).resolve_right hzy) hzu
theorem Oi {xs:List ag} (hs:UN xs) {n:Nat} {x z:ag} (h:iz (xs.take (n + 1))) (h1:xs[n]? = some z) (h2:xs[n + 1]? = some x) (hne:x≠z):iz (xs.take (n + 2)):=by
 have e:=K1 hs h1 h2 hne
 rw [nY h] at e
 have e2:xs.take (n + 2) = xs.take (n + 1) ++ [x]:=by rw [Wz (i:=n + 1),h2]; rfl
 rw [e2,<- e]
 exact fC _
end Go.V
namespace Go.Proofs.YtndaepmjkbmjmaaGreatDoor
variable {w:YC} {L:List ay}
theorem Ej (w:YC) (x y:ag):(Op.equalIn (9998 + 1 + 1) bF (.agg ⟨cj x⟩) (.agg ⟨cj y⟩)).run Tryz.prog w = .ok (decide (x = y)) w:=by
 have ht:Tryz.prog.underlying bF = some (.struct (Tryz.prog.fieldsOf bF)):=by kernel_rfl
 have hi:Tryz.prog.underlying cZ = some (.int .i64):=bB
 have hf : (Tryz.prog.fieldsOf bF).toList = [{ name := "Prod", type := cZ, offset := 0, embedded := false, tag := "", pkgPath := "", byteOffset := 0 }, { name := "Dot", type := cZ, offset := 1, embedded := false, tag := "", pkgPath := "", byteOffset := 8 }] := by kernel_rfl
 have p0:∀ (v u:Value) (w:YC),(part cZ #[v,u] 0).run Tryz.prog w = .ok v w:=λv u w=>by simp [part,dz hi,dZ,Kd.isAgg]
 have p1:∀ (v u:Value) (w:YC),(part cZ #[v,u] 1).run Tryz.prog w = .ok u w:=λv u w=>by simp [part,dz hi,dZ,Kd.isAgg]
 have eqI:∀ n m d w,(Op.equalIn (d + 1) cZ (.int .i64 n) (.int .i64 m)).run Tryz.prog w = .ok (n == m) w:=λn m d w=>run_equalIn_int w d _ _ _ _ _ hi
 have e:decide (x = y) = (x.prod == y.prod && x.dot == y.dot):=by
  rw [Xh]; simp only [WH,WL,Yo]
  exact ⟨λh=>by subst h; exact ⟨rfl,rfl⟩,λ⟨h1,h2⟩=>ag.ext' h1 h2⟩
 unfold cj
 rw [run_equalIn_agg w (9998 + 1) bF _ _ ht Fp,hf,e]
 unfold Op.eqFields
 simp only [ne_eq,String.reduceEq,not_false_eq_true,if_true,Sem.run_bind,p0,Result.andThen_ok,eqI]
 cases hq:(x.prod == y.prod)
 ·simp
 ·unfold Op.eqFields
  simp only [ne_eq,String.reduceEq,not_false_eq_true,if_true,Sem.run_bind,p1,Result.andThen_ok,eqI,Bool.not_true,X0,if_false]
  cases hn:(x.dot == y.dot)
  ·simp
  ·unfold Op.eqFields; simp
theorem Cd (w:YC) (xo yo:Operand) (x y:ag):Sem.run Tryz.prog (iB .eql bF xo yo (.agg ⟨cj x⟩) (.agg ⟨cj y⟩)) w = .ok (.bool (decide (x = y))) w:=by
 unfold iB
 rw [Sem.run_bind,run_eqGuard_agg w _ _ _ _ _ _ xg]
 simp only [Result.andThen_ok]
 rw [run_eql_struct]
 show ((Op.equalIn (9998 + 1 + 1) bF (.agg ⟨cj x⟩) (.agg ⟨cj y⟩)).run Tryz.prog w).andThen _ = _
 rw [Ej]
 rfl
theorem JF (w:YC) (xo yo:Operand) (x y:ag):Sem.run Tryz.prog (iB .neq bF xo yo (.agg ⟨cj x⟩) (.agg ⟨cj y⟩)) w = .ok (.bool (!decide (x = y))) w:=by
 unfold iB
 rw [Sem.run_bind,run_eqGuard_agg w _ _ _ _ _ _ xg]
 simp only [Result.andThen_ok]
 rw [run_neq_struct]
 show ((Op.equalIn (9998 + 1 + 1) bF (.agg ⟨cj x⟩) (.agg ⟨cj y⟩)).run Tryz.prog w).andThen _ = _
 rw [Ej]
 rfl
end Go.Proofs.YtndaepmjkbmjmaaGreatDoor
namespace Go.V
theorem K2 {xs:List ag} {n:Nat} (h:n<=1):iz (xs.take n):=by
 match n,h with
 | 0,_=>simp
 | 1,_=>cases xs <;> simp
theorem Oj {xs ys:List ag} (h:ys.Perm xs):lay ys = lay xs:=Jy (fC _) λy=>by rw [eO,h.mem_iff]
end Go.V
namespace Go.Proofs.YtndaepmjkbmjmaaGreatDoor
variable {w:YC} {L:List ay} {a:YB} {l c:Nat} {xs:List ag}
theorem Mj (h:St w (own 2 a l c (tv xs) :: L)) (hs:UN xs) (hb:l < 4611686018427387904) :
  aA Tryz.prog gk [.slice a l c] w λv w'=>∃ a' c',v = .slice a' (lay xs).length c'/\St w' (own 2 a' (lay xs).length c' (tv (lay xs)) :: L):=by
 have hln:=iE h
 rw [dH] at hln
 have hlc:=fa h
 have hl:xs.length = l:=by omega
 refine fE (ae (λh1=>?_) λh1=>?_)
 ·have h1:l < 2:=by have:=Wr h1; omega
  have e:lay xs = xs:=nY (by have:=K2 (xs:=xs) (n:=l) (by omega); rwa [WN (by omega)] at this)
  rw [e,hl]; exact ⟨a,c,rfl,h⟩
 have h1:2<=l:=by have:=Ws h1; omega
 refine ⟨λz w'=>∃ n:Nat,z = ((n + 1:Nat):Int)/\n + 1<=l/\iz (xs.take (n + 1))/\St w' (own 2 a l c (tv xs) :: L),λz _=>l - z.toNat,⟨0,rfl,by omega,K2 (WO _),h⟩,?_⟩
 clear h
 rintro _ z w1 ⟨n,rfl,hn,hS,h⟩
 refine ae (λh2=>?_) λh2=>?_
 rotate_left
 ·have h2:l = n + 1:=by have:=Ws h2; omega
  have e:lay xs = xs:=nY (by rwa [WN (by omega)] at hS)
  rw [e,hl]; exact ⟨a,c,rfl,h⟩
 have h2:n + 1 < l:=by have:=Wr h2; omega
 intro w2 hd
 have h:=h.eq (aB hd)
 have hr:=cq h
 obtain ⟨x,ad,hx,rfl,cx⟩:=cr hr h2
 obtain ⟨z,ad2,hz,e2,cz⟩:=cr hr (by omega:n < l)
 cases e2
 have e1:((n + 1:Nat):Int) - 1 = (n:Int):=by omega
 rw [e1]
 refine ⟨λu=>Gr w2 u,Gr.refl _,aq rfl h2 ⟨_,_,cx,⟨by omega,by omega⟩,aq rfl (by omega) ⟨_,_,cz,_,λu _=>Cd u _ _ x z,_,rfl,ae (λh3=>?_) λh3=>?_⟩⟩⟩
 rotate_left
 ·have h3:x≠z:=Ws h3
  exact ⟨⟨by omega,by omega⟩,⟨n + 1,by simp,h2,Oi hs hS hz hx h3,h⟩,bx h2⟩
 have h3:x = z:=Wr h3
 subst h3
 refine dG (by omega) hlc ?_
 refine ⟨λz y w'=>∃ (k t:Nat) (us:List ag),z = (k:Int)/\y = ((t + 1:Nat):Int)/\n + 1<=k/\k<=n + 1 + t/\n + 1 + t + 1<=l/\us.length = l/\us.drop k = xs.drop k/\us.take k = lay (xs.take (n + 1 + t + 1))/\St w' (own 2 (some ad) l c (tv us) :: L),λ_ y _=>l - y.toNat,
  ⟨n + 1,0,xs,rfl,rfl,WO _,WO _,by omega,hl,rfl,?_,h⟩,?_⟩
 ·rw [show n + 1 + 0 + 1 = n + 2 by omega,KZ hz hx,nY hS]
 clear h hr cx cz
 rintro _ _ _ w3 ⟨k,t,us,rfl,rfl,hk1,hk2,ht,hul,hud,hut,h⟩
 have hul2:(tv us).length = l * 2:=by rw [dH,hul]
 refine ae (λh3=>?_) λh3=>?_
 rotate_left
 ·have h3:l = n + 1 + t + 1:=by have:=Ws h3; omega
  rw [<- h3,WN (show xs.length<=l by omega)] at hut
  have hkl:(lay xs).length = k:=by rw [<- hut,WV]; omega
  have hc:=Ei (ty:=0) (c2:=c - k) aQ (rfl:aj Ty Dv = .slice _) (rfl:Ty bF = some _) rfl rfl (λv hv=>by rcases WM.1 hv with rfl | hv; rfl; rw [WW] at hv; subst hv; rfl) (by show 0 < 2; decide) h (show k<=l by omega)
  refine dG (by omega) hlc (hc.mono ?_)
  rintro _ w4 ⟨vs,hv,h⟩
  refine ub (by omega) ?_
  have h:=AV h (k:=k) (by omega)
  have e:vs.take (k * 2) = tv (lay xs):=hv.trans (by rw [<- hut]; exact Q6 us k)
  rw [hkl]
  exact ⟨_,_,rfl,by rw [<- e]; exact h⟩
 have h3:t + 1 < l - (n + 1):=by have:=Wr h3; omega
 intro w4 hd
 have h:=h.eq (aB hd)
 have hr:=(cq h).drop (k:=n + 1) (m:=c) (by omega) hlc
 have same:∀ j,k<=j->us[j]? = xs[j]?:=λj hj=>by
  have:=congrArg (λl=>l[j - k]?) hud
  simp only [W8] at this
  rwa [show k + (j - k) = j by omega] at this
 obtain ⟨x2,ad3,hx2,e3,cx⟩:=cr hr h3
 obtain ⟨z2,ad4,hz2,e4,cz⟩:=cr hr (by omega:t < l - (n + 1))
 rw [e3] at e4
 cases e4
 rw [W8,same _ (by omega)] at hx2 hz2
 have e1:((t + 1:Nat):Int) - 1 = (t:Int):=by omega
 have hx3:xs[n + 1 + t + 1]? = some x2:=by rw [<- hx2]; congr 1
 have hz3:xs[n + 1 + t]? = some z2:=by rw [<- hz2]
 rw [e1]
 refine ⟨λu=>Gr w4 u,Gr.refl _,aq e3 h3 ⟨_,_,cx,⟨by omega,by omega⟩,aq e3 (by omega) ⟨_,_,cz,_,λu _=>JF u _ _ x2 z2,_,rfl,ae (λh4=>?_) λh4=>?_⟩⟩⟩
 rotate_left
 ·have h4:x2 = z2:=by simpa using h4
  subst h4
  refine ⟨⟨by omega,by omega⟩,⟨k,t + 1,us,rfl,by simp,hk1,by omega,by omega,hul,hud,?_,h⟩,bx (by omega)⟩
  rw [hut,show n + 1 + (t + 1) + 1 = n + 1 + t + 2 by omega,KZ hz3 hx3]
 have h4:x2≠z2:=by simpa using h4
 refine aq e3 h3 ⟨_,_,cx _ (Gr.refl _),aq rfl (by omega) ?_⟩
 rw [aJ]
 refine xt (i:=k * 2) h rfl (by rw [hul2]; simp; omega) (by simp [aV]) (by simp) λw5 h=>?_
 rw [show (k * 2 + [Value.int .i64 x2.prod,Value.int .i64 x2.dot].length) = k * 2 + 2 from rfl,Tx (by omega)] at h
 refine ⟨⟨by omega,by omega⟩,⟨by omega,by omega⟩,⟨k + 1,t + 1,us.set k x2,by simp,by simp,by omega,by omega,by omega,by rw [W1,hul],?_,?_,h⟩,bx (by omega)⟩
 ·rw [List.drop_set_of_lt (by omega),<- List.drop_drop (i:=1),hud,List.drop_drop]
 ·have hku:k < us.length:=by omega
  rw [show n + 1 + (t + 1) + 1 = n + 1 + t + 2 by omega,K1 hs hz3 hx3 h4,<- hut,Wz,X_ hku,List.take_set_of_le (WO _)]
  rfl
theorem Ol (h:St w (own 2 a l c (tv xs) :: L)) (hb:l < 4611686018427387904) :
  aA Tryz.prog JD [.slice a l c] w λv w'=>∃ a',v = .slice a' (lay xs).length (lay xs).length/\St w' (own 2 a' (lay xs).length (lay xs).length (tv (lay xs)) :: L):=by
 refine FB ((Q5 h hb).mono ?_)
 rintro _ w1 ⟨rfl,ys,hp,hn,h⟩
 refine ⟨rfl,(Mj h hn hb).mono ?_⟩
 rintro _ w2 ⟨a2,c2,rfl,h⟩
 have hlc:=fa h
 refine ⟨_,_,_,rfl,gT (gp hlc ?_)⟩
 have h:=gn h
 rw [Oj hp] at h ⊢
 exact ⟨_,_,_,rfl,_,rfl,h⟩
end Go.Proofs.YtndaepmjkbmjmaaGreatDoor
namespace Go.V
open MapKept
section
variable {κ : Type} [DecidableEq κ] [MVal κ] {P:Program} {Ty:TypeId->Option cU} {w:YC} {L:List ay} {b r:Nat} {m:List (κ × Value)} {ks:List κ}
structure Q7 (es:Array MapEntry) (seen:Array Nat) (m:List (κ × Value)) (ks:List κ):Prop where
 perm:(ks.map MVal.val ++ (leftOf es seen).toList.map (·.key)).Perm (m.map λx=>MVal.val x.1)
def Ek (b r:Nat) (m:List (κ × Value)) (ks:List κ):ay:=ex λ(x:Array MapEntry × Nat × Array Nat)=>aG [pu (ve x.1 x.2.1 m/\Q7 x.1 x.2.2 m ks),blk b (.map x.1 x.2.1),blk r (.mapIter (some b) x.2.1 x.2.2 x.2.1)]
def FE (b r:Nat) (m:List (κ × Value)) (ks:List κ) (k:κ) (u:Value):ay:=ex λ(x:Array MapEntry × Nat × Array Nat × MapEntry) =>
 aG [pu (ve x.1 x.2.1 m/\Q7 x.1 (x.2.2.1.push x.2.2.2.born) m ks/\x.2.2.2∈x.1.toList/\x.2.2.2.key = MVal.val k/\x.2.2.2.val = u),blk b (.map x.1 x.2.1),blk r (.mapIter (some b) x.2.1 (x.2.2.1.push x.2.2.2.born) x.2.1)]
theorem ue:St w (Ek b r m ks :: L)↔∃ es cl seen,ve es cl m/\Q7 es seen m ks/\St w (blk b (.map es cl) :: blk r (.mapIter (some b) cl seen cl) :: L):=by
 constructor
 ·intro h
  obtain ⟨⟨es,cl,seen⟩,h⟩:=St.ex.1 h
  obtain ⟨⟨h1,h2⟩,h3⟩:=St.pu.1 (St.flat.1 h)
  exact ⟨es,cl,seen,h1,h2,h3⟩
 ·rintro ⟨es,cl,seen,h1,h2,h3⟩
  exact St.ex.2 ⟨⟨es,cl,seen⟩,St.flat.2 (St.pu.2 ⟨⟨h1,h2⟩,h3⟩)⟩
theorem vJ {k:κ} {u:Value}:St w (FE b r m ks k u :: L)↔∃ es cl,∃ (seen:Array Nat) (e:MapEntry),ve es cl m/\Q7 es (seen.push e.born) m ks/\e∈es.toList/\e.key = MVal.val k/\e.val = u/\St w (blk b (.map es cl) :: blk r (.mapIter (some b) cl (seen.push e.born) cl) :: L):=by
 constructor
 ·intro h
  obtain ⟨⟨es,cl,seen,e⟩,h⟩:=St.ex.1 h
  obtain ⟨⟨h1,h2,h3,h4,h5⟩,h6⟩:=St.pu.1 (St.flat.1 h)
  exact ⟨es,cl,seen,e,h1,h2,h3,h4,h5,h6⟩
 ·rintro ⟨es,cl,seen,e,h1,h2,h3,h4,h5,h6⟩
  exact St.ex.2 ⟨⟨es,cl,seen,e⟩,St.flat.2 (St.pu.2 ⟨⟨h1,h2,h3,h4,h5⟩,h6⟩)⟩
theorem Ml {k:κ} {u:Value} (h:St w (FE b r m ks k u :: L)):St w (Ek b r m ks :: L):=by
 obtain ⟨es,cl,seen,e,h1,h2,_,_,_,h6⟩:=vJ.1 h
 exact ue.2 ⟨es,cl,_,h1,h2,h6⟩
theorem Mm (h:St w (Ek b r m ks :: L)):St w (mapA b m :: L):=by
 obtain ⟨es,cl,seen,h1,h2,h3⟩:=ue.1 h
 exact jv.2 ⟨es,cl,h1,h3.swap.tail⟩
theorem Mn (hT:eC P Ty) {t kt et:TypeId} (hk:aj Ty t = .map kt et) (h:St w (mapA b m :: L)) :
  aX P (Instr.range t (.map (some b))) w λv w'=>∃ r,v = .pointer (some ⟨r,0,none⟩)/\St w' (Ek b r m ([] : List κ) :: L):=by
 obtain ⟨d,hd,hd'⟩:=dv hT hk (by simp)
 rw [xf hd'] at hd
 obtain ⟨es,cl,he,h⟩:=jv.1 h
 refine ⟨_,_,run_range_map w t kt et b es cl hd h.get,Ev.push w _,_,rfl,ue.2 ⟨es,cl,#[],he,⟨?_⟩,?_⟩⟩
 ·have e1:leftOf es #[] = es:=by unfold leftOf; simp
  rw [e1]
  have:=congrArg (List.map Prod.fst) he.eq
  simp only [X8] at this
  have e2:es.toList.map (·.key) = m.map λx=>MVal.val x.1:=this
  rw [e2]; exact .refl _
 ·exact (h.push (.mapIter (some b) cl #[] cl)).swap
theorem Hx (e:MapEntry):∀ (l:List MapEntry),(l.map (·.born)).Nodup->e∈l->l.Perm (e :: l.filter λx=>decide (x.born≠e.born))
 | x :: l,hn,he=>by
  have hn' : x.born∉l.map (·.born)/\(l.map (·.born)).Nodup:=Xp.1 hn
  rcases WM.1 he with rfl | h
  ·have:l.filter (λx=>decide (x.born≠e.born)) = l:=List.filter_eq_self.2 λx hx=>by
    rw [WH]
    intro e'; exact hn'.1 (WS.2 ⟨x,hx,e'⟩)
   rw [XE,WB (by simp),this]
  ·have hx:x.born≠e.born:=λe'=>hn'.1 (by rw [e']; exact WS.2 ⟨e,h,rfl⟩)
   rw [XE,WJ (by simpa using hx)]
   exact (List.Perm.cons x (Hx e l hn'.2 h)).trans (.swap _ _ _)
theorem St.setIter {b' : Option Nat} {s c:Nat} {seen:Array Nat} (h:St w (blk r (.mapIter b' s seen c) :: L)) {w1:YC} (hw:w1 = w\/w1 = w.drew) (o:Obj) (ho:Gw o = true:=by rfl):Ev w (ChangeMaps.setBlock w1 r o)/\St (ChangeMaps.setBlock w1 r o) (blk r o :: L):=by
 have h1:St w1 (blk r (.mapIter b' s seen c) :: L):=by
  rcases hw with rfl | rfl
  ·exact h
  ·exact h.same rfl
 have e1:Ev w w1:=by
  rcases hw with rfl | rfl
  ·exact Ev.refl _
  ·exact Ev.drew _ _
 refine ⟨e1.trans ⟨rfl,rfl,rfl,by simp [ChangeMaps.setBlock],?_,?_⟩,h1.setObj o ho⟩ <;>
 ·intro x d hx
  unfold ChangeMaps.setBlock
  rw [XI]; exact hx
  intro e; subst e; rw [h1.get] at hx; cases hx
theorem Tz {es:Array MapEntry} {cl:Nat} {e:MapEntry} (h:ve es cl m) (he:e∈es.toList):∃ k,(k,e.val)∈m/\e.key = MVal.val k:=by
 have:(e.key,e.val)∈es.toList.map λe=>(e.key,e.val):=WS.2 ⟨e,he,rfl⟩
 rw [h.eq] at this
 obtain ⟨x,hx,e2⟩:=WS.1 this
 injection e2 with e3 e4
 refine ⟨x.1,?_,e3.symm⟩
 rw [<- e4]; exact hx
theorem val_inj {a c:κ} (h:MVal.val a = MVal.val c):a = c:=MVal.inj a c h
theorem Hy {α β : Type} {f:α->β} (hf:∀ a c,f a = f c->a = c):∀ {l l' : List α},(l.map f).Perm (l'.map f)->l.Perm l'
 | [],[],_=>.refl _
 | [],_ :: _,h=>by have:=h.length_eq; simp at this
 | a :: l,l',h=>by
  have hm:f a∈l'.map f:=h.subset (by simp)
  obtain ⟨x,hx,e⟩:=WS.1 hm
  have:=hf _ _ e
  subst this
  obtain ⟨s,t,rfl⟩:=Yq hx
  have h2:(f x :: l.map f).Perm (f x :: (s ++ t).map f):=h.trans (by
   rw [WZ,Xf,WZ]; exact Xo)
  exact (List.Perm.cons x (Hy hf ((List.perm_cons _).1 h2))).trans Xo.symm
theorem Om {ty:TypeId} (h:St w (Ek b r m ks :: L)):aX P (Instr.next (.pointer (some ⟨r,0,none⟩)) false ty) w λv w' =>
  (v = .tuple #[.bool false]/\ks.Perm (m.map Prod.fst)/\St w' (mapA b m :: L)) \/
  ∃ (k:κ) (u:Value),(k,u)∈m/\v = .tuple #[.bool true,MVal.val k,u]/\ks.length < m.length/\St w' (FE b r m (ks ++ [k]) k u :: L):=by
 have hmap:=Mm h
 obtain ⟨es,cl,seen,h1,h2,h3⟩:=ue.1 h
 rcases run_next_at (P:=P) w ty r b cl cl seen es cl h3.swap.get h3.get h1.lt (WO _) with ⟨h4,h5⟩ | ⟨e,he,w1,hw,h5⟩
 ·refine ⟨_,_,h5,Ev.refl _,.inl ⟨rfl,?_,hmap⟩⟩
  have h6:=h2.perm
  have e1:(leftOf es seen).toList = []:=WU (by simpa using h4)
  rw [e1,List.map_nil,W2] at h6
  have e2:(m.map λx=>MVal.val (κ:=κ) x.1) = (m.map Prod.fst).map MVal.val:=by rw [X8]; rfl
  rw [e2] at h6
  exact Hy (λa c=>val_inj) h6
 ·have hes:e∈es.toList:=by unfold leftOf at he; simp at he ⊢; exact he.1
  obtain ⟨k,hkm,hk⟩:=Tz h1 hes
  obtain ⟨hev,hst⟩:=St.setIter (h3.swap) hw (.mapIter (some b) cl (seen.push e.born) cl)
  have hnd:((leftOf es seen).toList.map (·.born)).Nodup:=by
   refine h1.nd.sublist ?_
   unfold leftOf
   rw [Array.toList_filter]
   exact List.Sublist.map _ List.filter_sublist
  have hout:=Hx e _ hnd he
  have e3:(leftOf es seen).toList.filter (λx=>decide (x.born≠e.born)) = (leftOf es (seen.push e.born)).toList:=by
   unfold leftOf
   rw [Array.toList_filter,Array.toList_filter,List.filter_filter]
   congr 1
   funext x
   simp only [Array.contains_push,ne_eq]
   rw [Xh]
   simp only [WL,WH,XO,Yu,Ya,ne_eq]
   constructor
   ·rintro ⟨a,c⟩; exact ⟨c,λe'=>a e'⟩
   ·rintro ⟨a,c⟩; exact ⟨λe'=>c e',a⟩
  rw [e3] at hout
  have hp:=h2.perm
  have hp2:(MVal.val k :: (leftOf es (seen.push e.born)).toList.map (·.key)).Perm ((leftOf es seen).toList.map (·.key)):=by
   have:=(hout.map (·.key)).symm
   rw [Xf,hk] at this
   exact this
  refine ⟨_,_,h5,hev,.inr ⟨k,e.val,hkm,by rw [hk],?_,vJ.2 ⟨es,cl,seen,e,h1,⟨?_⟩,hes,hk,rfl,hst.swap⟩⟩⟩
  ·have:=hp.length_eq
   have l2:=hp2.length_eq
   simp at this l2; omega
  ·refine List.Perm.trans ?_ hp
   rw [WZ,Xf,List.map_nil,WG]
   exact Yd _ hp2
theorem Mo {k:κ} {u:Value} (h:St w (FE b r m ks k u :: L)):aX P (Instr.entry (.pointer (some ⟨r,0,none⟩))) w λv w'=>v = .tuple #[MVal.val k,u]/\w' = w:=by
 obtain ⟨es,cl,seen,e,h1,h2,hes,hk,hu,h3⟩:=vJ.1 h
 have:=run_entry_at (P:=P) w r b cl seen es cl e h3.swap.get h3.get hes h1.nd
 rw [hk,hu] at this
 exact ⟨_,_,this,Ev.refl _,rfl,rfl⟩
end
section
variable {κ α : Type} [DecidableEq κ] {w:YC} {L:List ay} {b sz:Nat} {f:List α->List Value} {s t:κ}
abbrev Lq (α : Type):=(YB × Nat) × List α
def dO (q:Lq α):Value:=.slice q.1.1 q.2.length q.1.2
def dp (sz:Nat) (f:List α->List Value) (q:Lq α):ay:=own sz q.1.1 q.2.length q.1.2 (f q.2)
def mV (ps:List (κ × Lq α)):List (κ × Value):=ps.map λq=>(q.1,dO q.2)
def mO (sz:Nat) (f:List α->List Value) (ps:List (κ × Lq α)):List ay:=ps.map λq=>dp sz f q.2
def c_ (s:κ):List (κ × Lq α)->Option (Lq α)
 | []=>none
 | (a,q) :: m=>if s = a then some q else c_ s m
def gq (s:κ) (ps:List (κ × Lq α)):List α:=match c_ s ps with | some q=>q.2 | none=>[]
def j3 (s:κ) (q:Lq α):List (κ × Lq α)->List (κ × Lq α)
 | []=>[(s,q)]
 | (a,u) :: m=>if s = a then (s,q) :: m else (a,u) :: j3 s q m
theorem gv:∀ ps:List (κ × Lq α),assoc s (mV ps) = (c_ s ps).map dO
 | []=>rfl
 | (a,q) :: m=>by
  show (if s = a then some (dO q) else assoc s (mV m)) = _
  unfold c_
  split
  ·rfl
  ·exact gv m
theorem On (q:Lq α):∀ ps:List (κ × Lq α),mV (j3 s q ps) = bK s (dO q) (mV ps)
 | []=>rfl
 | (a,u) :: m=>by
  unfold j3
  show _ = (if s = a then (s,dO q) :: mV m else (a,dO u) :: bK s (dO q) (mV m))
  split
  ·rfl
  ·rw [<- On q m]; rfl
theorem Hz (q:Lq α):∀ ps:List (κ × Lq α),c_ t (j3 s q ps) = if t = s then some q else c_ t ps
 | []=>by simp [j3,c_]
 | (a,u) :: m=>by
  unfold j3
  by_cases h:s = a
  ·subst h
   by_cases ht:t = s <;> simp [c_,ht]
  ·rw [WB h]
   unfold c_
   rw [Hz q m]
   by_cases ht:t = a
   ·subst ht; simp [X2 h]
   ·simp [ht]
theorem jN (q:Lq α) (ps:List (κ × Lq α)):gq t (j3 s q ps) = if t = s then q.2 else gq t ps:=by
 unfold gq; rw [Hz]; by_cases h:t = s <;> simp [h]
theorem yS (q:Lq α):∀ ps:List (κ × Lq α),(j3 s q ps).map Prod.fst = if s∈ps.map Prod.fst then ps.map Prod.fst else ps.map Prod.fst ++ [s]
 | []=>by simp [j3]
 | (a,u) :: m=>by
  unfold j3
  by_cases h:s = a
  ·subst h; simp
  ·rw [WB h,Xf,yS q m]
   by_cases h2:s∈m.map Prod.fst
   ·simp [h,h2]
   ·simp [h,h2]
theorem FF (q:Lq α) {ps:List (κ × Lq α)} (h:(ps.map Prod.fst).Nodup):((j3 s q ps).map Prod.fst).Nodup:=by
 rw [yS]
 split
 ·exact h
 ·rename_i hn
  rw [Xb]
  exact ⟨h,by simp,λa ha c hc e=>by simp at hc; subst hc; subst e; exact hn ha⟩
theorem Ce {q:Lq α}:∀ {ps:List (κ × Lq α)},c_ s ps = some q->(s,q)∈ps
 | [],h=>by cases h
 | (a,u) :: m,h=>by
  unfold c_ at h
  split at h
  ·rename_i e; subst e; cases h; simp
  ·exact Yx _ (Ce h)
theorem Oo {ps:List (κ × Lq α)}:(c_ s ps).isSome = true↔s∈ps.map Prod.fst:=by
 induction ps with
 | nil=>simp [c_]
 | cons x m ih =>
  obtain ⟨a,u⟩:=x
  unfold c_
  by_cases h:s = a
  ·simp [h]
  ·rw [WB h,ih]; simp [h]
theorem HA (sz:Nat) (f:List α->List Value) (s:κ):∀ ps:List (κ × Lq α),
  (∃ q M,c_ s ps = some q/\(mO sz f ps).Perm (dp sz f q :: M)/\∀ q',(mO sz f (j3 s q' ps)).Perm (dp sz f q' :: M))\/(c_ s ps = none/\∀ q',(mO sz f (j3 s q' ps)).Perm (dp sz f q' :: mO sz f ps))
 | []=>.inr ⟨rfl,λq'=>.refl _⟩
 | (a,u) :: m=>by
  by_cases h:s = a
  ·refine .inl ⟨u,mO sz f m,by simp [c_,h],.refl _,λq'=>?_⟩
   simp only [j3,h,if_true]; exact .refl _
  ·rcases HA sz f s m with ⟨q,M,h1,h2,h3⟩ | ⟨h1,h2⟩
   ·refine .inl ⟨q,dp sz f u :: M,by simp [c_,h,h1],(List.Perm.cons _ h2).trans (.swap _ _ _),λq'=>?_⟩
    simp only [j3,h,if_false]
    exact (List.Perm.cons _ (h3 q')).trans (.swap _ _ _)
   ·refine .inr ⟨by simp [c_,h,h1],λq'=>?_⟩
    simp only [j3,h,if_false]
    exact (List.Perm.cons _ (h2 q')).trans (.swap _ _ _)
theorem mu (hf:f [] = []) {ps:List (κ × Lq α)} (h:St w (aG (mO sz f ps) :: L)) (s:κ):∃ (q:Lq α) (M:List ay),(assoc s (mV ps)).getD (.slice none 0 0) = dO q/\q.2 = gq s ps/\St w (dp sz f q :: aG M :: L) /\
  ∀ (w' : YC) (L' : List ay) (q' : Lq α),St w' (dp sz f q' :: aG M :: L')->St w' (aG (mO sz f (j3 s q' ps)) :: L'):=by
 have back:∀ (M:List ay) (q' : Lq α),(mO sz f (j3 s q' ps)).Perm (dp sz f q' :: M)->∀ (w' : YC) (L' : List ay),St w' (dp sz f q' :: aG M :: L')->St w' (aG (mO sz f (j3 s q' ps)) :: L'):=λM q' hp w' L' h=>by
  have h1:=St.flat.1 h.swap
  have h2:St w' ((dp sz f q' :: M) ++ L'):=h1.perm Xo
  exact St.flat.2 (h2.perm (hp.symm.append_right _))
 rcases HA sz f s ps with ⟨q,M,h1,h2,h3⟩ | ⟨h1,h2⟩
 ·refine ⟨q,M,by rw [gv,h1]; rfl,by unfold gq; rw [h1],?_,λw' L' q'=>back M q' (h3 q') w' L'⟩
  have h4:=(St.flat.1 h).perm (h2.append_right _)
  have h5:St w (M ++ (dp sz f q :: L)):=h4.perm Xo.symm
  exact (St.flat.2 h5).swap
 ·refine ⟨((none,0),[]),mO sz f ps,by rw [gv,h1]; rfl,by unfold gq; rw [h1],?_,λw' L' q'=>back _ q' (h2 q') w' L'⟩
  unfold dp; rw [hf]; exact az sz h
theorem Cf:∀ {L:List ay} {i:Nat} (h:i < L.length),oU L i = L[i]
 | [],i,h=>by simp at h
 | A :: L,0,_=>rfl
 | A :: L,i + 1,h=>by
  show oU L i = _
  rw [Cf (L:=L) (by simpa using h)]; rfl
theorem K3 {ps:List (κ × Lq α)} {h:Hp} (hs:aC (aG (mO sz f ps) :: L) h) {q:Lq α} (hq:c_ s ps = some q):∃ h1,sub h1 h/\dp sz f q h1:=by
 have h2:=kM.1 hs
 have hm:dp sz f q∈mO sz f ps:=WS.2 ⟨(s,q),Ce hq,rfl⟩
 obtain ⟨i,hi⟩:=W3 hm
 have hlt:=(Wt.1 hi).1
 obtain ⟨h1,s1,ha⟩:=cR i (by rw [WA]; omega) h2
 have e:oU (mO sz f ps ++ L) i = dp sz f q:=by
  rw [Cf (by rw [WA]; omega),List.getElem_append_left hlt]
  exact (Wt.1 hi).2
 rw [e] at ha
 exact ⟨h1,s1,ha⟩
end
section
variable {κ : Type} [DecidableEq κ] [MVal κ] {P:Program} {Ty:TypeId->Option cU} {w:YC} {b:Nat} {m:List (κ × Value)} {h:Hp}
theorem vK {α : Type} {sz:Nat} {f:List α->List Value} {L:List ay} {s:κ} {ps:List (κ × Lq α)} {M:List ay} (back:∀ (w' : YC) (L' : List ay) (q' : Lq α),St w' (dp sz f q' :: aG M :: L')->St w' (aG (mO sz f (j3 s q' ps)) :: L'))
  {o:YB} {n c:Nat} (us:List α) {vs:List Value} (hn:n = us.length) (hv:vs = f us) (h:St w (mapA b (bK s (.slice o n c) (mV ps)) :: own sz o n c vs :: aG M :: L)) :
  St w (mapA b (mV (j3 s ((o,c),us) ps)) :: aG (mO sz f (j3 s ((o,c),us) ps)) :: L):=by
 subst hn; subst hv
 have e:mV (j3 s ((o,c),us) ps) = bK s (.slice o us.length c) (mV ps):=On _ _
 rw [e]
 exact (back w _ ((o,c),us) (h.pick 3 [1,2,0])).swap
theorem yT {A:ay} (hA:A h):aC [A] h:=⟨h,λ_=>none,λ_=>.inr rfl,sub.refl _,λ_ _ h=>(nomatch h),hA,trivial⟩
theorem dI {h' : Hp} (s:sub h h') (hm:mapA b m h):mapA b m h':=by
 obtain ⟨es,cl,h1,h2⟩:=hm
 exact ⟨es,cl,s _ _ h1,h2⟩
theorem dj (hm:mapA b m h) (s:sub h (hp w)) (hT:eC P Ty) {t kt et:TypeId} {i:cU} {z:Value} (hk:aj Ty t = .map kt et) (hkt:sD P kt κ) (hi:Ty et = some i) (hz:i.zero = some z) (k:κ) :
  aX P (Instr.lookup t (.map (some b)) (MVal.val k) false) w λv w'=>v = (assoc k m).getD z/\w' = w :=
 jK (L:=[]) hT hk hkt hi hz (yT (dI s hm)) k
end
section
variable {κ : Type} [DecidableEq κ] [xd κ] {P:Program} {Ty:TypeId->Option cU} {w:YC} {b:Nat} {m:List (κ × Value)} {h:Hp}
theorem HB (hm:mapA b m h) (s:sub h (hp w)) (hT:eC P Ty) {t kt et:TypeId} {i:cU} {z:Value} (hk:aj Ty t = .map kt et) (hkt:P.underlying kt = some (xd.kd κ)) (hi:Ty et = some i) (hz:i.zero = some z) (k:κ) :
  aX P (Instr.lookup t (.map (some b)) (MVal.val k) false) w λv w'=>v = (assoc k m).getD z/\w' = w:=dj hm s hT hk (sD.BQ hkt) hi hz k
end
def MY (g:af) (j:Nat) (s:Int):List Nat:=(List.range j).filter λi=>decide ((g.prods[i]?.map aH.left) = some s)
abbrev Cg (g:af) (s:Int):List Nat:=MY g g.prods.length s
theorem sZ {g:af} {j:Nat} {p:aH} (h:g.prods[j]? = some p) (s:Int):MY g (j + 1) s = MY g j s ++ if s = p.left then [j] else []:=by
 unfold MY
 rw [XD,W5]
 congr 1
 by_cases e:s = p.left
 ·subst e; simp [h]
 ·simp [h,e,X2 e]
theorem FG (g:af) (j:Nat) (s:Int):(MY g j s).length<=j:=by
 have:=W6 (λi=>decide ((g.prods[i]?.map aH.left) = some s)) (List.range j)
 rwa [XN] at this
theorem pq {g:af} {s:Int} {i:Nat}:i∈Cg g s↔∃ p,g.prods[i]? = some p/\p.left = s:=by
 unfold Cg MY
 rw [W9,WY,WH]
 constructor
 ·rintro ⟨h1,h2⟩
  refine ⟨g.prods[i],Wv h1,?_⟩
  rw [Wv h1] at h2
  exact Option.some.inj h2
 ·rintro ⟨p,h1,rfl⟩
  exact ⟨(Wt.1 h1).1,by rw [h1]; rfl⟩
structure SA (h:Hp) (g:af) (k:Nat):Prop where
 ex:∃ (x:GA) (kb:Nat) (m:List (Int × Value)),av h (aM k) (x.cells ++ [.map (some kb)])/\gR h g x/\mapA kb m h /\
  ∀ s:Int,∃ (a:YB) (c:Nat),(assoc s m).getD (.slice none 0 0) = .slice a (Cg g s).length c/\a_ h ((Cg g s).map Int.ofNat) a (Cg g s).length
theorem SA.mono {h h' : Hp} {g:af} {k:Nat} (s:sub h h') (r:SA h g k):SA h' g k:=by
 obtain ⟨x,kb,m,h1,h2,h3,h4⟩:=r.ex
 exact ⟨x,kb,m,h1.mono s,h2.mono s,dI s h3,λz=>by obtain ⟨a,c,e,r⟩:=h4 z; exact ⟨a,c,e,r.mono s⟩⟩
end Go.V
namespace Go.Proofs.YtndaepmjkbmjmaaGreatDoor
variable {w:YC} {L:List ay} {a:YB} {l c:Nat} {xs:List ag} {g:af} {x:GA}
theorem UO (hg:gR (hp w) g x) (hb:ik g):aA Tryz.prog Oc [.agg ⟨x.cells⟩] w λv w'=>∃ (k kb:Nat) (ps:List (Int × Lq Int)),v = .pointer (some (aM k))/\(∀ s,gq s ps = (Cg g s).map Int.ofNat)/\St w' (aK k (x.cells ++ [.map (some kb)]) :: mapA kb (mV ps) :: aG (mO 1 iv ps) :: all w):=by
 refine JC ?_
 refine cN hg λk1 w1 gw hg B=>?_
 have pl:=hg.p.1
 obtain ⟨_,_,_,b4,_,_,_⟩:=hb
 refine ⟨_,_,_,_,_,_,_,_,_,_,_,_,_,B.row (sub.refl _),?_⟩
 refine ml (St.all w1) λkb w2 h=>?_
 have h:=dD (κ:=Int) h
 refine ah (vs:=x.cells ++ [.map (some kb)]) h λkm w3 h=>?_
 refine ⟨_,_,_,B.c4 (aU 2 h.l),λz w'=>∃ (j:Nat) (ps:List (Int × Lq Int)),z = j/\j<=x.pl/\(∀ s,gq s ps = (MY g j s).map Int.ofNat)/\St w' (aK km (x.cells ++ [.map (some kb)]) :: mapA kb (mV ps) :: aG (mO 1 iv ps) :: all w1),λz _=>x.pl - z.toNat,
  ⟨0,[],rfl,WC _,λs=>rfl,(show St w3 (aK km (x.cells ++ [.map (some kb)]) :: mapA kb ([] : List (Int × Value)) :: aG [] :: all w1) from by
   have h:=h.pick 2 [1,0]
   exact ((St.flat (M:=[])).2 h).pick 3 [2,1,0])⟩,?_⟩
 clear h
 rintro _ _ w4 ⟨j,ps,rfl,hj,hps,h⟩
 have s4:sub (hp w1) (hp w4):=aU 3 h.l
 refine ae (λh1=>?_) λh1=>?_
 rotate_left
 ·have h1:j = x.pl:=by have:=Ws h1; omega
  subst h1
  rw [<- pl] at hps
  exact ⟨km,kb,ps,rfl,hps,St.on (N:=[_,_,_]) h (bC gw)⟩
 have h1:j < x.pl:=by have:=Wr h1; omega
 obtain ⟨p,ad,vs,hp1,hpa,hp2,ra,rl,rc,rfl,hrc,hp3⟩:=hg.p.get h1
 refine aq hpa h1 ⟨_,_,_,_,_,hp2.at s4 rfl,ah h λk16 w5 h=>bu h rfl (by simp [aV]) λw6 h=>?_⟩
 intro w7 hd
 have h:=h.eq (aB hd)
 have cm:∀ {u:YC} {L' : List ay},St u (aK km (x.cells ++ [.map (some kb)]) :: L')->u.cell? ((aM km).add 5) = some (.map (some kb)):=λh=>(ai 0 h.l).cell (sub.refl _) (j:=5) rfl
 have cp:∀ {u:YC} {L' : List ay},St u (aK k16 [.int .i64 p.left,.slice ra rl rc,.int .i64 p.level] :: L')->u.cell? (aM k16) = some (.int .i64 p.left):=λh=>(ai 0 h.l).cell0 (sub.refl _)
 refine ⟨λu=>u.cell? ((aM km).add 5) = some (.map (some kb))/\u.cell? (aM k16) = some (.int .i64 p.left),⟨cm (h.pick 2 [1]),cp h⟩,_,λu hu=>hu.1,_,λu hu=>hu.2,_,λu hu=>hu.1,_,λu hu=>hu.2,?_,?_⟩
 ·refine (bZ (κ:=Int) aQ (rfl:aj Ty _ = .map _ _) bB rfl rfl (h.pick 3 [2]) p.left).mono ?_
  rintro _ _ ⟨rfl,rfl⟩
  obtain ⟨q,M,e1,e2,hq,back⟩:=mu rfl (h.pick 4 [3,0,1,2]) p.left
  have hql:q.2.length<=j:=by rw [e2,hps,WE]; exact FG _ _ _
  refine ⟨_,_,_,e1,⟨cm (hq.pick 4 [3]),cp (hq.pick 3 [2])⟩,ah hq λk19 w13 h=>⟨⟨cm (h.pick 5 [4]),cp (h.pick 4 [3])⟩,?_⟩⟩
  refine (aN (us:=iv q.2) aQ (rfl:aj Ty _ = .slice _) (rfl:aj Ty _ = .slice _) rfl rfl rfl h rfl (by simp [aV]) (by show (q.2.length + 1) * 8<=_; omega) (by omega)).mono ?_
  rintro _ w14 ⟨o,c',rfl,h⟩
  refine ⟨_,_,_,rfl,⟨cm (h.pick 5 [4]),cp (h.pick 4 [3])⟩,(cW (κ:=Int) aQ (rfl:aj Ty _ = .map _ _) bB (h.pick 7 [5,0,2,4,6]) p.left _).mono ?_⟩
  rintro _ w15 h
  have h:=vK back (q.2 ++ [(j:Int)]) (by simp) (by simp [iv]) h
  exact ⟨⟨by omega,by omega⟩,⟨j + 1,_,by simp,h1,λs=>by rw [jN,sZ hp1,e2,hps]; by_cases e:s = p.left <;> simp [e,hps],h.pick 4 [2,0,1,3]⟩,bx h1⟩
 ·refine ah h λk22 w16 h=>⟨⟨cm (h.pick 3 [2]),cp (h.pick 2 [1])⟩,(bZ (κ:=Int) aQ (rfl:aj Ty _ = .map _ _) bB rfl rfl (h.pick 4 [3]) p.left).mono ?_⟩
  rintro _ _ ⟨rfl,rfl⟩
  obtain ⟨q,M,e1,e2,hq,back⟩:=mu rfl (h.pick 5 [4,0,1,2,3]) p.left
  have hql:q.2.length<=j:=by rw [e2,hps,WE]; exact FG _ _ _
  refine ⟨_,_,_,e1,⟨cm (hq.pick 5 [4]),cp (hq.pick 4 [3])⟩,?_⟩
  refine (aN (us:=iv q.2) aQ (rfl:aj Ty _ = .slice _) (rfl:aj Ty _ = .slice _) rfl rfl rfl (hq.pick 3 [2,0,1]) rfl (by simp [aV]) (by show (q.2.length + 1) * 8<=_; omega) (by omega)).mono ?_
  rintro _ w14 ⟨o,c',rfl,h⟩
  refine ⟨_,_,_,rfl,⟨cm (h.pick 5 [4]),cp (h.pick 4 [3])⟩,(cW (κ:=Int) aQ (rfl:aj Ty _ = .map _ _) bB (h.pick 7 [5,0,2,4,6]) p.left _).mono ?_⟩
  rintro _ w15 h
  have h:=vK back (q.2 ++ [(j:Int)]) (by simp) (by simp [iv]) h
  exact ⟨⟨by omega,by omega⟩,⟨j + 1,_,by simp,h1,λs=>by rw [jN,sZ hp1,e2,hps]; by_cases e:s = p.left <;> simp [e,hps],h.pick 4 [2,0,1,3]⟩,bx h1⟩
theorem UP {h:Hp} {k kb:Nat} {ps:List (Int × Lq Int)} (hg:gR h g x) (hps:∀ s,gq s ps = (Cg g s).map Int.ofNat) (hs:aC (aK k (x.cells ++ [.map (some kb)]) :: mapA kb (mV ps) :: aG (mO 1 iv ps) :: L) h):SA h g k:=by
 obtain ⟨hm,sm,hA⟩:=Qg 1 hs
 refine ⟨x,kb,mV ps,ai 0 hs,hg,dI sm hA,λs=>?_⟩
 have e:=hps s
 cases hq:c_ s ps with
 | none =>
  have e0:gq s ps = []:=by unfold gq; rw [hq]
  rw [e0] at e
  have e1:Cg g s = []:=List.map_eq_nil_iff.1 e.symm
  rw [gv,hq,e1]
  exact ⟨none,0,rfl,a_.nil⟩
 | some q =>
  have e0:gq s ps = q.2:=by unfold gq; rw [hq]
  rw [e0] at e
  obtain ⟨hq1,sq,ho⟩:=K3 (bw (bw hs)) hq
  have hl:q.2.length = (Cg g s).length:=by rw [e,WE]
  refine ⟨q.1.1,q.1.2,by rw [gv,hq]; show dO q = _; unfold dO; rw [hl],?_⟩
  rw [<- e,<- hl]
  exact (dS rfl (cf ho)).mono sq
def xz (g:af) (I:List ag):Prop:=∀ x∈I,jZ g x
theorem HC {k:Nat} {y:ag} (hm:SA (hp w) g k) (hf:jZ g y) :
  aA Tryz.prog vH [.pointer (some (aM k)),.agg (cj y).toArray] w λv w'=>v = .int .i64 (cO g y)/\Gr w w':=by
 obtain ⟨x,kb,m,h1,hg,_,_⟩:=hm.ex
 obtain ⟨h2,h3,p,hpr,h4⟩:=hf
 refine sU (ah (St.all w) λk1 w1 h=>?_)
 intro w2 hd
 have h:=h.eq (aB hd)
 have g2:Gr w w2:=h.aZ
 have r2:av (hp w2) (aM k1) [.int .i64 y.prod,.int .i64 y.dot]:=ai 0 h.l
 obtain ⟨n,hn⟩ : ∃ n:Nat,y.prod = n:=⟨y.prod.toNat,by omega⟩
 obtain ⟨d,hdn⟩ : ∃ d:Nat,y.dot = d:=⟨y.dot.toNat,by omega⟩
 have hpn:g.prods[n]? = some p:=by rw [hn] at hpr; exact hpr
 have hnl:n < x.pl:=by have:=(Wt.1 hpn).1; have:=hg.p.1; omega
 obtain ⟨p',pad,vs,hp1,hpa,hp2,ra,rl,rc,rfl,hrc,hp3⟩:=hg.p.get hnl
 rw [hpn] at hp1; cases hp1
 have hrl:=hp3.1
 refine ⟨λu=>Gr w2 u,Gr.refl _,x.pa,x.pl,x.pc,λu s=>h1.cell (sub.trans g2 s) (j:=4) rfl,_,λu s=>r2.cell0 s,?_⟩
 rw [hn]
 refine aq hpa hnl ⟨_,_,_,λu s=>hp2.cell (sub.trans g2 s) (j:=1) rfl,_,r2.cell (sub.refl _) (j:=1) rfl,?_⟩
 rw [jM hpr,hdn,WQ]
 refine ae (λh5=>?_) λh5=>?_
 ·have h5:d = rl:=by have:=eq_of_beq h5; omega
  rw [Ww,WR (by omega)]
  exact ⟨rfl,g2⟩
 ·have h5:d≠rl:=λe=>by subst e; simp at h5
  obtain ⟨v,ad,hv,hva,cv⟩:=hp3.cF (i:=d) (by omega)
  refine ⟨_,(r2.cell (sub.refl _) (j:=1) rfl),?_⟩
  show idx ra rl y.dot 1 _
  rw [hdn]
  refine aw hva (by omega) ⟨v,cv _ g2,?_⟩
  rw [Ww,hv]
  exact ⟨rfl,g2⟩
end Go.Proofs.YtndaepmjkbmjmaaGreatDoor
namespace Go.V
theorem UQ {n:Nat} (h:(n + 1) * 16<=140737488355328):n < 9223372036854775807:=by omega
theorem jl {α : Type}:∀ {l m:List α},l.Nodup->(∀ x∈l,x∈m)->l.length<=m.length
 | [],m,_,_=>WC _
 | a :: l,m,h,hs=>by
  obtain ⟨m1,m2,rfl⟩:=Yq (hs a (by simp))
  rw [Xp] at h
  have:=jl (l:=l) (m:=m1 ++ m2) h.2 λx hx=>by
   have h1:=hs x (by simp [hx])
   rw [Wy,WM] at h1
   rw [Wy]
   rcases h1 with h1 | rfl | h1
   ·exact .inl h1
   ·exact absurd hx h.1
   ·exact .inr h1
  simp at this ⊢; omega
def El (i:Nat):ag:=⟨(i:Int),0⟩
theorem nZ.or {g:af} {I:List ag} {x:ag} (h:nZ g I x):x∈I\/∃ i,i < g.prods.length/\x = El i:=by
 cases h with
 | base h=>exact .inl h
 | step _ _ hp _=>exact .inr ⟨_,(Wt.1 hp).1,rfl⟩
theorem xB (g:af) (I:List ag):(cls g I).length<=I.length + g.prods.length:=by
 have:=jl (m:=I ++ (List.range g.prods.length).map El) (xv (g:=g) (I:=I)).nodup λx hx=>by
  rw [Wy]
  rcases (iN.1 hx).or with h | ⟨i,hi,rfl⟩
  ·exact .inl h
  ·exact .inr (WS.2 ⟨i,WY.2 hi,rfl⟩)
 simpa using this
theorem s8 {h:Hp} {xs:List ag} {a:YB} {l:Nat} (r:a_ h xs a l):eJ a (tv xs) h:=by
 cases xs with
 | nil=>exact .inl rfl
 | cons x0 xs' =>
  obtain ⟨ad,vs,rfl,_⟩:=r.2 0 x0 rfl
  refine .inr ⟨ad,rfl,yQ (n:=2) (λ_=>rfl) _ ad λi x hx=>?_⟩
  obtain ⟨ad',vs,e,h2,h3⟩:=r.2 i x hx
  cases e
  rw [show vs = cj x from h3] at h2
  exact h2
theorem Ch (xs:List ag):∀ v∈tv xs,aV v = true:=λv hv=>by
 obtain ⟨x,_,hv⟩:=XS.1 hv
 rcases WM.1 hv with rfl | hv
 ·rfl
 ·rw [WW] at hv; subst hv; rfl
theorem uf {P:Program} {Ty:TypeId->Option cU} {w:YC} {L:List ay} {e e' : TypeId} (hT:eC P Ty) {t tx ty:TypeId} {i:cU} {z:Value} (hk:aj Ty t = .slice e) (hkx:aj Ty tx = .slice e') (hi:Ty e = some i) (hz:i.zero = some z) (hzs:(cellsOf z).length = i.size)
  {a a2:YB} {l c n c2:Nat} {us news:List Value} (h:St w (own i.size a l c us :: L)) (hn:news.length = n * i.size) (h0:0 < i.size) (hx:eJ a2 news (hp w)) (h1:∀ u∈news,aV u = true) (hb:(l + n) * i.bytes<=140737488355328) (h63:l + n<=9223372036854775807) :
  aX P (Builtin.append_ (Array.mk [t,tx]) ty (Array.mk [.slice a l c,.slice a2 n c2])) w λv w'=>∃ a' c',v = .slice a' (l + n) c'/\St w' (own i.size a' (l + n) c' (us ++ news) :: L):=by
 refine iH hT hk hi hz hzs h (n:=n) (news:=news) (fx hT hkx hn ?_ h1) hb h63
 rcases hx with rfl | ⟨ad,rfl,hc⟩
 ·left
  rcases Nat.eq_zero_or_pos n with h | h
  ·exact h
  ·have:=Nat.mul_pos h h0; simp at hn; omega
 ·exact .inr ⟨ad,rfl,λj u hj=>pg (hc j u hj)⟩
structure vL (g:af) (I:List ag) (m:List (Int × Value)) (H:List Int) (i:Nat) (ls:List ag):Prop where
 nd:H.Nodup
 eq:ls = I ++ (H.flatMap (Cg g)).map El
 of:∀ s∈H,0<=s/\∃ y,nZ g I y/\cO g y = s
 mp:∀ s,(assoc s m).getD (.int .i64 0) = .int .i64 (if s∈H then 1 else 0)
 dn:∀ (j:Nat) y,j < i->ls[j]? = some y->0<=cO g y->cO g y∈H
section
variable {g:af} {I ls:List ag} {m:List (Int × Value)} {H:List Int} {i:Nat}
theorem K4:∀ {H:List Int},H.Nodup->(H.flatMap (Cg g)).Nodup
 | [],_=>by simp
 | s :: H,h=>by
  rw [Xp] at h
  rw [Xc,Xb]
  refine ⟨List.nodup_range.filter _,K4 h.2,λa ha b hb e=>?_⟩
  subst e
  obtain ⟨t,ht,hb⟩:=XS.1 hb
  obtain ⟨p,h1,rfl⟩:=pq.1 ha
  obtain ⟨q,h2,rfl⟩:=pq.1 hb
  rw [h1] at h2; cases h2
  exact h.1 ht
theorem vL.len (h:vL g I m H i ls):ls.length<=I.length + g.prods.length:=by
 have:=jl (m:=List.range g.prods.length) (K4 (g:=g) h.nd) λx hx=>by
  obtain ⟨t,_,hb⟩:=XS.1 hx
  obtain ⟨p,h1,_⟩:=pq.1 hb
  exact WY.2 (Wt.1 h1).1
 rw [XN] at this
 rw [h.eq,WA,WE]; omega
theorem vL.sound (h:vL g I m H i ls) {x:ag} (hx:x∈ls):nZ g I x:=by
 rw [h.eq,Wy] at hx
 rcases hx with hx | hx
 ·exact .base hx
 ·obtain ⟨n,hn,rfl⟩:=WS.1 hx
  obtain ⟨s,hs,hn⟩:=XS.1 hn
  obtain ⟨p,hp,e⟩:=pq.1 hn
  obtain ⟨h0,y,hy,e2⟩:=h.of s hs
  exact .step hy (by omega) hp (by rw [e,e2])
theorem vL.start:vL g I [] [] 0 I:=⟨by simp,by simp,λs hs=>by simp at hs,λs=>by simp [assoc],λj y hj=>by omega⟩
theorem vL.skip (h:vL g I m H i ls) {y:ag} (hy:ls[i]? = some y) (hs:cO g y < 0\/cO g y∈H):vL g I m H (i + 1) ls :=
 ⟨h.nd,h.eq,h.of,h.mp,λj z hj hz h0=>by
  by_cases e:j = i
  ·subst e; rw [hy] at hz; cases hz
   rcases hs with hs | hs
   ·omega
   ·exact hs
  ·exact h.dn j z (by omega) hz h0⟩
theorem vL.more (h:vL g I m H i ls) {y:ag} (hy:ls[i]? = some y) (h0:0<=cO g y) (hs:cO g y∉H):vL g I (bK (cO g y) (.int .i64 1) m) (H ++ [cO g y]) (i + 1) (ls ++ (Cg g (cO g y)).map El):=by
 have hm:=Wu hy
 refine ⟨?_,?_,λs hs2=>?_,λs=>?_,λj z hj hz h1=>?_⟩
 ·rw [Xb]
  exact ⟨h.nd,by simp,λa ha b hb e=>by simp at hb; subst hb; subst e; exact hs ha⟩
 ·rw [Xe,WZ,<- WG,<- h.eq]; simp
 ·rw [Wy,WW] at hs2
  rcases hs2 with hs2 | rfl
  ·exact h.of s hs2
  ·exact ⟨h0,y,h.sound hm,rfl⟩
 ·rw [dC]
  by_cases e:s = cO g y
  ·simp [e]
  ·rw [WB e,h.mp s]; simp [e]
 ·rw [Wy,WW]
  have hjl:j < ls.length:=by have:=(Wt.1 hy).1; omega
  rw [WI hjl] at hz
  by_cases e:j = i
  ·subst e; rw [hy] at hz; cases hz; exact .inr rfl
  ·exact .inl (h.dn j z (by omega) hz h1)
theorem vL.fin (h:vL g I m H i ls) (hi:i = ls.length):lay ls = cls g I:=by
 refine KW (fC _) λx=>?_
 rw [eO]
 refine ⟨h.sound,λhx=>?_⟩
 induction hx with
 | base hx=>rw [h.eq]; exact Yh _ hx
 | @step y k p _ h1 h2 h3 ih =>
  obtain ⟨j,hj⟩:=W3 ih
  have:=h.dn j y (by have:=(Wt.1 hj).1; omega) hj h1
  rw [h.eq,Wy]
  exact .inr (WS.2 ⟨k,XS.2 ⟨_,this,pq.2 ⟨p,h2,h3⟩⟩,rfl⟩)
end
end Go.V
namespace Go.Proofs.YtndaepmjkbmjmaaGreatDoor
variable {w:YC} {L:List ay} {a:YB} {l c:Nat} {I:List ag} {g:af}
theorem Q8 (hr:a_ (hp w) I a l) (hb:l * 16<=140737488355328):aA Tryz.prog iA [.slice a l c] w λv w'=>∃ o c',v = .slice o l c'/\St w' (own 2 o l c' (tv I) :: all w):=by
 have hl:=hr.1
 refine gm (ae (λh=>?_) λh=>?_)
 ·have ha:a = none:=by simpa using h
  subst ha
  have hI:I = []:=by
   cases I with
   | nil=>rfl
   | cons x _=>obtain ⟨ad,_,e,_⟩:=hr.2 0 x rfl; cases e
  subst hI
  have:l = 0:=hl.symm
  subst this
  exact ⟨_,_,rfl,az 2 (St.all w)⟩
 ·refine ah (St.all w) λk w1 h=>?_
  have g1:Gr w w1:=h.aZ
  have h:St w1 (own 2 (some (aM k)) 0 0 [] :: all w):=iD (cs:=[]) h rfl rfl (WO _)
  refine (uf (us:=[]) (news:=tv I) aQ (rfl:aj Ty _ = .slice _) (rfl:aj Ty _ = .slice _) rfl rfl rfl h (by rw [dH,hl]) (by show 0 < 2; decide) (s8 (hr.mono g1)) (Ch I) (by show (0 + l) * 16<=_; omega) (by omega)).mono ?_
  rintro _ w2 ⟨o,c',rfl,h⟩
  refine ⟨_,_,_,rfl,o,c',by simp,?_⟩
  have h2:St w2 (own 2 o (0 + l) c' (tv I) :: all w):=h
  rwa [Xx] at h2
theorem Mp {k:Nat} (hm:SA (hp w) g k) (hr:a_ (hp w) I a l) (hf:xz g I) (hb:(l + g.prods.length + 1) * 16<=140737488355328) :
  aA Tryz.prog uF [.pointer (some (aM k)),.slice a l c] w λv w'=>∃ o,v = .slice o (cls g I).length (cls g I).length/\St w' (own 2 o (cls g I).length (cls g I).length (tv (cls g I)) :: all w):=by
 have hl:=hr.1
 refine qL ((Q8 hr (by omega)).mono ?_)
 rintro _ w1 ⟨o,c',rfl,h⟩
 refine ⟨_,_,_,rfl,ml h λkh w2 h=>?_⟩
 have h:=dD (κ:=Int) h
 refine ⟨λo n c z w'=>∃ (i:Nat) (ls:List ag) (m:List (Int × Value)) (H:List Int),z = i/\n = ls.length/\i<=ls.length/\vL g I m H i ls/\St w' (own 2 o n c (tv ls) :: mapA kh m :: all w),λ_ _ _ z _=>(l + g.prods.length) - z.toNat,
  ⟨0,I,[],[],rfl,hl.symm,WC _,.start,h.pick 2 [1,0]⟩,?_⟩
 clear h
 rintro _ o _ c2 _ w3 ⟨i,ls,m,H,rfl,rfl,hi,hC,h⟩
 have hlen:=hC.len
 rw [hl] at hlen
 refine ae (λh1=>?_) λh1=>?_
 rotate_left
 ·have h1:i = ls.length:=by have:=Ws h1; omega
  refine (Ol h (by omega)).mono ?_
  rintro _ w12 ⟨a',rfl,h⟩
  rw [hC.fin h1] at h ⊢
  exact ⟨_,_,_,rfl,_,rfl,h.pick 3 [0,2]⟩
 have h1:i < ls.length:=by have:=Wr h1; omega
 obtain ⟨y,ad,hy,rfl,cy⟩:=cr (cq h) h1
 have hym:=Wu hy
 have hyf:jZ g y:=(hC.sound hym).fit hf
 have s3:sub (hp w) (hp w3):=aU 2 h.l
 refine aq rfl h1 ⟨_,_,cy _ (sub.refl _),(HC (hm.mono s3) hyf).mono ?_⟩
 rintro _ w4 ⟨rfl,g4⟩
 have h:=h.gr g4
 refine ⟨_,rfl,ae (λh2=>?_) λh2=>?_⟩
 ·have h2:=Wr h2
  exact ⟨⟨by omega,by omega⟩,⟨i + 1,ls,m,H,by simp,rfl,h1,hC.skip hy (.inl h2),h⟩,bx (by omega)⟩
 have h2:0<=cO g y:=by have:=Ws h2; omega
 refine (bZ (κ:=Int) aQ (rfl:aj Ty _ = .map _ _) bB rfl rfl (h.pick 3 [1,0,2]) _).mono ?_
 rintro _ _ ⟨rfl,rfl⟩
 refine ⟨_,hC.mp _,ae (λh3=>?_) λh3=>?_⟩
 ·have h3:cO g y∈H:=by
   have:=Wr h3
   refine Xv λhn=>?_
   rw [WB hn] at this; omega
  exact ⟨⟨by omega,by omega⟩,⟨i + 1,ls,m,H,by simp,rfl,h1,hC.skip hy (.inr h3),h⟩,bx (by omega)⟩
 have h3:cO g y∉H:=λhn=>by
  have:=Ws h3
  rw [WJ hn] at this; omega
 refine (bZ (κ:=Int) aQ (rfl:aj Ty _ = .map _ _) bB rfl rfl (h.pick 3 [1,0,2]) _).mono ?_
 rintro _ _ ⟨rfl,rfl⟩
 refine ⟨_,hC.mp _,⟨by split <;> omega,by split <;> omega⟩,(cW (κ:=Int) aQ (rfl:aj Ty _ = .map _ _) bB (h.pick 3 [1,0,2]) _ _).mono ?_⟩
 rintro _ w7 h
 rw [WB h3,show (0:Int) + 1 = 1 from rfl] at h
 have hC2:=hC.more hy h2 h3
 have hlen2:=hC2.len
 rw [hl,WA,WE] at hlen2
 have s7:sub (hp w) (hp w7):=aU 2 h.l
 obtain ⟨x,kb,mb,r1,hg,hmb,hby⟩:=hm.ex
 obtain ⟨ab,cb,eb,rb⟩:=hby (cO g y)
 refine ⟨_,r1.cell s7 (j:=5) rfl,(HB (κ:=Int) hmb s7 aQ (rfl:aj Ty _ = .map _ _) bB rfl rfl _).mono ?_⟩
 rintro _ w8 ⟨rfl,e8⟩
 rw [e8]
 refine ⟨_,_,_,eb,?_⟩
 refine ⟨λo n c z w'=>∃ j:Nat,z = j/\j<=(Cg g (cO g y)).length/\n = ls.length + j/\St w' (own 2 o n c (tv (ls ++ ((Cg g (cO g y)).take j).map El)) :: mapA kh (bK (cO g y) (.int .i64 1) m) :: all w),λ_ _ _ z _=>(Cg g (cO g y)).length - z.toNat,
  ⟨0,rfl,WC _,rfl,?_⟩,?_⟩
 ·rw [List.take_zero,List.map_nil,W2]; exact h.pick 3 [1,0,2]
 clear h
 rintro _ o _ c9 _ w9 ⟨j,rfl,hj,rfl,h⟩
 have s9:sub (hp w) (hp w9):=aU 2 h.l
 refine ae (λh4=>?_) λh4=>?_
 rotate_left
 ·have h4:j = (Cg g (cO g y)).length:=by have:=Ws h4; omega
  subst h4
  rw [WT] at h
  exact ⟨⟨by omega,by omega⟩,⟨i + 1,_,_,_,by simp,by simp,by rw [WA]; exact Nat.le_add_right_of_le h1,hC2,h⟩,bx (Yf h1 hlen)⟩
 have h4:j < (Cg g (cO g y)).length:=by have:=Wr h4; omega
 obtain ⟨n,hn⟩ : ∃ n,(Cg g (cO g y))[j]? = some n:=⟨_,Wv h4⟩
 obtain ⟨v,adb,hv,hab,cb⟩:=rb.cF h4
 have hv2:v = (n:Int):=by rw [Wx,hn] at hv; exact (Option.some.inj hv).symm
 subst hv2
 have hz1:(ls.length + j + 1) * 16<=140737488355328:=W0 (X7 16 (Nat.succ_le_succ (W0 (Nat.add_le_add_left (Nat.le_of_lt h4) _) hlen2))) hb
 have hz2:=UQ hz1
 clear hlen hlen2 hC2 hby hmb
 refine aw hab h4 ⟨_,cb _ s9,ah h λk10 w10 h=>?_⟩
 refine (aN (us:=tv (ls ++ ((Cg g (cO g y)).take j).map El)) aQ (rfl:aj Ty _ = .slice _) (rfl:aj Ty _ = .slice _) rfl rfl rfl h rfl (by simp [aV]) hz1 hz2).mono ?_
 rintro _ w11 ⟨o6,c11,rfl,h⟩
 refine ⟨_,_,_,rfl,⟨by omega,by omega⟩,⟨j + 1,by simp,h4,rfl,?_⟩,bx h4⟩
 have e:tv (ls ++ ((Cg g (cO g y)).take (j + 1)).map El) = tv (ls ++ ((Cg g (cO g y)).take j).map El) ++ [.int .i64 (n:Int),.int .i64 0]:=by
  rw [Wz,hn,XC,WZ,<- WG,mR]; rfl
 rw [e]
 exact h.pick 4 [0,2,3]
def dP (g:af) (K:List ag) (s:Int):List ag:=(K.filter λx=>decide (cO g x = s)).map λx=>⟨x.prod,x.dot + 1⟩
theorem Ci {g:af} {K:List ag} {x:ag} {s:Int}:dP g (K ++ [x]) s = if s = cO g x then dP g K s ++ [⟨x.prod,x.dot + 1⟩] else dP g K s:=by
 unfold dP
 rw [W5,WZ]
 by_cases e:s = cO g x
 ·simp [e]
 ·simp [e,X2 e]
theorem ug (g:af) (K:List ag) (s:Int):(dP g K s).length<=K.length:=by
 unfold dP; rw [WE]; exact W6 _ _
theorem Mq {k:Nat} (hm:SA (hp w) g k) (hr:a_ (hp w) I a l) (hf:xz g I) (hb:(l + g.prods.length + 1) * 16<=140737488355328) (hbr:∀ p∈g.prods,p.right.length<=17592186043904) :
  aA Tryz.prog uE [.pointer (some (aM k)),.slice a l c] w λv w'=>∃ (kk:Nat) (ps:List (Int × Lq ag)),v = .map (some kk)/\(∀ s,0<=s->gq s ps = aF g I s)/\(ps.map Prod.fst).Nodup/\(∀ s,s∈ps.map Prod.fst↔0<=s/\aF g I s≠[])/\St w' (mapA kk (mV ps) :: aG (mO 2 tv ps) :: all w):=by
 have hl:=hr.1
 refine qJ (ml (St.all w) λkk w1 h=>?_)
 have h:=dD (κ:=Int) h
 have g1:Gr w w1:=aU 1 h.l
 refine ((Mp (hm.mono g1) (hr.mono g1) hf hb).mono ?_)
 rintro _ w2 ⟨o,rfl,h2⟩
 have h:=h2.qk h.l
 have hcl:=xB g I
 rw [hl] at hcl
 refine ⟨_,_,_,rfl,?_⟩
 refine ⟨λz w'=>∃ (j:Nat) (ps:List (Int × Lq ag)),z = j/\j<=(cls g I).length/\(∀ s,0<=s->gq s ps = dP g ((cls g I).take j) s)/\(ps.map Prod.fst).Nodup/\(∀ s,s∈ps.map Prod.fst↔0<=s/\dP g ((cls g I).take j) s≠[]) /\
   St w' (mapA kk (mV ps) :: aG (mO 2 tv ps) :: own 2 o (cls g I).length (cls g I).length (tv (cls g I)) :: all w),λz _=>(cls g I).length - z.toNat,
  ⟨0,[],rfl,WC _,λs _=>by simp [dP]; rfl,by simp,λs=>by simp [dP],?_⟩,?_⟩
 ·have h3:St w2 (mapA kk ([] : List (Int × Value)) :: own 2 o (cls g I).length (cls g I).length (tv (cls g I)) :: all w):=h.pick 3 [1,0,2]
  exact ((St.flat (M:=[])).2 h3).swap
 clear h h2
 rintro _ _ w3 ⟨j,ps,rfl,hj,hps,hnd,hks,h⟩
 refine ae (λh1=>?_) λh1=>?_
 rotate_left
 ·have h1:j = (cls g I).length:=by have:=Ws h1; omega
  rw [h1,WT] at hps hks
  exact ⟨kk,ps,rfl,hps,hnd,hks,h.pick 4 [0,1,3]⟩
 have h1:j < (cls g I).length:=by have:=Wr h1; omega
 obtain ⟨y,ad,hy,rfl,cy⟩:=cr (cq (h.pick 3 [2])) h1
 have hyf:jZ g y:=(iN.1 (Wu hy)).fit hf
 have hyd:y.dot + 1<=9223372036854775807:=by
  obtain ⟨_,_,p,hp,h5⟩:=hyf
  have:=hbr p (Wu hp); omega
 have hyd0:=hyf.2.1
 have s3:sub (hp w) (hp w3):=aU 3 h.l
 have hkt:∀ s,dP g ((cls g I).take (j + 1)) s = if s = cO g y then dP g ((cls g I).take j) s ++ [⟨y.prod,y.dot + 1⟩] else dP g ((cls g I).take j) s:=λs=>by
  rw [Wz,hy,XC,Ci]
 refine aq rfl h1 ⟨_,_,cy _ (sub.refl _),ah h λk4 w4 h=>bu h rfl (by simp [aV]) λw5 h=>⟨_,_,(ai 0 h.l).at (sub.refl _) rfl,(HC (hm.mono (aU 4 h.l)) hyf).mono ?_⟩⟩
 rintro _ w6 ⟨rfl,g6⟩
 have h:=h.gr g6
 refine ⟨_,rfl,ae (λh2=>?_) λh2=>?_⟩
 rotate_left
 ·have h2:cO g y < 0:=by have:=Ws h2; omega
  refine ⟨⟨by omega,by omega⟩,⟨j + 1,ps,by simp,h1,λs hs=>?_,hnd,λs=>?_,h.pick 5 [1,2,3,4]⟩,bx h1⟩
  ·rw [hkt,WB (by omega)]; exact hps s hs
  ·rw [hks,hkt]
   by_cases e:s = cO g y
   ·constructor <;> (rintro ⟨e2,_⟩; omega)
   ·rw [WB e]
 have h2:0<=cO g y:=Wr h2
 refine (bZ (κ:=Int) aQ (rfl:aj Ty _ = .map _ _) bB rfl rfl (h.pick 5 [1,0,2,3,4]) _).mono ?_
 rintro _ w7 ⟨rfl,e7⟩
 rw [e7]
 obtain ⟨q,M,e1,e2,hq,back⟩:=mu rfl (h.pick 5 [2,0,1,3,4]) (cO g y)
 have hql:q.2.length<=(cls g I).length:=by
  rw [e2,hps _ h2]
  refine W0 (ug _ _ _) (by rw [WV]; omega)
 have r4:av (hp w6) (aM k4) [.int .i64 y.prod,.int .i64 y.dot]:=ai 2 hq.l
 have hz1:(q.2.length + 1) * 16<=140737488355328:=W0 (X7 16 (Nat.succ_le_succ (W0 hql hcl))) hb
 have hz2:=UQ hz1
 refine ⟨_,_,_,e1,_,r4.cell0 (sub.refl _),_,r4.cell (sub.refl _) (j:=1) rfl,⟨by omega,by omega⟩,ah hq λk7 w8 h=>?_⟩
 refine (aN (us:=tv q.2) aQ (rfl:aj Ty _ = .slice _) (rfl:aj Ty _ = .slice _) rfl rfl rfl h rfl (by simp [aV]) hz1 hz2).mono ?_
 rintro _ w9 ⟨o3,c3,rfl,h⟩
 refine ⟨_,_,_,rfl,(cW (κ:=Int) aQ (rfl:aj Ty _ = .map _ _) bB (h.pick 7 [4,0,2,5,6]) (cO g y) _).mono ?_⟩
 rintro _ w10 h
 have h:=vK back (q.2 ++ [⟨y.prod,y.dot + 1⟩]) (by simp) (by rw [mR]; rfl) h
 refine ⟨⟨by omega,by omega⟩,⟨j + 1,_,by simp,h1,λs hs=>?_,FF _ hnd,λs=>?_,h⟩,bx h1⟩
 ·rw [jN,hkt,e2]
  by_cases e:s = cO g y
  ·subst e; rw [WJ rfl,WJ rfl,hps _ hs]
  ·rw [WB e,WB e,hps _ hs]
 ·rw [yS,hkt]
  have:=hks s
  by_cases e:s = cO g y
  ·subst e
   rw [WJ rfl]
   refine ⟨λ_=>⟨h2,by simp⟩,λ_=>?_⟩
   split
   ·assumption
   ·simp
  ·rw [WB e,<- this]
   split
   ·exact Iff.rfl
   ·rw [Wy,WW]; simp [e]
end Go.Proofs.YtndaepmjkbmjmaaGreatDoor
namespace Go.V
section
variable {α : Type} {f:α->List Value} {n:Nat}
theorem mS (hf:∀ x,(f x).length = n):∀ xs:List α,(xs.flatMap f).length = xs.length * n
 | []=>by simp
 | x :: xs=>by rw [Xc,WA,hf,mS hf xs,Xj,XU,Yv]
theorem Oq (hf:∀ x,(f x).length = n):∀ (xs:List α) (i j:Nat) (x y:α) (v:Value),xs[i]? = some x->j < n->f y = (f x).set j v->(xs.flatMap f).set (i * n + j) v = (xs.set i y).flatMap f
 | [],i,j,x,y,v,h,_,_=>by simp at h
 | z :: xs,0,j,x,y,v,h,hj,he=>by
  simp at h; subst h
  rw [Nat.zero_mul,Xx,List.set_cons_zero,Xc,Xc,List.set_append_left _ _ (by rw [hf]; exact hj),he]
 | z :: xs,i + 1,j,x,y,v,h,hj,he=>by
  rw [List.set_cons_succ,Xc,Xc,XT _ _ (by rw [hf,XU]; omega),hf,show (i + 1) * n + j - n = i * n + j by rw [XU]; omega]
  rw [Oq hf xs i j x y v (by simpa using h) hj he]
end
theorem uh {M L:List ay} {h:Hp} {i:Nat} {A:ay} (hs:aC (aG M :: L) h) (hi:M[i]? = some A):∃ h1,sub h1 h/\A h1:=by
 have h2:=kM.1 hs
 obtain ⟨hlt,e⟩:=Wt.1 hi
 obtain ⟨h1,s1,ha⟩:=cR i (by rw [WA]; omega) h2
 rw [Cf (by rw [WA]; omega),List.getElem_append_left hlt,e] at ha
 exact ⟨h1,s1,ha⟩
def Ot (x:aP):List Value:=[.int .i64 x.sym,.int .i64 x.to]
def IF (xs:List aP):List Value:=xs.flatMap Ot
theorem Q9 (xs:List aP):(IF xs).length = xs.length * 2:=mS (f:=Ot) (n:=2) (λ_=>rfl) xs
abbrev SQ:=Lq ag × Lq aP
def Qh (q:SQ):List Value:=[dO q.1,dO q.2]
def wC (ss:List SQ):List Value:=ss.flatMap Qh
def Au (ss:List SQ):List ay:=ss.map λq=>dp 2 tv q.1
def wD (ss:List SQ):List ay:=ss.map λq=>dp 2 IF q.2
def bL (ss:List SQ):List cg:=ss.map λq=>q.1.2
def bz (ss:List SQ):List (List aP):=ss.map λq=>q.2.2
theorem FH (ss:List SQ):(wC ss).length = ss.length * 2:=mS (f:=Qh) (n:=2) (λ_=>rfl) ss
theorem HD (ss:List SQ) (q:SQ):wC (ss ++ [q]) = wC ss ++ Qh q:=by unfold wC; rw [Xe]; simp
def iO (x:ag):Prop:=0<=x.prod/\x.prod < 256/\0<=x.dot/\x.dot < 65536
def Av (x:ag):List UInt8:=[UInt8.ofNat x.prod.toNat,UInt8.ofNat (x.dot.toNat % 256),UInt8.ofNat (x.dot.toNat / 256)]
def pw (K:List ag):List UInt8:=K.flatMap Av
def jm (K:List ag):ByteArray:=⟨(pw K).toArray⟩
def Us (b:UInt8):Value:=.int .u8 (b.toNat:Int)
theorem Ou {x y:ag} (hx:iO x) (hy:iO y) (h:Av x = Av y):x = y:=by
 obtain ⟨a1,a2,a3,a4⟩:=hx
 obtain ⟨b1,b2,b3,b4⟩:=hy
 unfold Av at h
 simp only [List.cons.injEq,and_true] at h
 obtain ⟨h1,h2,h3⟩:=h
 have e1:=congrArg UInt8.toNat h1
 have e2:=congrArg UInt8.toNat h2
 have e3:=congrArg UInt8.toNat h3
 simp only [UInt8.toNat_ofNat'] at e1 e2 e3
 exact ag.ext' (by omega) (by omega)
theorem HE:∀ {K M:List ag},(∀ x∈K,iO x)->(∀ x∈M,iO x)->pw K = pw M->K = M
 | [],[],_,_,_=>rfl
 | [],y :: M,_,_,h=>by simp [pw,Av] at h
 | x :: K,[],_,_,h=>by simp [pw,Av] at h
 | x :: K,y :: M,hk,hm,h=>by
  unfold pw at h
  rw [Xc,Xc] at h
  obtain ⟨h1,h2⟩:=List.append_inj h rfl
  rw [Ou (hk x (by simp)) (hm y (by simp)) h1,HE (λz hz=>hk z (by simp [hz])) (λz hz=>hm z (by simp [hz])) h2]
theorem JG {K M:List ag} (hk:∀ x∈K,iO x) (hm:∀ x∈M,iO x) (h:jm K = jm M):K = M:=by
 refine HE hk hm ?_
 have:=congrArg (λb:ByteArray=>b.data.toList) h
 simpa [jm] using this
theorem Mr (K:List ag) (x:ag):pw (K ++ [x]) = pw K ++ Av x:=by unfold pw; rw [Xe]; simp
theorem HF (K:List ag):(pw K).length = K.length * 3:=by
 induction K with
 | nil=>rfl
 | cons x K ih=>unfold pw at *; rw [Xc,WA,ih,Xj]; simp [Av]; omega
theorem VG {x:ag} (h:iO x):[Value.int .u8 (IntKind.u8.wrap x.prod),Value.int .u8 (IntKind.u8.wrap x.dot),Value.int .u8 (IntKind.u8.wrap (bH .i64 x.dot 8))] = (Av x).map Us:=by
 obtain ⟨a1,a2,a3,a4⟩:=h
 have e:bH .i64 x.dot 8 = x.dot / 256:=by
  simp only [bH,IntKind.bits]
  rw [show min (Int.toNat 8) 64 = 8 from rfl,Int.fdiv_eq_ediv_of_nonneg _ (by decide)]
  rfl
 rw [e]
 simp only [Av,Xf,List.map_nil,Us,UInt8.toNat_ofNat',IntKind.wrap,IntKind.signed,IntKind.bits]
 have w1:∀ z:Int,0<=z->z < 256->z % 256 = z:=λz h1 h2=>Int.emod_eq_of_lt h1 h2
 simp
 refine ⟨?_,?_,?_⟩ <;> omega
def Aw (m:List (ByteArray × Value)) (st:List cg):Prop:=∀ K,(∀ x∈K,iO x)->(assoc (jm K) m).getD (.int .i64 0) = .int .i64 (if K∈st then ((st.idxOf K:Nat):Int) + 1 else 0)
theorem Aw.start:Aw [] []:=λK _=>by simp [assoc]
theorem Aw.put {m:List (ByteArray × Value)} {st:List cg} {K:cg} (h:Aw m st) (hK:∀ x∈K,iO x) (hn:K∉st):Aw (bK (jm K) (.int .i64 ((st.length + 1:Nat):Int)) m) (st ++ [K]):=λM hM=>by
 rw [dC]
 by_cases e:jm M = jm K
 ·have:=JG hM hK e
  subst this
  rw [WJ rfl,WJ (by simp),List.idxOf_append,WB hn]
  simp
 ·rw [WB e,h M hM]
  have hne:M≠K:=λh=>e (by rw [h])
  by_cases e2:M∈st
  ·rw [WJ e2,WJ (by simp [e2]),List.idxOf_append,WJ e2]
  ·rw [WB e2,WB (by simp [e2,hne])]
end Go.V
namespace Go.Proofs.YtndaepmjkbmjmaaGreatDoor
variable {w:YC} {L:List ay} {a:YB} {l c:Nat} {K:List ag}
theorem UR (hr:a_ (hp w) K a l) (hK:∀ x∈K,iO x) (hne:K≠[]) (hb:l * 16<=140737488355328) :
  aA Tryz.prog Mi [.slice a l c] w λv w'=>v = .string (jm K)/\Gr w w':=by
 have hl:=hr.1
 refine Hw ⟨λo n c z w'=>∃ j:Nat,z = j/\j<=l/\n = (pw (K.take j)).length/\St w' (own 1 o n c ((pw (K.take j)).map Us) :: all w),λ_ _ _ z _=>l - z.toNat,⟨0,rfl,WC _,rfl,az 1 (St.all w)⟩,?_⟩
 rintro _ o _ c1 _ w1 ⟨j,rfl,hj,rfl,h⟩
 have s1:sub (hp w) (hp w1):=aU 1 h.l
 refine ae (λh1=>?_) λh1=>?_
 ·have h1:j < l:=by have:=Wr h1; omega
  obtain ⟨x,ad,hx,rfl,cx⟩:=cr hr h1
  have hxs:=hK x (Wu hx)
  refine aq rfl h1 ⟨_,_,cx _ s1,ah h λk3 w2 h=>bu h rfl (by simp [aV]) λw3 h=>?_⟩
  have r3:av (hp w3) (aM k3) [.int .i64 x.prod,.int .i64 x.dot]:=ai 0 h.l
  refine ⟨_,r3.cell0 (sub.refl _),_,r3.cell (sub.refl _) (j:=1) rfl,_,r3.cell (sub.refl _) (j:=1) rfl,by show (0:Int)<=8; decide,?_⟩
  refine ah h λk4 w4 h=>?_
  rw [VG hxs] at h
  have hkl:=HF (K.take j)
  rw [WV] at hkl
  refine (uf (n:=3) (us:=(pw (K.take j)).map Us) (news:=(Av x).map Us) aQ (rfl:aj Ty _ = .slice _) (rfl:aj Ty _ = .slice _) rfl rfl rfl (h.pick 3 [2,0]) rfl (by show 0 < 1; decide) (.inr ⟨_,rfl,ai 0 h.l⟩) (λu hu=>by obtain ⟨b,_,rfl⟩:=WS.1 hu; rfl) (by show ((pw (K.take j)).length + 3) * 1<=_; omega) (by omega)).mono ?_
  rintro _ w5 ⟨o2,c2,rfl,h⟩
  have e:pw (K.take (j + 1)) = pw (K.take j) ++ Av x:=by rw [Wz,hx,XC,Mr]
  refine ⟨_,_,_,rfl,⟨by omega,by omega⟩,⟨j + 1,by simp,h1,by rw [e,WA]; rfl,?_⟩,bx h1⟩
  rw [e,WZ]
  exact h.pick 3 [0,2]
 ·have h1:j = l:=by have:=Ws h1; omega
  subst h1
  rw [<- hl,WT] at h ⊢
  have hlen:0 < ((pw K).map Us).length:=by
   rw [WE,HF]
   have:=XW.2 hne; omega
  obtain ⟨ad,rfl⟩:=nR h hlen
  have hcv:=run_convert_bytes_back (P:=Tryz.prog) w1 Jl nV NY ad c1 (pw K) Hg Md kX λj hj=>AQ h rfl (by rw [Wx,Wv hj]; rfl)
  exact ⟨_,_,hcv,Ev.refl _,_,rfl,rfl,h.aZ⟩
end Go.Proofs.YtndaepmjkbmjmaaGreatDoor
namespace Go.V
abbrev JH (kt ka:Nat) (o:YB) (c:Nat) (asked int:Int) (m:List (ByteArray × Value)) (ss:List SQ) (L:List ay):List ay :=
 aK kt [.slice o ss.length c,.int .i64 asked,.int .i64 int,.map (some ka)] :: own 2 o ss.length c (wC ss) :: mapA ka m :: aG (Au ss) :: aG (wD ss) :: L
def fk (ss:List SQ) (b:YB) (d:Nat) (K:cg):List SQ:=if K∈bL ss then ss else ss ++ [(((b,d),K),((none,0),[]))]
theorem AY (ss:List SQ) (b:YB) (d:Nat) (K:cg):bL (fk ss b d K) = ql (bL ss) K:=by
 unfold fk ql; split <;> simp [bL]
theorem dJ (ss:List SQ):(bL ss).length = ss.length:=WE _
theorem TA {ss:List SQ} {K:cg} (h:K∈bL ss):∃ q,ss[(bL ss).idxOf K]? = some q/\q.1.2 = K:=by
 have h1:=Yl h
 rw [dJ] at h1
 refine ⟨ss[(bL ss).idxOf K],Wv h1,?_⟩
 have h2:(bL ss)[(bL ss).idxOf K]'(by rw [dJ]; exact h1) = K:=List.getElem_idxOf _
 unfold bL at h2 ⊢
 rw [List.getElem_map] at h2
 exact h2
theorem yU {h:Hp} {o:YB} {ss:List SQ} {i:Nat} {q:SQ} (r:eJ o (wC ss) h) (hq:ss[i]? = some q):∃ ad,o = some ad/\av h (ad.add (cY i 2)) (Qh q):=by
 rcases r with e | ⟨ad,rfl,r⟩
 ·have h1:=congrArg List.length e
  rw [FH,Xk] at h1
  have:=(Wt.1 hq).1; omega
 ·exact ⟨ad,rfl,bQ (n:=2) (λ_=>rfl) ss ad r i q hq⟩
theorem FI {ss:List SQ} {i:Nat} {q:SQ} (hq:ss[i]? = some q):(Au ss)[i]? = some (dp 2 tv q.1):=by unfold Au; rw [Wx,hq]; rfl
theorem K5 {ss:List SQ} {i:Nat} {q:SQ} (hq:ss[i]? = some q):(wD ss)[i]? = some (dp 2 IF q.2):=by unfold wD; rw [Wx,hq]; rfl
theorem FJ {q:Lq ag} {h:Hp} (ha:dp 2 tv q h):a_ h q.2 q.1.1 q.2.length:=AX rfl (cf ha)
end Go.V
namespace Go.Proofs.YtndaepmjkbmjmaaGreatDoor
variable {w:YC} {L:List ay}
theorem HG {kt ka c l d:Nat} {o b:YB} {asked int:Int} {m:List (ByteArray × Value)} {ss:List SQ} {K:cg} (h:St w (JH kt ka o c asked int m ss (own 2 b l d (tv K) :: L)))
  (hK:Aw m (bL ss)) (hne:K≠[]) (hsm:∀ x∈K,iO x) (ha:0<=asked/\asked < 4611686018427387904) (hi:0<=int/\int < 4611686018427387904) (hn:ss.length<=300) (hl:l * 16<=140737488355328) :
  aA Tryz.prog vF [.pointer (some (aM kt)),.slice b l d] w λv w'=>v = .int .i64 ((bL ss).idxOf K:Nat)/\∃ o' c' m',Aw m' (ql (bL ss) K) /\
   St w' (JH kt ka o' c' (asked + 1) (int + ((fk ss b d K).length - ss.length:Nat)) m' (fk ss b d K) L):=by
 have hKl:l = K.length:=by have:=iE (h.pick 6 [5]); rw [dH] at this; omega
 have hl0:0 < l:=by rw [hKl]; exact XW.2 hne
 have hz:K[0]? = some K[0]:=Wv (by omega)
 refine sQ ⟨_,(ai 0 h.l).cell (sub.refl _) (j:=1) rfl,⟨by omega,by omega⟩,?_⟩
 show st1 w ((aM kt).add 1) _ _
 rw [aL]
 refine bj h (by simp) λw1 h=>?_
 obtain ⟨h5,s5,ho5⟩:=Qg 5 h.l
 have hrK:a_ (hp w1) K b l:=(AX hKl.symm (cf ho5)).mono s5
 refine (UR hrK hsm hne hl).mono ?_
 rintro _ w2 ⟨rfl,g2⟩
 have h:=h.gr g2
 have hrK:=hrK.mono g2
 clear s5 ho5
 refine ⟨_,rfl,λu=>K∉bL ss/\St u (JH kt ka o c (asked + 1) int m ss (own 2 b l d (tv K) :: L)),?_,?_⟩
 ·intro w3 hd
  have h:=h.eq (aB hd)
  have hrK:a_ (hp w3) K b l:=hrK.mono (Gr.drawn hd)
  have rt:av (hp w3) (aM kt) [.slice o ss.length c,.int .i64 (asked + 1),.int .i64 int,.map (some ka)]:=ai 0 h.l
  have lk:aX Tryz.prog (Instr.lookup An (.map (some ka)) (.string (jm K)) false) w3 λv w'=>v = .int .i64 (if K∈bL ss then (((bL ss).idxOf K:Nat):Int) + 1 else 0)/\w' = w3:=by
   refine (bZ (κ:=ByteArray) aQ (rfl:aj Ty _ = .map _ _) kX rfl rfl (h.pick 3 [2]) (jm K)).mono ?_
   rintro _ _ ⟨rfl,rfl⟩
   exact ⟨hK K hsm,rfl⟩
  refine ⟨λu=>Gr w3 u,Gr.refl _,_,λu s=>rt.cell s (j:=3) rfl,lk.mono ?_⟩
  rintro _ w5 ⟨rfl,e5⟩
  rw [e5]
  refine ⟨_,rfl,λu=>Gr w3 u,Gr.refl _,λ_ h=>h,ae (λh1=>?_) λh1=>?_⟩
  rotate_left
  ·refine ⟨λhm=>?_,h⟩
   rw [WJ hm] at h1
   have:=Ws h1; omega
  have hm:K∈bL ss:=Xv λhn=>by rw [WB hn] at h1; exact absurd (Wr h1) (by omega)
  obtain ⟨q,hq,hqK⟩:=TA hm
  have hil:=(Wt.1 hq).1
  obtain ⟨ad,rfl,rs⟩:=yU (fB 1 h.l) hq
  obtain ⟨h6,s6,ho6⟩:=uh (h.pick 4 [3]).l (FI hq)
  have hrq:a_ (hp w3) K q.1.1.1 q.1.2.length:=by have:=(FJ ho6).mono s6; rwa [hqK] at this ⊢
  have hql:q.1.2.length = l:=by rw [hqK,hKl]
  obtain ⟨x,ad2,hx,hb2,cx⟩:=cr hrK hl0
  obtain ⟨y,ad3,hy,hb3,cy⟩:=cr hrq (by omega:0 < q.1.2.length)
  rw [hx] at hy; cases hy
  rw [Tu] at cx cy
  refine ⟨_,_,_,λu s=>rt.cell0 s,_,λu s=>rt.cell s (j:=3) rfl,mq hb2 hl0 ⟨_,_,cx,lk.mono ?_⟩⟩
  rintro _ w10 ⟨rfl,e10⟩
  rw [e10,WJ hm]
  have e1:(((bL ss).idxOf K:Nat):Int) + 1 - 1 = (((bL ss).idxOf K:Nat):Int):=by omega
  refine ⟨_,rfl,λu=>Gr w3 u,Gr.refl _,λ_ h=>h,⟨by omega,by omega⟩,?_⟩
  rw [e1]
  refine aq rfl hil ⟨_,_,_,λu s=>rs.cell0 s,mq hb3 (by omega) ⟨_,_,cy,_,λu _=>Cd u _ _ x x,_,rfl,yO (by simp) ⟨_,rt.cell (sub.refl _) (j:=3) rfl,lk.mono ?_⟩⟩⟩
  rintro _ w15 ⟨rfl,e15⟩
  rw [e15,WJ hm]
  refine ⟨_,rfl,⟨by omega,by omega⟩,by rw [e1],some ad,c,m,?_,?_⟩
  ·unfold ql; rw [WJ hm]; exact hK
  ·unfold fk; rw [WJ hm,Xz]
   rw [show int + ((0:Nat):Int) = int by omega]
   exact h.pick 6 [0,1,2,3,4]
 clear h hrK
 rintro _ w16 ⟨hm,h⟩
 refine ⟨_,(ai 0 h.l).cell (sub.refl _) (j:=2) rfl,⟨by omega,by omega⟩,?_⟩
 show st1 w16 ((aM kt).add 2) _ _
 rw [aL]
 refine bj h (by simp) λw17 h=>?_
 refine ⟨_,_,_,(ai 0 h.l).cell0 (sub.refl _),ah h λk7 w18 h=>?_⟩
 refine (aN (us:=wC ss) aQ (rfl:aj Ty _ = .slice _) (rfl:aj Ty _ = .slice _) rfl rfl rfl (h.pick 3 [0,2,1]) rfl (by simp [aV]) (by show (ss.length + 1) * 48<=_; omega) (by omega)).mono ?_
 rintro _ w19 ⟨o7,c7,rfl,h⟩
 refine ⟨_,_,_,rfl,bj (h.pick 3 [2,0]) (by simp) λw20 h=>?_⟩
 intro w21 hd
 have h:=h.eq (aB hd)
 have h:St w21 (aK kt [.slice o7 (ss.length + 1) c7,.int .i64 (asked + 1),.int .i64 (int + 1),.map (some ka)] :: own 2 o7 (ss.length + 1) c7 (wC ss ++ [.slice b l d,.slice none 0 0]) :: mapA ka m :: aG (Au ss) :: aG (wD ss) :: own 2 b l d (tv K) :: L):=h
 have rt:av (hp w21) (aM kt) [.slice o7 (ss.length + 1) c7,.int .i64 (asked + 1),.int .i64 (int + 1),.map (some ka)]:=ai 0 h.l
 refine ⟨λu=>Gr w21 u,Gr.refl _,_,λu s=>rt.cell s (j:=3) rfl,_,_,_,λu s=>rt.cell0 s,(cW (κ:=ByteArray) aQ (rfl:aj Ty _ = .map _ _) kX (h.pick 3 [2,0,1]) (jm K) _).mono ?_⟩
 rintro _ w24 h
 have hK2:=hK.put hsm hm
 rw [dJ] at hK2
 refine ⟨_,(ai 1 h.l).cell (sub.refl _) (j:=3) rfl,(bZ (κ:=ByteArray) aQ (rfl:aj Ty _ = .map _ _) kX rfl rfl h (jm K)).mono ?_⟩
 rintro _ w25 ⟨rfl,e25⟩
 rw [e25]
 have e1:=hK2 K hsm
 have e2:[K].idxOf K = 0:=by simp
 rw [WJ (by simp),List.idxOf_append,WB hm,e2,Xx,dJ] at e1
 have hnS:fk ss b d K = ss ++ [(((b,d),K),((none,0),[]))]:=by unfold fk; rw [WB hm]
 have hiK:ql (bL ss) K = bL ss ++ [K]:=by unfold ql; rw [WB hm]
 refine ⟨_,e1,⟨by omega,by omega⟩,?_,o7,c7,bK (jm K) (.int .i64 ((ss.length + 1:Nat):Int)) m,?_,?_⟩
 ·rw [List.idxOf_eq_length hm,dJ]
  show Value.int .i64 _ = _
  rw [show ((ss.length:Nat):Int) + 1 - 1 = (ss.length:Int) by omega]
 ·rw [hiK]; exact hK2
 ·rw [hnS]
  have h:=St.snoc ((az 2 h).pick 7 [0,5,1,2,3,4,6])
  have h:=(St.snoc (h.pick 6 [5,4,0,1,2,3])).pick 5 [3,4,2,0,1]
  have e3:wC (ss ++ [(((b,d),K),((none,0),[]))]) = wC ss ++ [.slice b l d,.slice none 0 0]:=by rw [HD,hKl]; rfl
  have e4:Au (ss ++ [(((b,d),K),((none,0),[]))]) = Au ss ++ [own 2 b l d (tv K)]:=by rw [hKl]; simp [Au,dp]
  have e5:wD (ss ++ [(((b,d),K),((none,0),[]))]) = wD ss ++ [own 2 none 0 0 []]:=by simp [wD,dp,IF]
  have e6:(ss ++ [(((b,d),K),(((none,0),[]):Lq aP))]).length = ss.length + 1:=by simp
  show St w24 (aK kt [.slice o7 _ c7,_,.int .i64 (int + _),_] :: own 2 o7 _ c7 _ :: _ :: _ :: _ :: L)
  rw [e3,e4,e5,e6,show ((ss.length + 1 - ss.length:Nat):Int) = 1 by omega]
  exact h
end Go.Proofs.YtndaepmjkbmjmaaGreatDoor
namespace Go.V
section
variable {g:af} {K:cg} {x:ag} {s:Int} {i:Nat}
theorem ak.ct (h:ak g):g.T<=65/\g.N<=65/\g.prods.length<=97/\2<=g.prods.length/\1<=g.T/\2<=g.N:=by
 obtain ⟨_,h1,h2,_⟩:=h
 have ht:0 < g.terms.length:=by have:=(Wt.1 h1.1).1; exact this
 exact ⟨h1.2.2.1,h1.2.2.2.1,h2.2.1,h2.1,ht,h1.2.1⟩
theorem ak.sym (h:ak g) {p:aH} (hp:p∈g.prods) (hs:s∈p.right):1<=s/\s < g.T + g.N:=by
 obtain ⟨_,h1,h2,p0,hp0,_,hr,_⟩:=h
 obtain ⟨n,hn⟩:=W3 hp
 cases n with
 | zero =>
  rw [hp0] at hn; cases hn
  rw [hr,WW] at hs
  have:=h2.2.2.2
  have ht:0 < g.terms.length:=by have:=(Wt.1 h1.1).1; exact this
  have hT:g.T = g.terms.length:=rfl
  omega
 | succ n =>
  have hm:p∈g.prods.drop 1:=by
   refine Wu (i:=n) ?_
   rw [W8,Yv]; exact hn
  have:=(h2.2.2.1 p hm).2 s hs
  exact ⟨this.1,this.2.1⟩
theorem s_ (hc:ak g) (hf:∀ x∈K,jZ g x) (h0:0<=s) (hne:aF g K s≠[]):1<=s/\s < g.T + g.N:=by
 obtain ⟨x,hx⟩:=XP _ hne
 obtain ⟨y,h1,h2,_⟩:=cJ.1 hx
 obtain ⟨p,hp,_,h3⟩:=Ca (h1.fit hf) h2 h0
 exact hc.sym (Wu hp) (Wu h3)
theorem xC (hp:g.prods.length<=97) (hs:iz K) (hf:∀ x∈K,jZ g x) (hd:∀ x∈K,x.dot<=299):K.length<=29100:=by
 have:=jl (m:=(List.range 29100).map λn=>(⟨((n / 300:Nat):Int),((n % 300:Nat):Int)⟩ : ag)) hs.nodup λx hx=>by
  obtain ⟨h1,h2,p,h3,_⟩:=hf x hx
  have h4:=(Wt.1 h3).1
  have h5:=hd x hx
  refine WS.2 ⟨x.prod.toNat * 300 + x.dot.toNat,WY.2 (by omega),?_⟩
  exact ag.ext' (by show (((x.prod.toNat * 300 + x.dot.toNat) / 300:Nat):Int) = _; omega) (by show (((x.prod.toNat * 300 + x.dot.toNat) % 300:Nat):Int) = _; omega)
 rwa [WE,XN] at this
theorem Ov (hp:g.prods.length<=97) (hf:jZ g x) (hd:x.dot < 65536):iO x:=by
 obtain ⟨h1,h2,p,h3,_⟩:=hf
 have h4:=(Wt.1 h3).1
 exact ⟨h1,by omega,h2,hd⟩
theorem vM (g:af) (K:cg):(bD g K).Pairwise (· < ·):=(List.pairwise_lt_range (n:=g.T + g.N)).filter _
theorem Q_ {ks:List Int} (hc:ak g) (hf:∀ x∈K,jZ g x) (hn:ks.Nodup) (hk:∀ s,s∈ks↔0<=s/\aF g K s≠[]):ks.mergeSort (λx y=>decide (x<=y)) = (bD g K).map Int.ofNat:=by
 have hp:=List.mergeSort_perm ks (λx y=>decide (x<=y))
 have h1:(ks.mergeSort λx y=>decide (x<=y)).Pairwise (·<=·):=by
  have:=List.pairwise_mergeSort (le:=λx y:Int=>decide (x<=y)) (λa b c h1 h2=>by simp at *; omega) (λa b=>by simp; omega) ks
  exact this.imp λh=>by simpa using h
 have h2:((bD g K).map Int.ofNat).Pairwise (·<=·):=by
  rw [Xn]
  exact (vM g K).imp λh=>by simp; omega
 have n2:((bD g K).map Int.ofNat).Nodup:=by
  rw [Xi,Xn]
  exact (vM g K).imp λh e=>by simp at e; omega
 have p2:ks.Perm ((bD g K).map Int.ofNat):=(List.perm_ext_iff_of_nodup hn n2).2 λs=>by
  rw [hk,WS]
  constructor
  ·rintro ⟨h0,hne⟩
   obtain ⟨_,h4⟩:=s_ hc hf h0 hne
   refine ⟨s.toNat,W9.2 ⟨WY.2 (by omega),?_⟩,by simp; omega⟩
   rw [WH,Int.toNat_of_nonneg h0]; exact hne
  ·rintro ⟨n,hm,rfl⟩
   exact ⟨by simp,Wr (W9.1 hm).2⟩
 exact List.Perm.eq_of_pairwise (λa b _ _ h3 h4=>Int.le_antisymm h3 h4) h1 h2 (hp.trans p2)
end
section
variable {κ α : Type} [DecidableEq κ]
def Cj (s:κ) (ps:List (κ × Lq α)):Lq α:=(c_ s ps).getD ((none,0),[])
theorem JI {ps:List (κ × Lq α)} (hn:(ps.map Prod.fst).Nodup) {s:κ} {q:Lq α} (hm:(s,q)∈ps):c_ s ps = some q:=by
 induction ps with
 | nil=>simp at hm
 | cons x m ih =>
  obtain ⟨a,u⟩:=x
  rw [Xf,Xp] at hn
  unfold c_
  rcases WM.1 hm with e | hm2
  ·cases e; rw [WJ rfl]
  ·have:s≠a:=λe=>hn.1 (by subst e; exact WS.2 ⟨_,hm2,rfl⟩)
   rw [WB this]; exact ih hn.2 hm2
theorem Ow {sz:Nat} {f:List α->List Value} {ps:List (κ × Lq α)} (hn:(ps.map Prod.fst).Nodup) {ks:List κ} (hp:ks.Perm (ps.map Prod.fst)):(mO sz f ps).Perm (ks.map λs=>dp sz f (Cj s ps)):=by
 have e:mO sz f ps = (ps.map Prod.fst).map λs=>dp sz f (Cj s ps):=by
  unfold mO
  rw [X8]
  refine XJ λx hx=>?_
  show dp sz f x.2 = dp sz f (Cj x.1 ps)
  unfold Cj
  rw [JI hn hx]; rfl
 rw [e]
 exact (hp.map _).symm
end
theorem Ox {w:YC} {L M N:List ay} (h:St w (aG M :: L)) (hp:M.Perm N):St w (aG N :: L):=St.flat.2 ((St.flat.1 h).perm (hp.append_right _))
theorem Ra {w:YC} {L M:List ay} {A:ay} (h:St w (aG (A :: M) :: L)):St w (A :: aG M :: L):=by
 have h1:St w (A :: (M ++ L)):=St.flat.1 h
 have h2:St w (M ++ (A :: L)):=h1.perm Xo.symm
 exact (St.flat.2 h2).swap
def xD (es:List (List aP)):Nat:=(es.map List.length).sum
theorem yV (es:List (List aP)) (x:List aP):xD (es ++ [x]) = xD es + x.length:=by unfold xD; simp
theorem kZ {g:af} {K:cg}:∀ (l:List Nat) (acc:List cg × List aP),(kK g K l acc).2.length = acc.2.length + l.length
 | [],_=>rfl
 | s :: l,acc=>by
  show (kK g K l _).2.length = _
  rw [kZ l]; simp; omega
theorem yW {ss:List SQ} {i:Nat} {q:SQ} (hq:ss[i]? = some q) (e:Lq aP):bL (ss.set i (q.1,e)) = bL ss/\Au (ss.set i (q.1,e)) = Au ss/\bz (ss.set i (q.1,e)) = (bz ss).set i e.2/\wD (ss.set i (q.1,e)) = (wD ss).set i (dp 2 IF e):=by
 refine ⟨?_,?_,?_,?_⟩
 ·unfold bL; rw [Xy]
  exact xn (by rw [Wx,hq]; rfl)
 ·unfold Au; rw [Xy]
  exact xn (by rw [Wx,hq]; rfl)
 ·unfold bz; rw [Xy]
 ·unfold wD; rw [Xy]
theorem K6 {ss:List SQ} {i:Nat} {q:SQ} (hq:ss[i]? = some q) (e:Lq aP):(wC ss).set (i * 2 + 1) (dO e) = wC (ss.set i (q.1,e)) :=
 Oq (f:=Qh) (n:=2) (λ_=>rfl) ss i 1 q (q.1,e) _ hq (by decide) rfl
structure bn (g:af) (ss:List SQ):Prop where
 dn:Ht g ss.length
 ks:bL ss = (b_ g ss.length).1
 es:bz ss = (b_ g ss.length).2
structure Ms (g:af) (ss:List SQ) (m:List (ByteArray × Value)) (asked:Int) (i:Nat):Prop where
 ks:bL ss = (b_ g i).1
 es:bz ss = (b_ g i).2 ++ List.replicate (ss.length - i) []
 lt:∀ j,j < i->j < (b_ g j).1.length
 le:ss.length<=256
 key:Aw m (bL ss)
 ask:asked = 1 + (xD (b_ g i).2:Int)
structure HH (g:af) (K:cg) (ss:List SQ) (m:List (ByteArray × Value)) (asked:Int) (i t:Nat) (es:List aP):Prop where
 ks:bL ss = (kK g K ((bD g K).take t) ((b_ g i).1,[])).1
 ed:es = (kK g K ((bD g K).take t) ((b_ g i).1,[])).2
 es:bz ss = (b_ g i).2 ++ List.replicate (ss.length - i) []
 le:ss.length<=256
 key:Aw m (bL ss)
 ask:asked = 1 + (xD (b_ g i).2:Int) + t
section
variable {g:af} {K:cg} {ss:List SQ} {m m' : List (ByteArray × Value)} {asked:Int} {i t:Nat} {es:List aP}
theorem Ms.start {b:YB} {d:Nat} (h:Aw m (ql [] [⟨0,0⟩])):Ms g (fk [] b d [⟨0,0⟩]) m 1 0:=by
 have e:fk [] b d [⟨0,0⟩] = [(((b,d),[⟨0,0⟩]),((none,0),[]))]:=by simp [fk,bL]
 have e2:ql [] [(⟨0,0⟩ : ag)] = [[⟨0,0⟩]]:=by simp [ql]
 rw [e2] at h
 rw [e]
 exact ⟨rfl,rfl,λj hj=>by omega,by simp,h,rfl⟩
theorem Ms.inner (h:Ms g ss m asked i) (hK:(b_ g i).1[i]? = some K):HH g K ss m asked i 0 [] :=
 ⟨h.ks,rfl,h.es,h.le,h.key,by rw [h.ask]; omega⟩
theorem HH.next (h:HH g K ss m asked i t es) {s:Nat} (hs:(bD g K)[t]? = some s) (hi:i<=ss.length) {b:YB} {d:Nat} (hk:Aw m' (ql (bL ss) (aF g K s))) (hle:(fk ss b d (aF g K s)).length<=256) :
  HH g K (fk ss b d (aF g K s)) m' (asked + 1) i (t + 1) (es ++ [⟨(s:Int),(((bL ss).idxOf (aF g K s):Nat):Int)⟩]):=by
 have e:=Hr (g:=g) (K:=K) (acc:=((b_ g i).1,[])) hs
 refine ⟨?_,?_,?_,hle,by rw [AY]; exact hk,by rw [h.ask]; omega⟩
 ·rw [AY,e,h.ks]
 ·rw [e,h.ed,h.ks]
 ·unfold fk
  split
  ·exact h.es
  ·have:bz (ss ++ [(((b,d),aF g K s),(((none,0),[]):Lq aP))]) = bz ss ++ [[]]:=by simp [bz]
   rw [this,h.es,WA,Yr,show ss.length + 1 - i = (ss.length - i) + 1 by omega,List.replicate_succ',WG]
theorem HH.done (h:HH g K ss m asked i (bD g K).length es) (hb:∀ j,j < i->j < (b_ g j).1.length) (hK:(b_ g i).1[i]? = some K) (hes:(b_ g i).2.length = i) (hi:i < ss.length) {q:SQ} (hq:ss[i]? = some q) (e:Lq aP) (he:e.2 = es) :
  Ms g (ss.set i (q.1,e)) m asked (i + 1):=by
 have hs:=yW hq e
 have hk:=h.ks
 have hd:=h.ed
 rw [WT] at hk hd
 have hb1:=d_ hK
 refine ⟨by rw [hs.1,hb1,hk],?_,λj hj=>?_,by rw [W1]; exact h.le,by rw [hs.1]; exact h.key,?_⟩
 ·rw [hs.2.2.1,h.es,hb1,he,<- hd,W1,XT _ _ (by omega),hes,Xz,show ss.length - i = (ss.length - (i + 1)) + 1 by omega,Ym,List.set_cons_zero,WG]
  rfl
 ·by_cases e2:j = i
  ·subst e2; exact (Wt.1 hK).1
  ·exact hb j (by omega)
 ·rw [hb1,yV,h.ask,kZ]
  simp; omega
end
theorem AZ {g:af}:∀ i,xD (b_ g i).2<=i * (g.T + g.N)
 | 0=>WC _
 | i + 1=>by
  cases h:(b_ g i).1[i]? with
  | none=>rw [n_ h,XU]; exact W0 (AZ i) (Nat.le_add_right _ _)
  | some K =>
   rw [d_ h,yV,kZ,XU]
   have h1:(bD g K).length<=g.T + g.N:=by
    have:=W6 (λs=>decide (aF g K (s:Nat)≠[])) (List.range (g.T + g.N))
    rwa [XN] at this
   have:=AZ (g:=g) i
   simp; omega
theorem Ck (ss:List SQ) (b:YB) (d:Nat) (K:cg):ss.length<=(fk ss b d K).length/\(fk ss b d K).length<=ss.length + 1:=by
 unfold fk; split <;> simp
theorem Rb {κ α : Type} (ps:List (κ × Lq α)):(mV ps).map Prod.fst = ps.map Prod.fst:=by unfold mV; rw [X8]; rfl
theorem TB {κ α : Type} (ps:List (κ × Lq α)):(mV ps).length = ps.length:=WE _
abbrev z3:List Value:=[.slice none 0 0,.int .i64 0,.int .i64 0]
end Go.V
namespace Go.Proofs.YtndaepmjkbmjmaaGreatDoor
variable {w:YC} {L:List ay} {g:af} {x:GA}
theorem Re (hg:gR (hp w) g x) (hb:ik g):aA Tryz.prog zW [.agg ⟨x.cells⟩] w λv w' =>
  (¬ak g/\v = .tuple #[.agg #[.slice none 0 0,.int .i64 0,.int .i64 0],.int .i64 1]/\Gr w w') \/
  (ak g/\Q3 g/\v = .tuple #[.agg #[.slice none 0 0,.int .i64 0,.int .i64 0],.int .i64 11]/\Gr w w') \/
  (ak g/\∃ (o:YB) (ss:List SQ),bn g ss/\v = .tuple #[.agg #[.slice o ss.length ss.length,.int .i64 (1 + (xD (bz ss):Int)),.int .i64 (ss.length:Int)],.int .i64 0] /\
   St w' (own 2 o ss.length ss.length (wC ss) :: aG (Au ss) :: aG (wD ss) :: all w)):=by
 refine DB (cN hg λk1 w1 gw hg B=>?_)
 refine ah (St.all w1) λk2 w2 h=>?_
 refine ⟨_,_,_,_,_,_,_,_,_,_,_,_,_,B.row h.aZ,(Hn (hg.mono h.aZ) hb).mono ?_⟩
 rintro _ w3 ⟨⟨rb,rfl,hrb⟩,g3⟩
 have h:=h.gr g3
 have s3:sub (hp w1) (hp w3):=h.aZ
 refine ⟨_,rfl,ae (λh1=>?_) λh1=>?_⟩
 ·have hn:¬ak g:=λhc=>by rw [hrb.2 hc] at h1; simp at h1
  exact bu h rfl (by simp [aV]) λw4 h=>⟨_,_,_,_,_,(ai 0 h.l).at (sub.refl _) rfl,.inl ⟨hn,rfl,gw.trans h.aZ⟩⟩
 have hc:ak g:=hrb.1 (by simpa using h1)
 obtain ⟨hT,hN,hP,hP2,hT1,hN2⟩:=hc.ct
 obtain ⟨_,_,_,_,_,_,hbr⟩:=id hb
 refine ⟨_,_,_,_,_,_,_,_,_,_,_,_,_,B.row s3,(UO (hg.mono s3) hb).mono ?_⟩
 rintro _ w5 ⟨km,kb,pb,rfl,hpb,h5⟩
 have h:=(St.on (N:=[_,_,_]) h5 h.l).pick 5 [3,0,1,2,4]
 obtain ⟨H,hlH,sH,h⟩:=St.freeze h
 have s1H:sub (hp w1) H:=aU 3 hlH
 have hm:SA H g km:=UP (hg.mono s1H) hpb hlH
 have sw:sub (hp w) H:=sub.trans gw s1H
 clear hlH h5 sH B s3 g3
 refine ⟨_,rfl,ml h λka w6 h=>?_⟩
 have h:=dD (κ:=ByteArray) h
 refine ah h λkt w7 h=>ah h λk3 w8 h=>?_
 have h:St w8 (own 2 (some (aM k3)) 1 1 (tv [⟨0,0⟩]) :: aK kt [.slice none 0 0,.int .i64 0,.int .i64 0,.map (some ka)] :: mapA ka ([] : List (ByteArray × Value)) :: aK k2 z3 :: [has H]):=iD (cs:=[]) h rfl rfl (WO _)
 have h:=az 2 ((St.flat (M:=[])).2 ((St.flat (M:=[])).2 h))
 refine (HG (ss:=[]) (h.pick 8 [4,0,5,1,2,3,6,7]) Aw.start (by simp) (by simp [iO]) ⟨by decide,by decide⟩ ⟨by decide,by decide⟩ (by simp) (by decide)).mono ?_
 rintro _ w9 ⟨rfl,o1,c1,m1,hk1,h⟩
 refine ⟨_,rfl,λz w'=>∃ (i:Nat) (ss:List SQ) (o:YB) (c:Nat) (m:List (ByteArray × Value)) (asked:Int),z = i/\i<=ss.length/\Ms g ss m asked i/\St w' (JH kt ka o c asked ss.length m ss (aK k2 z3 :: [has H])),λz _=>300 - z.toNat,
  ⟨0,fk [] (some (aM k3)) 1 [⟨0,0⟩],o1,c1,m1,1,rfl,WC _,.start hk1,?_⟩,?_⟩
 ·have e:(0:Int) + (((fk [] (some (aM k3)) 1 [⟨0,0⟩]).length - ([] : List SQ).length:Nat):Int) = ((fk [] (some (aM k3)) 1 [⟨0,0⟩]).length:Int):=by simp
  rw [e] at h
  exact h
 clear h hk1
 rintro _ _ w10 ⟨i,ss,o,c,m,asked,rfl,hi,hB,h⟩
 have hlen:ss.length<=256:=hB.le
 refine ⟨_,_,_,(ai 0 h.l).cell0 (sub.refl _),ae (λh1=>?_) λh1=>?_⟩
 rotate_left
 ·have h1:i = ss.length:=by have:=Ws h1; omega
  subst h1
  have hkl:=dJ ss
  have hes:=hB.es
  rw [Xz,List.replicate_zero,W2] at hes
  have hA:bn g ss:=⟨⟨by rw [<- hB.ks,hkl],hlen,hB.lt⟩,hB.ks,hes⟩
  refine ⟨_,_,_,(ai 0 h.l).cell0 (sub.refl _),fR (gp (fa (h.pick 2 [1])) ⟨_,_,_,rfl,?_⟩)⟩
  have h:=gn (h.pick 7 [1,0,3,4,5,6])
  refine bj (h.pick 2 [1,0]) (by simp) λw31 h=>?_
  have r31:av (hp w31) (aM kt) ([.slice (gE o 0 ss.length 2) ss.length ss.length,.int .i64 asked,.int .i64 (ss.length:Int)] ++ [.map (some ka)]):=ai 0 h.l
  refine ⟨_,_,_,_,_,r31.take.at (sub.refl _) rfl,bu (h.pick 6 [4,1,2,3,5]) rfl (by simp [aV]) λw32 h=>⟨_,_,_,_,_,(ai 0 h.l).at (sub.refl _) rfl,.inr (.inr ⟨hc,gE o 0 ss.length 2,ss,hA,?_,?_⟩)⟩⟩
  ·rw [hes,<- hB.ask]
  ·exact St.on (N:=[_,_,_]) (h.pick 5 [1,2,3,4]) (bC sw)
 have h1:i < ss.length:=by have:=Wr h1; omega
 obtain ⟨q,hq⟩ : ∃ q,ss[i]? = some q:=⟨_,Wv h1⟩
 obtain ⟨K,hKq⟩ : ∃ K,K = q.1.2:=⟨_,rfl⟩
 have hK:(b_ g i).1[i]? = some K:=by rw [<- hB.ks]; unfold bL; rw [Wx,hq,hKq]; rfl
 have hI:=di (g:=g) (by omega) i
 have hKm:=Wu hK
 have hKf:=hI.fit K hKm
 have hKd:∀ x∈K,x.dot<=i:=hI.dots i K hK
 have hKl:=xC hP (hI.PC K hKm) hKf λx hx=>by have:=hKd x hx; omega
 have htot:=AZ (g:=g) i
 have htot2:xD (b_ g i).2<=33280:=W0 htot (Yg (show i<=256 by omega) (show g.T + g.N<=130 by omega))
 have hes:=Fz (g:=g) i (by rw [<- hB.ks,dJ]; omega)
 obtain ⟨ad,rfl,rs⟩:=yU (fB 1 h.l) hq
 obtain ⟨h6,s6,ho6⟩:=uh (h.pick 4 [3]).l (FI hq)
 have hrK:a_ (hp w10) K q.1.1.1 q.1.2.length:=by have:=(FJ ho6).mono s6; rwa [hKq]
 have hql:q.1.2.length = K.length:=by rw [hKq]
 clear ho6 s6
 have s10:sub H (hp w10):=aU 6 h.l
 refine ⟨_,_,_,(ai 0 h.l).cell0 (sub.refl _),aq rfl h1 ⟨_,_,_,rs.cell0 (sub.refl _),(Mq (hm.mono s10) hrK hKf (by rw [hql]; omega) hbr).mono ?_⟩⟩
 rintro _ w11 ⟨kk,ps,rfl,hps,hnd,hks,h2⟩
 have h:=h2.KM h.l
 clear rs hrK h2 s10
 have hkeys:ps.length<=130:=by
  have:=jl (m:=(List.range 130).map Int.ofNat) hnd λs hs=>by
   obtain ⟨h0,hne⟩:=(hks s).1 hs
   obtain ⟨_,h4⟩:=s_ hc hKf h0 hne
   exact WS.2 ⟨s.toNat,WY.2 (by omega),by simp; omega⟩
  rwa [WE,WE,XN] at this
 refine ⟨_,rfl,(Mn aQ (rfl:aj Ty _ = .map _ _) h).mono ?_⟩
 rintro _ w12 ⟨r,rfl,h⟩
 refine ⟨_,rfl,λo n c' w'=>∃ ks:List Int,n = ks.length/\St w' (own 1 o n c' (iv ks) :: Ek kk r (mV ps) ks :: aG (mO 2 tv ps) :: JH kt ka (some ad) c asked ss.length m ss (aK k2 z3 :: [has H])),λ_ n _ _=>ps.length - n,⟨[],rfl,az 1 h⟩,?_⟩
 clear h
 rintro _ o16 _ c16 w13 ⟨ks,rfl,h⟩
 refine (Om (h.pick 2 [1,0])).mono ?_
 rintro _ w14 (⟨rfl,hperm,h⟩ | ⟨s,u,hsm,rfl,hkl,h⟩)
 rotate_left
 ·rw [TB] at hkl
  refine .inr ⟨s,u,rfl,(Mo h).mono ?_⟩
  rintro _ w27 ⟨rfl,e27⟩
  rw [e27]
  refine ⟨s,u,rfl,ah (Ml h) λk49 w28 h=>?_⟩
  refine (aN (us:=iv ks) aQ (rfl:aj Ty _ = .slice _) (rfl:aj Ty _ = .slice _) rfl rfl rfl (h.pick 3 [0,2,1]) rfl (by simp [aV]) (by show (ks.length + 1) * 8<=_; omega) (by omega)).mono ?_
  rintro _ w29 ⟨o29,c29,rfl,h⟩
  refine ⟨_,_,_,rfl,⟨ks ++ [s],by simp,?_⟩,by dsimp only; omega⟩
  have e:iv (ks ++ [s]) = iv ks ++ [.int .i64 s]:=by simp [iv]
  rw [e]
  exact h.pick 3 [0,2]
 rw [Rb] at hperm
 obtain ⟨S,hS⟩ : ∃ S,S = bD g K:=⟨_,rfl⟩
 have hksS:=Q_ (ks:=ks) hc hKf (hperm.nodup_iff.2 hnd) λs=>by rw [hperm.mem_iff]; exact hks s
 rw [<- hS] at hksS
 have hpS:(S.map Int.ofNat).Perm (ps.map Prod.fst):=by rw [<- hksS]; exact (List.mergeSort_perm ks _).trans hperm
 have hksl:ks.length = S.length:=by rw [hperm.length_eq,<- hpS.length_eq,WE]
 have hSl:S.length<=130:=by have:=hpS.length_eq; rw [WE,WE] at this; omega
 refine .inl ⟨rfl,(KY (h.pick 2 [1,0]) (by omega)).mono ?_⟩
 rintro _ w15 ⟨rfl,h⟩
 rw [hksS] at h
 have h:=Ox (h.pick 3 [2,0,1]) (Ow hnd hpS)
 refine ⟨rfl,λo n c' z w'=>∃ (t:Nat) (es:List aP) (ss' : List SQ) (o' : YB) (c'' : Nat) (m' : List (ByteArray × Value)) (asked' : Int),z = t/\t<=S.length/\n = es.length/\HH g K ss' m' asked' i t es/\ss.length<=ss'.length /\
   St w' (own 2 o n c' (IF es) :: own 1 o16 ks.length c16 (iv (S.map Int.ofNat)) :: mapA kk (mV ps) :: aG (((S.map Int.ofNat).drop t).map λs=>dp 2 tv (Cj s ps)) :: JH kt ka o' c'' asked' ss'.length m' ss' (aK k2 z3 :: [has H])),λ_ _ _ z _=>S.length - z.toNat,
  ⟨0,[],ss,some ad,c,m,asked,rfl,WC _,rfl,hB.inner hK,WO _,az 2 (h.pick 3 [1,2,0])⟩,?_⟩
 clear h hq hKq hql
 rintro _ o17 _ c17 _ w16 ⟨t,es,ss',o',c'',m',asked',rfl,ht,rfl,hT2,hle,h⟩
 have hle2:ss'.length<=256:=hT2.le
 have hesl:es.length = t:=by
  rw [hT2.ed,kZ,WV,<- hS,Yk ht]; simp
 refine ae (λh3=>?_) λh3=>?_
 ·have h3:t < S.length:=by have:=Wr h3; omega
  obtain ⟨s,hs⟩ : ∃ s,S[t]? = some s:=⟨_,Wv h3⟩
  have hsI:(S.map Int.ofNat)[t]? = some (s:Int):=by rw [Wx,hs]; rfl
  obtain ⟨oad,hoa,hoc⟩:=cV (h.pick 2 [1]) (j:=t) (v:=.int .i64 (s:Int)) (by unfold iv; rw [Wx,hsI]; rfl)
  have hkn:aF g K (s:Int)≠[]:=ud s (by rw [<- hS]; exact Wu hs)
  have hsk:(s:Int)∈ps.map Prod.fst:=(hks s).2 ⟨by omega,hkn⟩
  obtain ⟨Q,hQ⟩ : ∃ Q,c_ (s:Int) ps = some Q:=Ye.1 (Oo.2 hsk)
  have hQD:Cj (s:Int) ps = Q:=by unfold Cj; rw [hQ]; rfl
  have hQ2:Q.2 = aF g K (s:Int):=by rw [<- hps s (by omega)]; unfold gq; rw [hQ]
  have hdrop:(S.map Int.ofNat).drop t = (s:Int) :: (S.map Int.ofNat).drop (t + 1):=by
   rw [W_ (by rw [WE]; exact h3)]
   congr 1
   exact (Wt.1 hsI).2
  have hkl:=xB g K
  have hkl2:(aF g K (s:Int)).length<=(cls g K).length:=ug g _ _
  have hQl:Q.2.length<=29300:=by rw [hQ2]; exact W0 hkl2 (W0 hkl (by omega))
  refine aw hoa (by omega) ⟨_,hoc,(bZ (κ:=Int) aQ (rfl:aj Ty _ = .map _ _) bB rfl rfl (h.pick 3 [2]) (s:Int)).mono ?_⟩
  rintro _ w17 ⟨rfl,e17⟩
  rw [e17]
  rw [hdrop,Xf,hQD] at h
  have h:=Ra (h.pick 4 [3,0,1,2])
  refine ⟨Q.1.1,Q.2.length,Q.1.2,by rw [gv,hQ]; rfl,(Ol h (by omega)).mono ?_⟩
  rintro _ w18 ⟨o18,rfl,h⟩
  rw [hQ2,nY B9] at h ⊢
  have hsmall:∀ x∈aF g K (s:Int),iO x:=λx hx=>by
   refine Ov hP (Cb hKf (W7 _) x hx) ?_
   obtain ⟨y,h1,_,rfl⟩:=cJ.1 hx
   have:=h1.dot hKd (W7 _)
   show y.dot + 1 < 65536
   omega
  have hask:=hT2.ask
  refine ⟨_,_,_,rfl,(HG (h.pick 10 [5,6,7,8,9,0,1,2,3,4]) hT2.key hkn hsmall ⟨by omega,by omega⟩ ⟨by omega,by omega⟩ (by omega) (by rw [<- hQ2]; omega)).mono ?_⟩
  rintro _ w19 ⟨rfl,o2',c2',m2',hk2,h⟩
  have hnl:=Ck ss' o18 (aF g K (s:Int)).length (aF g K (s:Int))
  have eint:(ss'.length:Int) + (((fk ss' o18 (aF g K (s:Int)).length (aF g K (s:Int))).length - ss'.length:Nat):Int) = ((fk ss' o18 (aF g K (s:Int)).length (aF g K (s:Int))).length:Int):=by omega
  rw [eint] at h
  refine ⟨_,rfl,ah h λk38 w20 h=>?_⟩
  refine (aN (us:=IF es) aQ (rfl:aj Ty _ = .slice _) (rfl:aj Ty _ = .slice _) rfl rfl rfl (h.pick 8 [0,7,1,2,3,4,5,6]) rfl (by simp [aV]) (by show (es.length + 1) * 16<=_; omega) (by omega)).mono ?_
  rintro _ w21 ⟨o20,c20,rfl,h⟩
  refine ⟨_,_,_,rfl,_,_,_,(ai 2 h.l).cell0 (sub.refl _),ae (λh4=>?_) λh4=>?_⟩
  ·have h4:256 < (fk ss' o18 (aF g K (s:Int)).length (aF g K (s:Int))).length:=by have:=Wr h4; omega
   refine bu (h.pick 12 [10,11]) rfl (by simp [aV]) λw22 h=>⟨_,_,_,_,_,(ai 0 h.l).at (sub.refl _) rfl,.inr (.inl ⟨hc,⟨i,K,t + 1,hK,λj hj=>?_,?_⟩,rfl,sub.trans sw (aU 1 h.l)⟩)⟩
   ·by_cases e:j = i
    ·subst e; exact (Wt.1 hK).1
    ·exact hB.lt j (by omega)
   ·rw [hS] at hs
    rw [Hr hs,<- hT2.ks]
    have:=dJ (fk ss' o18 (aF g K (s:Int)).length (aF g K (s:Int)))
    rw [AY] at this
    show 256 < (ql _ _).length
    omega
  ·have h4:(fk ss' o18 (aF g K (s:Int)).length (aF g K (s:Int))).length<=256:=by have:=Ws h4; omega
   refine ⟨⟨by omega,by omega⟩,⟨t + 1,es ++ [⟨(s:Int),(((bL ss').idxOf (aF g K (s:Int)):Nat):Int)⟩],_,o2',c2',m2',_,by simp,h3,by simp,hT2.next (by rw [<- hS]; exact hs) (by omega) hk2 h4,by omega,?_⟩,bx h3⟩
   have e:IF (es ++ [⟨(s:Int),(((bL ss').idxOf (aF g K (s:Int)):Nat):Int)⟩]) = IF es ++ [.int .i64 (s:Int),.int .i64 (((bL ss').idxOf (aF g K (s:Int)):Nat):Int)]:=by unfold IF; rw [Xe]; rfl
   rw [e]
   exact h.pick 10 [0,8,9,7,2,3,4,5,6]
 ·have h3:t = S.length:=by have:=Ws h3; omega
  intro w23 hd
  have h:=h.eq (aB hd)
  obtain ⟨q',hq'⟩ : ∃ q',ss'[i]? = some q':=⟨_,Wv (by omega)⟩
  have rt:av (hp w23) (aM kt) [.slice o' ss'.length c'',.int .i64 asked',.int .i64 (ss'.length:Int),.map (some ka)]:=ai 4 h.l
  obtain ⟨ad',rfl,_⟩:=yU (fB 5 h.l) hq'
  refine ⟨λu=>Gr w23 u,Gr.refl _,_,_,_,λu s=>rt.cell0 s,gP (gp (fa h) ⟨_,_,_,rfl,Gr.refl _,aq rfl (by omega) ?_⟩)⟩
  have h:=gn h
  rw [add_add,aJ]
  refine pf (h.pick 6 [5,0,4]) rfl (by rw [FH]; omega) λw26 h=>?_
  rw [h3] at hT2
  have hen:(gE o17 0 es.length 2,es.length,es).2.2 = es:=rfl
  have e1:=K6 hq' ((gE o17 0 es.length 2,es.length),es)
  have e2:=yW hq' ((gE o17 0 es.length 2,es.length),es)
  have h:=(St.N9 (n:=i) (h.pick 6 [1,5,0,2,3,4]) (by unfold wD; rw [WE]; omega)).pick 5 [2,1,3,4,0]
  refine ⟨⟨by omega,by omega⟩,⟨i + 1,ss'.set i (q'.1,((gE o17 0 es.length 2,es.length),es)),some ad',c'',m',asked',by simp,by rw [W1]; omega,(by rw [<- hS]; exact hT2:HH g K ss' m' asked' i (bD g K).length es).done hB.lt hK hes (by omega) hq' _ rfl,?_⟩,by dsimp only; omega⟩
  unfold JH
  rw [W1,e2.2.1,e2.2.2.2,<- e1]
  exact h
abbrev jO:FuncId:=43
def py:bg:={ rngs:=[],loops:=[(7,[(6,(.one (.int .i64)))]),(11,[(8,(.one (.int .i64)))])],joins:=[],blocks:=[] }
theorem pz {a:YB} {b c:Nat} {d:YB} {e f:Nat} {g:YB} {i j:Nat} {k:Int} {l:YB} {m n:Nat} {w:YC} {R:Value->WP} (h:new w (oC [vS a b c,vS d e f,vS g i j,iI k,vS l m n] 27) λk1 w1=>new w1 (oC [vS none 0 0,iI 0,iI 0] 45) λk2 w2=>∃ o1 k3 k4 o2 k5 k6 o3 k7 k8 n1 o4 k9 k10,rA w2 (aM k1) 5 [vS o1 k3 k4,vS o2 k5 k6,vS o3 k7 k8,iI n1,vS o4 k9 k10]/\rE 39 [vG [vS o1 k3 k4,vS o2 k5 k6,vS o3 k7 k8,iI n1,vS o4 k9 k10]] w2 λv1 w3=>∃ b1,v1 = vB b1/\br (!b1) (fL w3 (aM k2) [vS none 0 0,iI 0,iI 0] λw4=>∃ o5 k11 k12 n2 n3,rA w4 (aM k2) 3 [vS o5 k11 k12,iI n2,iI n3]/\R (vU [vG [vS o5 k11 k12,iI n2,iI n3],iI 1]) w4) (new w3 (oC [vS none 0 0,iI 0,iI 0] 45) λk13 w5=>fL w5 (aM k13) [vS none 0 0,iI 1,iI 1] λw6=>∃ o6 k14 k15,cL w6 (aM k13) (vS o6 k14 k15)/\new w6 (oC [iI 0,iI 0] 104) λk16 w7=>new w7 (oC [vS (some (aM k16)) 1 1,vS none 0 0] 54) λk17 w8=>rS (ir 43 (Array.mk [vS o6 k14 k15,vS (some (aM k17)) 1 1])) w8 λv2 w9=>∃ o7 k18 k19,v2 = vS o7 k18 k19/\st1 w9 (aM k13) (vS o7 k18 k19) λw10=>∃ (x1:lP [(6,aD)]),∃ (x2:lN [(6,aD)]),x1 0 w10/\∀ (I1:Nat->Value) (n4:Int) (w11:YC),x1 n4 w11->∃ o8 k20 k21,cL w11 (aM k13) (vS o8 k20 k21)/\br (decide (n4 < (k20:Int))) (∀ w12,drawn w11 w12->∃ (I2:WP),I2 w12/\∃ o9 k22 k23 o10 k24 k25 o11 k26 k27 n5 o12 k28 k29,(∀ w13,I2 w13->rA w13 (aM k1) 5 [vS o9 k22 k23,vS o10 k24 k25,vS o11 k26 k27,iI n5,vS o12 k28 k29])/\∃ o13 k30 k31,(∀ w14,I2 w14->cL w14 (aM k13) (vS o13 k30 k31))/\idx o13 k30 n4 2 λa1=>∃ o14 k32 k33,(∀ w15,I2 w15->cL w15 a1 (vS o14 k32 k33))/\rE 76 [vG [vS o9 k22 k23,vS o10 k24 k25,vS o11 k26 k27,iI n5,vS o12 k28 k29],vS o14 k32 k33] w12 λv3 w16=>∃ o15 k34 k35,v3 = vS o15 k34 k35/\I2 w16/\∃ (x3:lP [(8,aD)]),∃ (x4:lN [(8,aD)]),x3 1 w16/\∀ (I3:Nat->Value) (n6:Int) (w17:YC),x3 n6 w17->∃ o16 k36 k37 o17 k38 k39 o18 k40 k41 n7 o19 k42 k43,rA w17 (aM k1) 5 [vS o16 k36 k37,vS o17 k38 k39,vS o18 k40 k41,iI n7,vS o19 k42 k43]/\rE 72 [vG [vS o16 k36 k37,vS o17 k38 k39,vS o18 k40 k41,iI n7,vS o19 k42 k43]] w17 λv4 w18=>∃ n8,v4 = iI n8/\br (decide (n6 < n8)) (∃ o20 k44 k45 o21 k46 k47 o22 k48 k49 n9 o23 k50 k51,rA w18 (aM k1) 5 [vS o20 k44 k45,vS o21 k46 k47,vS o22 k48 k49,iI n9,vS o23 k50 k51]/\rE 77 [vG [vS o20 k44 k45,vS o21 k46 k47,vS o22 k48 k49,iI n9,vS o23 k50 k51],iI n6,vS o15 k34 k35] w18 λv5 w19=>∃ o24 k52 k53,v5 = vS o24 k52 k53/\br ((k52:Int) == 0) (ax (n6 + 1)/\x3 (n6 + 1) w19/\x4 (n6 + 1) w19 < x4 n6 w17) (∃ n10,cL w19 (Addr.add (aM k13) 1) (iI n10)/\ax (n10 + 1)/\st1 w19 (Addr.add (aM k13) 1) (iI (n10 + 1)) λw20=>∃ o25 k54 k55,cL w20 (aM k13) (vS o25 k54 k55)/\rE 78 [vS o25 k54 k55,vS o24 k52 k53] w20 λv6 w21=>∃ n11,v6 = iI n11/\br (decide (n11 < 0)) (∃ o26 k56 k57,cL w21 (aM k13) (vS o26 k56 k57)/\br (decide (256<=(k56:Int))) (fL w21 (aM k2) [vS none 0 0,iI 0,iI 0] λw22=>∃ o27 k58 k59 n12 n13,rA w22 (aM k2) 3 [vS o27 k58 k59,iI n12,iI n13]/\R (vU [vG [vS o27 k58 k59,iI n12,iI n13],iI 11]) w22) (∃ n14,cL w21 (Addr.add (aM k13) 2) (iI n14)/\ax (n14 + 1)/\st1 w21 (Addr.add (aM k13) 2) (iI (n14 + 1)) λw23=>∃ o28 k60 k61,cL w23 (aM k13) (vS o28 k60 k61)/\new w23 (oC [vS o24 k52 k53,vS none 0 0] 54) λk62 w24=>rS (ir 43 (Array.mk [vS o28 k60 k61,vS (some (aM k62)) 1 1])) w24 λv7 w25=>∃ o29 k63 k64,v7 = vS o29 k63 k64/\st1 w25 (aM k13) (vS o29 k63 k64) λw26=>∀ w27,drawn w26 w27->∃ (I4:WP),I4 w27/\∃ o30 k65 k66,(∀ w28,I4 w28->cL w28 (aM k13) (vS o30 k65 k66))/\∃ o31 k67 k68,(∀ w29,I4 w29->cL w29 (aM k13) (vS o31 k67 k68))/\idx o31 k67 n4 2 λa2=>∃ o32 k69 k70,(∀ w30,I4 w30->cL w30 (Addr.add a2 1) (vS o32 k69 k70))/\new w27 (oC [iI n6,iI (k56:Int)] 56) λk71 w31=>I4 w31/\rS (ir 52 (Array.mk [vS o32 k69 k70,vS (some (aM k71)) 1 1])) w31 λv8 w32=>∃ o33 k72 k73,v8 = vS o33 k72 k73/\I4 w32/\idx o30 k65 n4 2 λa3=>st1 w32 (Addr.add a3 1) (vS o33 k72 k73) λw33=>ax (n6 + 1)/\x3 (n6 + 1) w33/\x4 (n6 + 1) w33 < x4 n6 w17)) (∀ w34,drawn w21 w34->∃ (I5:WP),I5 w34/\∃ o34 k74 k75,(∀ w35,I5 w35->cL w35 (aM k13) (vS o34 k74 k75))/\∃ o35 k76 k77,(∀ w36,I5 w36->cL w36 (aM k13) (vS o35 k76 k77))/\idx o35 k76 n4 2 λa4=>∃ o36 k78 k79,(∀ w37,I5 w37->cL w37 (Addr.add a4 1) (vS o36 k78 k79))/\new w34 (oC [iI n6,iI n11] 56) λk80 w38=>I5 w38/\rS (ir 52 (Array.mk [vS o36 k78 k79,vS (some (aM k80)) 1 1])) w38 λv9 w39=>∃ o37 k81 k82,v9 = vS o37 k81 k82/\I5 w39/\idx o34 k74 n4 2 λa5=>st1 w39 (Addr.add a5 1) (vS o37 k81 k82) λw40=>ax (n6 + 1)/\x3 (n6 + 1) w40/\x4 (n6 + 1) w40 < x4 n6 w17))) (ax (n4 + 1)/\x1 (n4 + 1) w18/\x2 (n4 + 1) w18 < x2 n4 w11)) (∃ o38 k83 k84 n15 n16,rA w11 (aM k13) 3 [vS o38 k83 k84,iI n15,iI n16]/\fL w11 (aM k2) [vS o38 k83 k84,iI n15,iI n16] λw41=>∃ o39 k85 k86 n17 n18,rA w41 (aM k2) 3 [vS o39 k85 k86,iI n17,iI n18]/\R (vU [vG [vS o39 k85 k86,iI n17,iI n18],iI 0]) w41))):aA Tryz.prog 43 [(.agg #[(.slice a b c),(.slice d e f),(.slice g i j),(.int .i64 k),(.slice l m n)])] w R:=rv Tryz.func43 py (by kernel_rfl) h
abbrev uG:FuncId:=73
def qN:bg:={ rngs:=[],loops:=[(3,[(8,(.one (.int .i64)))])],joins:=[],blocks:=[] }
theorem qO {a:YB} {b c:Nat} {d e f g:Int} {w:YC} {R:Value->WP} (h:new w (oC [vS a b c,iI d,iI e] 45) λk1 w1=>∃ o1 k2 k3,cL w1 (aM k1) (vS o1 k2 k3)/\idx o1 k2 f 2 λa1=>∃ o2 k4 k5,cL w1 (Addr.add a1 1) (vS o2 k4 k5)/\∃ (x1:lP [(8,aD)]),∃ (x2:lN [(8,aD)]),x1 0 w1/\∀ (I1:Nat->Value) (n1:Int) (w2:YC),x1 n1 w2->br (decide (n1 < (k4:Int))) (idx o2 k4 n1 2 λa2=>∃ n2,cL w2 a2 (iI n2)/\br (n2 == g) (idx o2 k4 n1 2 λa3=>∃ n3,cL w2 (Addr.add a3 1) (iI n3)/\R (iI n3) w2) (ax (n1 + 1)/\x1 (n1 + 1) w2/\x2 (n1 + 1) w2 < x2 n1 w2)) (R (iI (-1)) w2)):aA Tryz.prog 73 [(.agg #[(.slice a b c),(.int .i64 d),(.int .i64 e)]),(.int .i64 f),(.int .i64 g)] w R:=rv Tryz.func73 qN (by kernel_rfl) h
abbrev qP:FuncId:=76
def ob:bg:={ rngs:=[],loops:=[(4,[(5,(.one .slice)),(7,(.one (.int .i64)))]),(10,[(5,(.one .slice)),(9,(.one (.int .i64)))])],joins:=[],blocks:=[] }
theorem od {a:YB} {b c:Nat} {d:YB} {e f:Nat} {g:YB} {i j:Nat} {k:Int} {l:YB} {m n:Nat} {o:YB} {p q:Nat} {w:YC} {R:Value->WP} (h:new w (oC [vS a b c,vS d e f,vS g i j,iI k,vS l m n] 27) λk1 w1=>rE 129 [vS o p q] w1 λv1 w2=>∃ o1 k2 k3,v1 = vS o1 k2 k3/\∃ o2 k4 k5 o3 k6 k7 o4 k8 k9 n1 o5 k10 k11,rA w2 (aM k1) 5 [vS o2 k4 k5,vS o3 k6 k7,vS o4 k8 k9,iI n1,vS o5 k10 k11]/\rE 72 [vG [vS o2 k4 k5,vS o3 k6 k7,vS o4 k8 k9,iI n1,vS o5 k10 k11]] w2 λv2 w3=>∃ n2,v2 = iI n2/\wG n2 n2 1/\new w3 (Obj.cells (Array.mk (jB (Int.toNat n2) [vB false])) 4) λk12 w4=>∃ (x1:lP [(5,fX),(7,aD)]),∃ (x2:lN [(5,fX),(7,aD)]),x1 o1 k2 k3 0 w4/\∀ (I1:Nat->Value) (o6:YB) (k13 k14:Nat) (n3:Int) (w5:YC),x1 o6 k13 k14 n3 w5->br (decide (n3 < (k13:Int))) (∀ w6,drawn w5 w6->∃ (I2:WP),I2 w6/\∃ o7 k15 k16 o8 k17 k18 o9 k19 k20 n4 o10 k21 k22,(∀ w7,I2 w7->rA w7 (aM k1) 5 [vS o7 k15 k16,vS o8 k17 k18,vS o9 k19 k20,iI n4,vS o10 k21 k22])/\idx o6 k13 n3 2 λa1=>∃ n5 n6,(∀ w8,I2 w8->rA w8 a1 2 [iI n5,iI n6])/\rE 83 [vG [vS o7 k15 k16,vS o8 k17 k18,vS o9 k19 k20,iI n4,vS o10 k21 k22],vG [iI n5,iI n6]] w6 λv3 w9=>∃ n7,v3 = iI n7/\I2 w9/\∃ o11 k23 k24,cL w9 (aM k1) (vS o11 k23 k24)/\br (decide (n7 < (k23:Int))) (ax (n3 + 1)/\x1 o6 k13 k14 (n3 + 1) w9/\x2 o6 k13 k14 (n3 + 1) w9 < x2 o6 k13 k14 n3 w5) (idx (some (aM k12)) (Int.toNat n2) n7 1 λa2=>∃ b1,cL w9 a2 (vB b1)/\br b1 (ax (n3 + 1)/\x1 o6 k13 k14 (n3 + 1) w9/\x2 o6 k13 k14 (n3 + 1) w9 < x2 o6 k13 k14 n3 w5) (idx (some (aM k12)) (Int.toNat n2) n7 1 λa3=>st1 w9 a3 (vB true) λw10=>∃ (x3:lP [(5,fX),(9,aD)]),∃ (x4:lN [(5,fX),(9,aD)]),x3 o6 k13 k14 0 w10/\∀ (I3:Nat->Value) (o12:YB) (k25 k26:Nat) (n8:Int) (w11:YC),x3 o12 k25 k26 n8 w11->∃ o13 k27 k28,cL w11 (Addr.add (aM k1) 4) (vS o13 k27 k28)/\br (decide (n8 < (k27:Int))) (new w11 (oC [iI 0,iI 0] 104) λk29 w12=>fL w12 (aM k29) [iI n8,iI 0] λw13=>∃ o14 k30 k31,cL w13 (Addr.add (aM k1) 4) (vS o14 k30 k31)/\idx o14 k30 n8 3 λa4=>∃ n9,cL w13 a4 (iI n9)/\br (n9 != n7) (ax (n8 + 1)/\x3 o12 k25 k26 (n8 + 1) w13/\x4 o12 k25 k26 (n8 + 1) w13 < x4 o12 k25 k26 n8 w11) (∃ n10 n11,rA w13 (aM k29) 2 [iI n10,iI n11]/\rE 130 [vS o12 k25 k26,vG [iI n10,iI n11]] w13 λv4 w14=>∃ b2,v4 = vB b2/\br (!b2) (∃ n12 n13,rA w14 (aM k29) 2 [iI n12,iI n13]/\new w14 (oC [iI n12,iI n13] 104) λk32 w15=>rS (ir 51 (Array.mk [vS o12 k25 k26,vS (some (aM k32)) 1 1])) w15 λv5 w16=>∃ o15 k33 k34,v5 = vS o15 k33 k34/\ax (n8 + 1)/\x3 o15 k33 k34 (n8 + 1) w16/\x4 o15 k33 k34 (n8 + 1) w16 < x4 o12 k25 k26 n8 w11) (ax (n8 + 1)/\x3 o12 k25 k26 (n8 + 1) w14/\x4 o12 k25 k26 (n8 + 1) w14 < x4 o12 k25 k26 n8 w11))) (ax (n3 + 1)/\x1 o12 k25 k26 (n3 + 1) w11/\x2 o12 k25 k26 (n3 + 1) w11 < x2 o6 k13 k14 n3 w5)))) (rE 129 [vS o6 k13 k14] w5 λv6 w17=>∃ o16 k35 k36,v6 = vS o16 k35 k36/\R (vS o16 k35 k36) w17)):aA Tryz.prog 76 [(.agg #[(.slice a b c),(.slice d e f),(.slice g i j),(.int .i64 k),(.slice l m n)]),(.slice o p q)] w R:=rv Tryz.func76 ob (by kernel_rfl) h
abbrev uH:FuncId:=77
def qQ:bg:={ rngs:=[],loops:=[(3,[(7,(.one .slice)),(8,(.one (.int .i64)))])],joins:=[],blocks:=[] }
theorem qR {a:YB} {b c:Nat} {d:YB} {e f:Nat} {g:YB} {i j:Nat} {k:Int} {l:YB} {m n:Nat} {o:Int} {p:YB} {q s:Nat} {w:YC} {R:Value->WP} (h:new w (oC [vS a b c,vS d e f,vS g i j,iI k,vS l m n] 27) λk1 w1=>∃ (x1:lP [(7,fX),(8,aD)]),∃ (x2:lN [(7,fX),(8,aD)]),x1 none 0 0 0 w1/\∀ (I1:Nat->Value) (o1:YB) (k2 k3:Nat) (n1:Int) (w2:YC),x1 o1 k2 k3 n1 w2->br (decide (n1 < (q:Int))) (∀ w3,drawn w2 w3->∃ (I2:WP),I2 w3/\∃ o2 k4 k5 o3 k6 k7 o4 k8 k9 n2 o5 k10 k11,(∀ w4,I2 w4->rA w4 (aM k1) 5 [vS o2 k4 k5,vS o3 k6 k7,vS o4 k8 k9,iI n2,vS o5 k10 k11])/\idx p q n1 2 λa1=>∃ n3 n4,(∀ w5,I2 w5->rA w5 a1 2 [iI n3,iI n4])/\rE 83 [vG [vS o2 k4 k5,vS o3 k6 k7,vS o4 k8 k9,iI n2,vS o5 k10 k11],vG [iI n3,iI n4]] w3 λv1 w6=>∃ n5,v1 = iI n5/\I2 w6/\br (n5 == o) (∀ w7,drawn w6 w7->∃ (I3:WP),I3 w7/\idx p q n1 2 λa2=>∃ n6,(∀ w8,I3 w8->cL w8 a2 (iI n6))/\idx p q n1 2 λa3=>∃ n7,(∀ w9,I3 w9->cL w9 (Addr.add a3 1) (iI n7))/\ax (n7 + 1)/\new w7 (oC [iI n6,iI (n7 + 1)] 104) λk12 w10=>I3 w10/\rS (ir 51 (Array.mk [vS o1 k2 k3,vS (some (aM k12)) 1 1])) w10 λv2 w11=>∃ o6 k13 k14,v2 = vS o6 k13 k14/\I3 w11/\ax (n1 + 1)/\x1 o6 k13 k14 (n1 + 1) w11/\x2 o6 k13 k14 (n1 + 1) w11 < x2 o1 k2 k3 n1 w2) (ax (n1 + 1)/\x1 o1 k2 k3 (n1 + 1) w6/\x2 o1 k2 k3 (n1 + 1) w6 < x2 o1 k2 k3 n1 w2)) (rE 129 [vS o1 k2 k3] w2 λv3 w12=>∃ o7 k15 k16,v3 = vS o7 k15 k16/\R (vS o7 k15 k16) w12)):aA Tryz.prog 77 [(.agg #[(.slice a b c),(.slice d e f),(.slice g i j),(.int .i64 k),(.slice l m n)]),(.int .i64 o),(.slice p q s)] w R:=rv Tryz.func77 qQ (by kernel_rfl) h
abbrev td:FuncId:=78
def pA:bg:={ rngs:=[],loops:=[(2,[(5,(.one (.int .i64)))])],joins:=[],blocks:=[] }
theorem pB {a:YB} {b c:Nat} {d:YB} {e f:Nat} {w:YC} {R:Value->WP} (h:∃ (x1:lP [(5,aD)]),∃ (x2:lN [(5,aD)]),x1 0 w/\∀ (I1:Nat->Value) (n1:Int) (w1:YC),x1 n1 w1->br (decide (n1 < (b:Int))) (idx a b n1 2 λa1=>∃ o1 k1 k2,cL w1 a1 (vS o1 k1 k2)/\rE 131 [vS o1 k1 k2,vS d e f] w1 λv1 w2=>∃ b1,v1 = vB b1/\br b1 (R (iI n1) w2) (ax (n1 + 1)/\x1 (n1 + 1) w2/\x2 (n1 + 1) w2 < x2 n1 w1)) (R (iI (-1)) w1)):aA Tryz.prog 78 [(.slice a b c),(.slice d e f)] w R:=rv Tryz.func78 pA (by kernel_rfl) h
abbrev te:FuncId:=80
def pC:bg:={ rngs:=[],loops:=[(3,[(4,(.one (.int .i64)))]),(10,[(6,(.one .bool))]),(13,[(6,(.one .bool)),(7,(.one (.int .i64)))])],joins:=[],blocks:=[] }
theorem pD {a:YB} {b c:Nat} {d:YB} {e f:Nat} {g:YB} {i j:Nat} {k:Int} {l:YB} {m n:Nat} {w:YC} {R:Value->WP} (h:new w (oC [vS a b c,vS d e f,vS g i j,iI k,vS l m n] 27) λk1 w1=>∀ w2,drawn w1 w2->∃ (I1:WP),I1 w2/\∃ o1 k2 k3 o2 k4 k5 o3 k6 k7 n1 o4 k8 k9,(∀ w3,I1 w3->rA w3 (aM k1) 5 [vS o1 k2 k3,vS o2 k4 k5,vS o3 k6 k7,iI n1,vS o4 k8 k9])/\∃ o5 k10 k11 o6 k12 k13 o7 k14 k15 n2 o8 k16 k17,(∀ w4,I1 w4->rA w4 (aM k1) 5 [vS o5 k10 k11,vS o6 k12 k13,vS o7 k14 k15,iI n2,vS o8 k16 k17])/\rE 132 [vG [vS o5 k10 k11,vS o6 k12 k13,vS o7 k14 k15,iI n2,vS o8 k16 k17]] w2 λv1 w5=>∃ o9 k18 k19,v1 = vS o9 k18 k19/\I1 w5/\new w5 (oC [vS o1 k2 k3,vS o2 k4 k5,vS o3 k6 k7,iI n1,vS o4 k8 k9,vS o9 k18 k19,vS none 0 0] 220) λk20 w6=>I1 w6/\∃ (x1:lP [(4,aD)]),∃ (x2:lN [(4,aD)]),x1 0 w6/\∀ (I2:Nat->Value) (n3:Int) (w7:YC),x1 n3 w7->∃ o10 k21 k22 o11 k23 k24 o12 k25 k26 n4 o13 k27 k28,rA w7 (aM k1) 5 [vS o10 k21 k22,vS o11 k23 k24,vS o12 k25 k26,iI n4,vS o13 k27 k28]/\rE 72 [vG [vS o10 k21 k22,vS o11 k23 k24,vS o12 k25 k26,iI n4,vS o13 k27 k28]] w7 λv2 w8=>∃ n5,v2 = iI n5/\br (decide (n3 < n5)) (∃ o14 k29 k30,cL w8 (aM k1) (vS o14 k29 k30)/\wG (k29:Int) (k29:Int) 1/\new w8 (Obj.cells (Array.mk (jB (Int.toNat (k29:Int)) [vB false])) 4) λk31 w9=>∃ o15 k32 k33,cL w9 (aM k1) (vS o15 k32 k33)/\br (decide (n3 < (k32:Int))) (idx (some (aM k31)) (Int.toNat (k29:Int)) n3 1 λa1=>st1 w9 a1 (vB true) λw10=>∃ o16 k34 k35,cL w10 (Addr.add (aM k20) 6) (vS o16 k34 k35)/\new w10 (oC [vS (some (aM k31)) (Int.toNat (k29:Int)) (Int.toNat (k29:Int))] 149) λk36 w11=>rS (ir 148 (Array.mk [vS o16 k34 k35,vS (some (aM k36)) 1 1])) w11 λv3 w12=>∃ o17 k37 k38,v3 = vS o17 k37 k38/\st1 w12 (Addr.add (aM k20) 6) (vS o17 k37 k38) λw13=>ax (n3 + 1)/\x1 (n3 + 1) w13/\x2 (n3 + 1) w13 < x2 n3 w7) (∃ o18 k39 k40,cL w9 (Addr.add (aM k20) 6) (vS o18 k39 k40)/\new w9 (oC [vS (some (aM k31)) (Int.toNat (k29:Int)) (Int.toNat (k29:Int))] 149) λk41 w14=>rS (ir 148 (Array.mk [vS o18 k39 k40,vS (some (aM k41)) 1 1])) w14 λv4 w15=>∃ o19 k42 k43,v4 = vS o19 k42 k43/\st1 w15 (Addr.add (aM k20) 6) (vS o19 k42 k43) λw16=>ax (n3 + 1)/\x1 (n3 + 1) w16/\x2 (n3 + 1) w16 < x2 n3 w7)) (∃ (x3:lP [(6,mE)]),∃ (x4:lN [(6,mE)]),x3 true w8/\∀ (I3:Nat->Value) (b1:Bool) (w17:YC),x3 b1 w17->br b1 (∃ (x5:lP [(6,mE),(7,aD)]),∃ (x6:lN [(6,mE),(7,aD)]),x5 false 0 w17/\∀ (I4:Nat->Value) (b2:Bool) (n6:Int) (w18:YC),x5 b2 n6 w18->∃ o20 k44 k45,cL w18 (Addr.add (aM k1) 4) (vS o20 k44 k45)/\br (decide (n6 < (k44:Int))) (∀ w19,drawn w18 w19->∃ (I5:WP),I5 w19/\∃ o21 k46 k47,(∀ w20,I5 w20->cL w20 (Addr.add (aM k1) 4) (vS o21 k46 k47))/\idx o21 k46 n6 3 λa2=>∃ o22 k48 k49,(∀ w21,I5 w21->cL w21 (Addr.add a2 1) (vS o22 k48 k49))/\∃ o23 k50 k51,(∀ w22,I5 w22->cL w22 (Addr.add (aM k20) 6) (vS o23 k50 k51))/\∃ o24 k52 k53,(∀ w23,I5 w23->cL w23 (Addr.add (aM k1) 4) (vS o24 k52 k53))/\idx o24 k52 n6 3 λa3=>∃ n7,(∀ w24,I5 w24->cL w24 a3 (iI n7))/\idx o23 k50 n7 1 λa4=>∃ o25 k54 k55,(∀ w25,I5 w25->cL w25 a4 (vS o25 k54 k55))/\rE 133 [vP (some (aM k20)),vS o22 k48 k49,vS o25 k54 k55] w19 λv5 w26=>∃ b3,v5 = vB b3/\I5 w26/\br b2 (ax (n6 + 1)/\x5 true (n6 + 1) w26/\x6 true (n6 + 1) w26 < x6 b2 n6 w18) (ax (n6 + 1)/\x5 b3 (n6 + 1) w26/\x6 b3 (n6 + 1) w26 < x6 b2 n6 w18)) (x3 b2 w18/\x4 b2 w18 < x4 b1 w17)) (R (vP (some (aM k20))) w17))):aA Tryz.prog 80 [(.agg #[(.slice a b c),(.slice d e f),(.slice g i j),(.int .i64 k),(.slice l m n)])] w R:=rv Tryz.func80 pC (by kernel_rfl) h
abbrev tf:FuncId:=83
def pE:bg:={ rngs:=[],loops:=[],joins:=[],blocks:=[] }
theorem pF {a:YB} {b c:Nat} {d:YB} {e f:Nat} {g:YB} {i j:Nat} {k:Int} {l:YB} {m n:Nat} {o p:Int} {w:YC} {R:Value->WP} (h:new w (oC [vS a b c,vS d e f,vS g i j,iI k,vS l m n] 27) λk1 w1=>new w1 (oC [iI o,iI p] 104) λk2 w2=>∃ o1 k3 k4,cL w2 (Addr.add (aM k1) 4) (vS o1 k3 k4)/\∃ n1,cL w2 (aM k2) (iI n1)/\idx o1 k3 n1 3 λa1=>∃ o2 k5 k6,cL w2 (Addr.add a1 1) (vS o2 k5 k6)/\∃ n2,cL w2 (Addr.add (aM k2) 1) (iI n2)/\br (n2 == (k5:Int)) (R (iI (-1)) w2) (∃ n3,cL w2 (Addr.add (aM k2) 1) (iI n3)/\idx o2 k5 n3 1 λa2=>∃ n4,cL w2 a2 (iI n4)/\R (iI n4) w2)):aA Tryz.prog 83 [(.agg #[(.slice a b c),(.slice d e f),(.slice g i j),(.int .i64 k),(.slice l m n)]),(.agg #[(.int .i64 o),(.int .i64 p)])] w R:=rv Tryz.func83 pE (by kernel_rfl) h
abbrev uI:FuncId:=84
def qS:bg:={ rngs:=[],loops:=[(3,[(3,(.one .slice)),(4,(.one (.int .i64)))])],joins:=[],blocks:=[] }
theorem qT {a:YB} {b c:Nat} {w:YC} {R:Value->WP} (h:∃ (x1:lP [(3,fX),(4,aD)]),∃ (x2:lN [(3,fX),(4,aD)]),x1 none 0 0 0 w/\∀ (I1:Nat->Value) (o1:YB) (k1 k2:Nat) (n1:Int) (w1:YC),x1 o1 k1 k2 n1 w1->br (decide (n1 < (b:Int))) (idx a b n1 1 λa1=>∃ b1,cL w1 a1 (vB b1)/\br b1 (new w1 (oC [iI n1] 3) λk3 w2=>rS (ir 24 (Array.mk [vS o1 k1 k2,vS (some (aM k3)) 1 1])) w2 λv1 w3=>∃ o2 k4 k5,v1 = vS o2 k4 k5/\ax (n1 + 1)/\x1 o2 k4 k5 (n1 + 1) w3/\x2 o2 k4 k5 (n1 + 1) w3 < x2 o1 k1 k2 n1 w1) (ax (n1 + 1)/\x1 o1 k1 k2 (n1 + 1) w1/\x2 o1 k1 k2 (n1 + 1) w1 < x2 o1 k1 k2 n1 w1)) (R (vS o1 k1 k2) w1)):aA Tryz.prog 84 [(.slice a b c)] w R:=rv Tryz.func84 qS (by kernel_rfl) h
abbrev uJ:FuncId:=129
def qU:bg:={ rngs:=[],loops:=[(3,[(3,(.one .slice)),(4,(.one (.int .i64)))]),(6,[(5,(.one (.int .i64)))])],joins:=[(8,[(5,(.one (.int .i64)))])],blocks:=[] }
theorem qV {a:YB} {b c:Nat} {w:YC} {R:Value->WP} (h:∃ (x1:lP [(3,fX),(4,aD)]),∃ (x2:lN [(3,fX),(4,aD)]),x1 none 0 0 0 w/\∀ (I1:Nat->Value) (o1:YB) (k1 k2:Nat) (n1:Int) (w1:YC),x1 o1 k1 k2 n1 w1->br (decide (n1 < (b:Int))) (∃ (x3:lP [(5,aD)]),(∃ (x4:lP [(5,aD)]),∃ (x5:lN [(5,aD)]),x4 0 w1/\∀ (I2:Nat->Value) (n2:Int) (w2:YC),x4 n2 w2->∀ w3,drawn w2 w3->∃ (I3:WP),I3 w3/\br (decide (n2 < (k1:Int))) (idx o1 k1 n2 2 λa1=>∃ n3,(∀ w4,I3 w4->cL w4 a1 (iI n3))/\idx a b n1 2 λa2=>∃ n4,(∀ w5,I3 w5->cL w5 a2 (iI n4))/\br (decide (n3 < n4)) (ax (n2 + 1)/\x4 (n2 + 1) w3/\x5 (n2 + 1) w3 < x5 n2 w2) (idx o1 k1 n2 2 λa3=>∃ n5,(∀ w6,I3 w6->cL w6 a3 (iI n5))/\idx a b n1 2 λa4=>∃ n6,(∀ w7,I3 w7->cL w7 a4 (iI n6))/\br (n5 == n6) (idx o1 k1 n2 2 λa5=>∃ n7,(∀ w8,I3 w8->cL w8 (Addr.add a5 1) (iI n7))/\idx a b n1 2 λa6=>∃ n8,(∀ w9,I3 w9->cL w9 (Addr.add a6 1) (iI n8))/\br (decide (n7 < n8)) (ax (n2 + 1)/\x4 (n2 + 1) w3/\x5 (n2 + 1) w3 < x5 n2 w2) (x3 n2 w3)) (x3 n2 w3))) (x3 n2 w3))/\∀ (I4:Nat->Value) (n9:Int) (w10:YC),x3 n9 w10->∀ w11,drawn w10 w11->∃ (I5:WP),I5 w11/\br (decide (n9 < (k1:Int))) (idx o1 k1 n9 2 λa7=>∃ n10 n11,(∀ w12,I5 w12->rA w12 a7 2 [iI n10,iI n11])/\idx a b n1 2 λa8=>∃ n12 n13,(∀ w13,I5 w13->rA w13 a8 2 [iI n12,iI n13])/\∃ v1,(∀ w14,I5 w14->Sem.run Proofs.Tryz.prog (iB BinOp.eql 104 (Operand.tmp 66) (Operand.tmp 70) (vG [iI n10,iI n11]) (vG [iI n12,iI n13])) w14 = Result.ok v1 w14)/\∃ b1,v1 = vB b1/\br b1 (ax (n1 + 1)/\x1 o1 k1 k2 (n1 + 1) w11/\x2 o1 k1 k2 (n1 + 1) w11 < x2 o1 k1 k2 n1 w1) (uw o1 k1 k2 none (some n9) none 2 λ(o2:YB) (k3 k4:Nat)=>rS (ir 51 (Array.mk [vS none 0 0,vS o2 k3 k4])) w11 λv2 w15=>∃ o3 k5 k6,v2 = vS o3 k5 k6/\idx a b n1 2 λa9=>∃ n14 n15,rA w15 a9 2 [iI n14,iI n15]/\new w15 (oC [iI n14,iI n15] 104) λk7 w16=>rS (ir 51 (Array.mk [vS o3 k5 k6,vS (some (aM k7)) 1 1])) w16 λv3 w17=>∃ o4 k8 k9,v3 = vS o4 k8 k9/\uw o1 k1 k2 (some n9) none none 2 λ(o5:YB) (k10 k11:Nat)=>rS (ir 51 (Array.mk [vS o4 k8 k9,vS o5 k10 k11])) w17 λv4 w18=>∃ o6 k12 k13,v4 = vS o6 k12 k13/\ax (n1 + 1)/\x1 o6 k12 k13 (n1 + 1) w18/\x2 o6 k12 k13 (n1 + 1) w18 < x2 o1 k1 k2 n1 w1)) (uw o1 k1 k2 none (some n9) none 2 λ(o7:YB) (k14 k15:Nat)=>rS (ir 51 (Array.mk [vS none 0 0,vS o7 k14 k15])) w11 λv5 w19=>∃ o8 k16 k17,v5 = vS o8 k16 k17/\idx a b n1 2 λa10=>∃ n16 n17,rA w19 a10 2 [iI n16,iI n17]/\new w19 (oC [iI n16,iI n17] 104) λk18 w20=>rS (ir 51 (Array.mk [vS o8 k16 k17,vS (some (aM k18)) 1 1])) w20 λv6 w21=>∃ o9 k19 k20,v6 = vS o9 k19 k20/\uw o1 k1 k2 (some n9) none none 2 λ(o10:YB) (k21 k22:Nat)=>rS (ir 51 (Array.mk [vS o9 k19 k20,vS o10 k21 k22])) w21 λv7 w22=>∃ o11 k23 k24,v7 = vS o11 k23 k24/\ax (n1 + 1)/\x1 o11 k23 k24 (n1 + 1) w22/\x2 o11 k23 k24 (n1 + 1) w22 < x2 o1 k1 k2 n1 w1)) (R (vS o1 k1 k2) w1)):aA Tryz.prog 129 [(.slice a b c)] w R:=rv Tryz.func129 qU (by kernel_rfl) h
abbrev vN:FuncId:=130
def tg:bg:={ rngs:=[],loops:=[(2,[(5,(.one (.int .i64)))])],joins:=[],blocks:=[] }
theorem th {a:YB} {b c:Nat} {d e:Int} {w:YC} {R:Value->WP} (h:new w (oC [iI d,iI e] 104) λk1 w1=>∃ (x1:lP [(5,aD)]),∃ (x2:lN [(5,aD)]),x1 0 w1/\∀ (I1:Nat->Value) (n1:Int) (w2:YC),x1 n1 w2->br (decide (n1 < (b:Int))) (∀ w3,drawn w2 w3->∃ (I2:WP),I2 w3/\idx a b n1 2 λa1=>∃ n2 n3,(∀ w4,I2 w4->rA w4 a1 2 [iI n2,iI n3])/\∃ n4 n5,(∀ w5,I2 w5->rA w5 (aM k1) 2 [iI n4,iI n5])/\∃ v1,(∀ w6,I2 w6->Sem.run Proofs.Tryz.prog (iB BinOp.eql 104 (Operand.tmp 15) (Operand.tmp 16) (vG [iI n2,iI n3]) (vG [iI n4,iI n5])) w6 = Result.ok v1 w6)/\∃ b1,v1 = vB b1/\br b1 (R (vB true) w3) (ax (n1 + 1)/\x1 (n1 + 1) w3/\x2 (n1 + 1) w3 < x2 n1 w2)) (R (vB false) w2)):aA Tryz.prog 130 [(.slice a b c),(.agg #[(.int .i64 d),(.int .i64 e)])] w R:=rv Tryz.func130 tg (by kernel_rfl) h
abbrev mT:FuncId:=131
def k_:bg:={ rngs:=[],loops:=[(4,[(5,(.one (.int .i64)))])],joins:=[],blocks:=[] }
theorem lb {a:YB} {b c:Nat} {d:YB} {e f:Nat} {w:YC} {R:Value->WP} (h:br ((b:Int) != (e:Int)) (R (vB false) w) (∃ (x1:lP [(5,aD)]),∃ (x2:lN [(5,aD)]),x1 0 w/\∀ (I1:Nat->Value) (n1:Int) (w1:YC),x1 n1 w1->br (decide (n1 < (b:Int))) (∀ w2,drawn w1 w2->∃ (I2:WP),I2 w2/\idx a b n1 2 λa1=>∃ n2 n3,(∀ w3,I2 w3->rA w3 a1 2 [iI n2,iI n3])/\idx d e n1 2 λa2=>∃ n4 n5,(∀ w4,I2 w4->rA w4 a2 2 [iI n4,iI n5])/\∃ v1,(∀ w5,I2 w5->Sem.run Proofs.Tryz.prog (iB BinOp.neq 104 (Operand.tmp 20) (Operand.tmp 24) (vG [iI n2,iI n3]) (vG [iI n4,iI n5])) w5 = Result.ok v1 w5)/\∃ b1,v1 = vB b1/\br b1 (R (vB false) w2) (ax (n1 + 1)/\x1 (n1 + 1) w2/\x2 (n1 + 1) w2 < x2 n1 w1)) (R (vB true) w1))):aA Tryz.prog 131 [(.slice a b c),(.slice d e f)] w R:=rv Tryz.func131 k_ (by kernel_rfl) h
abbrev uK:FuncId:=132
def qW:bg:={ rngs:=[],loops:=[(3,[(4,(.one .bool))]),(6,[(4,(.one .bool)),(5,(.one (.int .i64)))])],joins:=[],blocks:=[] }
theorem qX {a:YB} {b c:Nat} {d:YB} {e f:Nat} {g:YB} {i j:Nat} {k:Int} {l:YB} {m n:Nat} {w:YC} {R:Value->WP} (h:new w (oC [vS a b c,vS d e f,vS g i j,iI k,vS l m n] 27) λk1 w1=>∃ o1 k2 k3,cL w1 (Addr.add (aM k1) 1) (vS o1 k2 k3)/\wG (k2:Int) (k2:Int) 1/\new w1 (Obj.cells (Array.mk (jB (Int.toNat (k2:Int)) [vB false])) 4) λk4 w2=>∃ (x1:lP [(4,mE)]),∃ (x2:lN [(4,mE)]),x1 true w2/\∀ (I1:Nat->Value) (b1:Bool) (w3:YC),x1 b1 w3->br b1 (∃ (x3:lP [(4,mE),(5,aD)]),∃ (x4:lN [(4,mE),(5,aD)]),x3 false 0 w3/\∀ (I2:Nat->Value) (b2:Bool) (n1:Int) (w4:YC),x3 b2 n1 w4->∃ o2 k5 k6,cL w4 (Addr.add (aM k1) 4) (vS o2 k5 k6)/\br (decide (n1 < (k5:Int))) (∀ w5,drawn w4 w5->∃ (I3:WP),I3 w5/\∃ o3 k7 k8,(∀ w6,I3 w6->cL w6 (Addr.add (aM k1) 4) (vS o3 k7 k8))/\idx o3 k7 n1 3 λa1=>∃ n2,(∀ w7,I3 w7->cL w7 a1 (iI n2))/\∃ o4 k9 k10,(∀ w8,I3 w8->cL w8 (aM k1) (vS o4 k9 k10))/\ax (n2 - (k9:Int))/\idx (some (aM k4)) (Int.toNat (k2:Int)) (n2 - (k9:Int)) 1 λa2=>∃ b3,cL w5 a2 (vB b3)/\br b3 (ax (n1 + 1)/\x3 b2 (n1 + 1) w5/\x4 b2 (n1 + 1) w5 < x4 b2 n1 w4) (∀ w9,drawn w5 w9->∃ (I4:WP),I4 w9/\∃ o5 k11 k12 o6 k13 k14 o7 k15 k16 n3 o8 k17 k18,(∀ w10,I4 w10->rA w10 (aM k1) 5 [vS o5 k11 k12,vS o6 k13 k14,vS o7 k15 k16,iI n3,vS o8 k17 k18])/\∃ o9 k19 k20,(∀ w11,I4 w11->cL w11 (Addr.add (aM k1) 4) (vS o9 k19 k20))/\idx o9 k19 n1 3 λa3=>∃ o10 k21 k22,(∀ w12,I4 w12->cL w12 (Addr.add a3 1) (vS o10 k21 k22))/\rE 180 [vG [vS o5 k11 k12,vS o6 k13 k14,vS o7 k15 k16,iI n3,vS o8 k17 k18],vS (some (aM k4)) (Int.toNat (k2:Int)) (Int.toNat (k2:Int)),vS o10 k21 k22] w9 λv1 w13=>∃ b4,v1 = vB b4/\br b4 (idx (some (aM k4)) (Int.toNat (k2:Int)) (n2 - (k9:Int)) 1 λa4=>st1 w13 a4 (vB true) λw14=>ax (n1 + 1)/\x3 true (n1 + 1) w14/\x4 true (n1 + 1) w14 < x4 b2 n1 w4) (ax (n1 + 1)/\x3 b2 (n1 + 1) w13/\x4 b2 (n1 + 1) w13 < x4 b2 n1 w4))) (x1 b2 w4/\x2 b2 w4 < x2 b1 w3)) (R (vS (some (aM k4)) (Int.toNat (k2:Int)) (Int.toNat (k2:Int))) w3)):aA Tryz.prog 132 [(.agg #[(.slice a b c),(.slice d e f),(.slice g i j),(.int .i64 k),(.slice l m n)])] w R:=rv Tryz.func132 qW (by kernel_rfl) h
abbrev mU:FuncId:=133
def lj:bg:={ rngs:=[],loops:=[(3,[(7,(.one .bool)),(8,(.one (.int .i64)))]),(7,[(7,(.one .bool)),(10,(.one (.int .i64)))])],joins:=[],blocks:=[] }
theorem lq {a b:YB} {c d:Nat} {e:YB} {f g:Nat} {w:YC} {R:Value->WP} (h:∃ (x1:lP [(7,mE),(8,aD)]),∃ (x2:lN [(7,mE),(8,aD)]),x1 false 0 w/\∀ (I1:Nat->Value) (b1:Bool) (n1:Int) (w1:YC),x1 b1 n1 w1->br (decide (n1 < (c:Int))) (∀ w2,drawn w1 w2->∃ (I2:WP),I2 w2/\nn a λa1=>∃ o1 k1 k2,(∀ w3,I2 w3->cL w3 (Addr.add a1 6) (vS o1 k1 k2))/\idx b c n1 1 λa2=>∃ n2,(∀ w4,I2 w4->cL w4 a2 (iI n2))/\idx o1 k1 n2 1 λa3=>∃ o2 k3 k4,(∀ w5,I2 w5->cL w5 a3 (vS o2 k3 k4))/\∃ (x3:lP [(7,mE),(10,aD)]),∃ (x4:lN [(7,mE),(10,aD)]),x3 b1 0 w2/\∀ (I3:Nat->Value) (b2:Bool) (n3:Int) (w6:YC),x3 b2 n3 w6->br (decide (n3 < (k3:Int))) (idx o2 k3 n3 1 λa4=>∃ b3,cL w6 a4 (vB b3)/\br b3 (idx e f n3 1 λa5=>∃ b4,cL w6 a5 (vB b4)/\br (!b4) (idx e f n3 1 λa6=>st1 w6 a6 (vB true) λw7=>ax (n3 + 1)/\x3 true (n3 + 1) w7/\x4 true (n3 + 1) w7 < x4 b2 n3 w6) (ax (n3 + 1)/\x3 b2 (n3 + 1) w6/\x4 b2 (n3 + 1) w6 < x4 b2 n3 w6)) (ax (n3 + 1)/\x3 b2 (n3 + 1) w6/\x4 b2 (n3 + 1) w6 < x4 b2 n3 w6)) (∀ w8,drawn w6 w8->∃ (I4:WP),I4 w8/\idx b c n1 1 λa7=>∃ n4,(∀ w9,I4 w9->cL w9 a7 (iI n4))/\nn a λa8=>∃ o3 k5 k6,(∀ w10,I4 w10->cL w10 a8 (vS o3 k5 k6))/\br (decide (n4 < (k5:Int))) (R (vB b2) w8) (nn a λa9=>∃ o4 k7 k8,(∀ w11,I4 w11->cL w11 (Addr.add a9 5) (vS o4 k7 k8))/\idx b c n1 1 λa10=>∃ n5,(∀ w12,I4 w12->cL w12 a10 (iI n5))/\nn a λa11=>∃ o5 k9 k10,(∀ w13,I4 w13->cL w13 a11 (vS o5 k9 k10))/\ax (n5 - (k9:Int))/\idx o4 k7 (n5 - (k9:Int)) 1 λa12=>∃ b5,(∀ w14,I4 w14->cL w14 a12 (vB b5))/\br (!b5) (R (vB b2) w8) (ax (n1 + 1)/\x1 b2 (n1 + 1) w8/\x2 b2 (n1 + 1) w8 < x2 b1 n1 w1)))) (R (vB b1) w1)):aA Tryz.prog 133 [(.pointer a),(.slice b c d),(.slice e f g)] w R:=rv Tryz.func133 lj (by kernel_rfl) h
abbrev oe:FuncId:=135
def lZ:bg:={ rngs:=[],loops:=[],joins:=[],blocks:=[] }
theorem l5 {a b:YB} {c d:Nat} {w:YC} {R:Value->WP} (h:nn a λa1=>∃ o1 k1 k2,cL w a1 (vS o1 k1 k2)/\wG (k1:Int) (k1:Int) 1/\new w (Obj.cells (Array.mk (jB (Int.toNat (k1:Int)) [vB false])) 4) λk3 w1=>rE 133 [vP a,vS b c d,vS (some (aM k3)) (Int.toNat (k1:Int)) (Int.toNat (k1:Int))] w1 λv1 w2=>∃ b1,v1 = vB b1/\∀ w3,drawn w2 w3->∃ (I1:WP),I1 w3/\nn a λa2=>∃ o2 k4 k5 o3 k6 k7 o4 k8 k9 n1 o5 k10 k11,(∀ w4,I1 w4->rA w4 a2 5 [vS o2 k4 k5,vS o3 k6 k7,vS o4 k8 k9,iI n1,vS o5 k10 k11])/\nn a λa3=>∃ o6 k12 k13,(∀ w5,I1 w5->cL w5 (Addr.add a3 5) (vS o6 k12 k13))/\rE 180 [vG [vS o2 k4 k5,vS o3 k6 k7,vS o4 k8 k9,iI n1,vS o5 k10 k11],vS o6 k12 k13,vS b c d] w3 λv2 w6=>∃ b2,v2 = vB b2/\I1 w6/\R (vU [vS (some (aM k3)) (Int.toNat (k1:Int)) (Int.toNat (k1:Int)),vB b2]) w6):aA Tryz.prog 135 [(.pointer a),(.slice b c d)] w R:=rv Tryz.func135 lZ (by kernel_rfl) h
abbrev og:FuncId:=180
def l7:bg:={ rngs:=[],loops:=[(2,[(7,(.one (.int .i64)))])],joins:=[],blocks:=[] }
theorem l8 {a:YB} {b c:Nat} {d:YB} {e f:Nat} {g:YB} {i j:Nat} {k:Int} {l:YB} {m n:Nat} {o:YB} {p q:Nat} {s:YB} {t u:Nat} {w:YC} {R:Value->WP} (h:new w (oC [vS a b c,vS d e f,vS g i j,iI k,vS l m n] 27) λk1 w1=>∃ (x1:lP [(7,aD)]),∃ (x2:lN [(7,aD)]),x1 0 w1/\∀ (I1:Nat->Value) (n1:Int) (w2:YC),x1 n1 w2->br (decide (n1 < (t:Int))) (∀ w3,drawn w2 w3->∃ (I2:WP),I2 w3/\idx s t n1 1 λa1=>∃ n2,(∀ w4,I2 w4->cL w4 a1 (iI n2))/\∃ o1 k2 k3,(∀ w5,I2 w5->cL w5 (aM k1) (vS o1 k2 k3))/\br (decide (n2 < (k2:Int))) (R (vB false) w3) (idx s t n1 1 λa2=>∃ n3,(∀ w6,I2 w6->cL w6 a2 (iI n3))/\∃ o2 k4 k5,(∀ w7,I2 w7->cL w7 (aM k1) (vS o2 k4 k5))/\ax (n3 - (k4:Int))/\idx o p (n3 - (k4:Int)) 1 λa3=>∃ b1,(∀ w8,I2 w8->cL w8 a3 (vB b1))/\br (!b1) (R (vB false) w3) (ax (n1 + 1)/\x1 (n1 + 1) w3/\x2 (n1 + 1) w3 < x2 n1 w2))) (R (vB true) w2)):aA Tryz.prog 180 [(.agg #[(.slice a b c),(.slice d e f),(.slice g i j),(.int .i64 k),(.slice l m n)]),(.slice o p q),(.slice s t u)] w R:=rv Tryz.func180 l7 (by kernel_rfl) h
end Go.Proofs.YtndaepmjkbmjmaaGreatDoor
namespace Go.V
theorem TC {x:ag} {out:List ag} {n:Nat} (hs:iz out) (h1:∀ (j:Nat) y,j < n->out[j]? = some y->y.lt x) (h2:∀ y,out[n]? = some y->x.lt y):sI x out = out.take n ++ x :: out.drop n:=by
 refine (xu hs).one ?_ λy=>?_
 ·have hs2:iz (out.take n ++ out.drop n):=by rwa [WX]
  unfold iz at hs2 ⊢
  rw [Yw] at hs2 ⊢
  obtain ⟨p1,p2,p3⟩:=hs2
  have hd:∀ y∈out.drop n,x.lt y:=λy hy=>by
   cases hc:out[n]? with
   | none=>rw [List.drop_eq_nil_of_le (List.getElem?_eq_none_iff.1 hc)] at hy; simp at hy
   | some z =>
    have hz:=h2 z hc
    obtain ⟨hlt,rfl⟩:=Wt.1 hc
    rw [W_ hlt] at hy p2
    rcases WM.1 hy with rfl | hy
    ·exact hz
    ·exact ag.lt_trans hz ((Xu.1 p2).1 y hy)
  have ht:∀ y∈out.take n,y.lt x:=λy hy=>by
   obtain ⟨j,hj⟩:=W3 hy
   have hjn:j < n:=by have:=(Wt.1 hj).1; rw [WV] at this; omega
   rw [XB,WJ hjn] at hj
   exact h1 j y hjn hj
  refine ⟨p1,Xu.2 ⟨hd,p2⟩,λy hy z hz=>?_⟩
  rcases WM.1 hz with rfl | hz
  ·exact ht y hy
  ·exact p3 y hy z hz
 ·rw [sJ,Wy,WM]
  have:y∈out↔y∈out.take n\/y∈out.drop n:=by rw [<- Wy,WX]
  rw [this]
  constructor
  ·rintro (h | h | h)
   ·exact .inr (.inl h)
   ·exact .inl h
   ·exact .inr (.inr h)
  ·rintro (h | h | h)
   ·exact .inr (.inl h)
   ·exact .inl h
   ·exact .inr (.inr h)
theorem Rf {x:ag} {out:List ag} (hs:iz out) (h:x∈out):sI x out = out:=(xu hs).one hs λy=>by
 rw [sJ]; exact ⟨λe=>e.elim (λe=>e ▸ h) id,.inr⟩
theorem Oy (l:List ag) (x:ag):lay (l ++ [x]) = sI x (lay l):=by unfold lay; rw [List.foldl_append]; rfl
theorem US (a:YB) (m sz:Nat):gE a 0 m sz = a:=by
 unfold gE; split
 ·rfl
 ·rw [aJ,Nat.zero_mul]
  cases a <;> simp [Addr.add]
end Go.V
namespace Go.Proofs.YtndaepmjkbmjmaaGreatDoor
variable {w:YC} {L:List ay} {g:af} {x:GA} {a a2:YB} {l c l2 c2:Nat} {I J:List ag}
theorem HI (hx:a_ (hp w) I a l) (hy:a_ (hp w) J a2 l2) (hb:l<=4611686018427387904):aA Tryz.prog mT [.slice a l c,.slice a2 l2 c2] w λv w'=>v = .bool (decide (I = J))/\hp w' = hp w:=by
 have h1:=hx.1
 have h2:=hy.1
 refine lb (ae (λh=>?_) λh=>?_)
 ·have h:l≠l2:=λe=>by subst e; simp at h
  have hne:I≠J:=λe=>h (by rw [<- h1,<- h2,e])
  exact ⟨by rw [Xm hne],rfl⟩
 have h:l = l2:=by have:=bne_eq_false_iff_eq.1 h; omega
 subst h
 refine ⟨λz w'=>∃ j:Nat,z = j/\j<=l/\I.take j = J.take j/\hp w' = hp w,λz _=>l - z.toNat,⟨0,rfl,WC _,rfl,rfl⟩,?_⟩
 rintro _ _ w1 ⟨j,rfl,hj,he,e1⟩
 refine ae (λh3=>?_) λh3=>?_
 rotate_left
 ·have h3:j = l:=by have:=Ws h3; omega
  rw [h3,WN (by omega),WN (by omega)] at he
  exact ⟨by rw [W4 he],e1⟩
 have h3:j < l:=by have:=Wr h3; omega
 intro w2 hd
 have e2:hp w2 = hp w:=(dB hd).trans e1
 obtain ⟨y,ad,hy1,rfl,cy⟩:=cr hx h3
 obtain ⟨z,ad2,hz1,rfl,cz⟩:=cr hy h3
 refine ⟨λu=>hp u = hp w,e2,aq rfl h3 ⟨_,_,λu hu=>cy u (vy hu),aq rfl h3 ⟨_,_,λu hu=>cz u (vy hu),_,λu _=>JF u _ _ y z,_,rfl,ae (λh4=>?_) λh4=>?_⟩⟩⟩
 ·have h4:y≠z:=by simpa using h4
  have hne:I≠J:=λe=>by subst e; rw [hy1] at hz1; cases hz1; exact h4 rfl
  exact ⟨by rw [Xm hne],e2⟩
 ·have h4:y = z:=by simpa using h4
  subst h4
  exact ⟨⟨by omega,by omega⟩,⟨j + 1,by simp,h3,by rw [Wz,Wz,hy1,hz1,he],e2⟩,bx h3⟩
theorem A0 {y:ag} (hg:gR (hp w) g x) (hf:jZ g y):aA Tryz.prog tf [.agg ⟨x.cells⟩,.agg (cj y).toArray] w λv w'=>v = .int .i64 (cO g y)/\Gr w w':=by
 refine pF (cN hg λk1 w1 gw hg B=>ah (St.all w1) λk2 w2 h=>?_)
 have r2:av (hp w2) (aM k2) [.int .i64 y.prod,.int .i64 y.dot]:=ai 0 h.l
 have g2:Gr w1 w2:=h.aZ
 obtain ⟨h2,h3,p,hpr,h4⟩:=hf
 obtain ⟨n,hn⟩ : ∃ n:Nat,y.prod = n:=⟨y.prod.toNat,by omega⟩
 obtain ⟨d,hdn⟩ : ∃ d:Nat,y.dot = d:=⟨y.dot.toNat,by omega⟩
 have hpn:g.prods[n]? = some p:=by rw [hn] at hpr; exact hpr
 have hnl:n < x.pl:=by have:=(Wt.1 hpn).1; have:=hg.p.1; omega
 obtain ⟨p',pad,vs,hp1,hpa,hp2,ra,rl,rc,rfl,hrc,hp3⟩:=hg.p.get hnl
 rw [hpn] at hp1; cases hp1
 have hrl:=hp3.1
 refine ⟨_,_,_,B.c4 g2,_,r2.cell0 (sub.refl _),?_⟩
 rw [hn]
 refine aq hpa hnl ⟨_,_,_,hp2.cell g2 (j:=1) rfl,_,r2.cell (sub.refl _) (j:=1) rfl,?_⟩
 rw [jM hpr,hdn,WQ]
 refine ae (λh5=>?_) λh5=>?_
 ·have h5:d = rl:=by have:=eq_of_beq h5; omega
  rw [Ww,WR (by omega)]
  exact ⟨rfl,gw.trans g2⟩
 ·have h5:d≠rl:=λe=>by subst e; simp at h5
  obtain ⟨v,ad,hv,hva,cv⟩:=hp3.cF (i:=d) (by omega)
  refine ⟨_,(r2.cell (sub.refl _) (j:=1) rfl),?_⟩
  show idx ra rl y.dot 1 _
  rw [hdn]
  refine aw hva (by omega) ⟨v,cv _ g2,?_⟩
  rw [Ww,hv]
  exact ⟨rfl,gw.trans g2⟩
theorem UT {y:ag} (hx:a_ (hp w) I a l) (hb:l<=4611686018427387904):aA Tryz.prog vN [.slice a l c,.agg (cj y).toArray] w λv w'=>v = .bool (decide (y∈I))/\Gr w w':=by
 have hl:=hx.1
 refine th (ah (St.all w) λk1 w1 h=>?_)
 have g1:Gr w w1:=h.aZ
 have r1:av (hp w1) (aM k1) [.int .i64 y.prod,.int .i64 y.dot]:=ai 0 h.l
 refine ⟨λz w'=>∃ j:Nat,z = j/\j<=l/\y∉I.take j/\Gr w1 w',λz _=>l - z.toNat,⟨0,rfl,WC _,by simp,Gr.refl _⟩,?_⟩
 rintro _ _ w2 ⟨j,rfl,hj,hn,g2⟩
 refine ae (λh3=>?_) λh3=>?_
 rotate_left
 ·have h3:j = l:=by have:=Ws h3; omega
  rw [h3,WN (by omega)] at hn
  exact ⟨by rw [Xm hn],g1.trans g2⟩
 have h3:j < l:=by have:=Wr h3; omega
 intro w3 hd
 have g3:Gr w1 w3:=g2.trans (Gr.drawn hd)
 obtain ⟨z,ad,hz1,rfl,cz⟩:=cr hx h3
 refine ⟨λu=>Gr w3 u,Gr.refl _,aq rfl h3 ⟨_,_,λu s=>cz u (sub.trans g1 (sub.trans g3 s)),_,_,λu s=>r1.at (sub.trans g3 s) rfl,_,λu _=>Cd u _ _ z y,_,rfl,ae (λh4=>?_) λh4=>?_⟩⟩
 ·have h4:z = y:=Wr h4
  subst h4
  exact ⟨by rw [W4 (Wu hz1)],g1.trans g3⟩
 ·have h4:z≠y:=Ws h4
  exact ⟨⟨by omega,by omega⟩,⟨j + 1,by simp,h3,by rw [Wz,hz1,Wy]; simp [hn,X2 h4],g3⟩,bx h3⟩
variable {w:YC} {L:List ay} {g:af} {x:GA} {a a2:YB} {l c l2 c2:Nat} {I J:List ag}
theorem Rg (I:List ag):(lay I).length<=I.length:=jl (fC I).nodup λx hx=>eO.1 hx
theorem JJ (hx:a_ (hp w) I a l) (hb:(l + 1) * 16<=140737488355328):aA Tryz.prog uJ [.slice a l c] w λv w'=>∃ o c',v = .slice o (lay I).length c'/\St w' (own 2 o (lay I).length c' (tv (lay I)) :: all w):=by
 have hl:=hx.1
 refine qV ⟨λo n c' z w'=>∃ j:Nat,z = j/\j<=l/\n = (lay (I.take j)).length/\St w' (own 2 o n c' (tv (lay (I.take j))) :: all w),λ_ _ _ z _=>l - z.toNat,⟨0,rfl,WC _,rfl,az 2 (St.all w)⟩,?_⟩
 rintro _ o _ c1 _ w1 ⟨j,rfl,hj,rfl,h⟩
 refine ae (λh1=>?_) λh1=>?_
 rotate_left
 ·have h1:j = l:=by have:=Ws h1; omega
  rw [h1,WN (by omega)] at h ⊢
  exact ⟨_,_,rfl,h⟩
 have h1:j < l:=by have:=Wr h1; omega
 obtain ⟨y,ad,hy,rfl,cy⟩:=cr hx h1
 have hT:lay (I.take (j + 1)) = sI y (lay (I.take j)):=by rw [Wz,hy,XC,Oy]
 have hS:=fC (I.take j)
 have hn:(lay (I.take j)).length<=j:=by have:=Rg (I.take j); rw [WV] at this; omega
 generalize lay (I.take j) = out at h hT hS hn
 generalize hO2:lay (I.take (j + 1)) = out2 at hT
 have row:av (hp w) (ad.add (cY j 2)) (cj y):=by
  obtain ⟨ad',vs,e,r,e2⟩:=hx.2 j y hy
  cases e; rw [show vs = cj y from e2] at r; exact r
 refine ⟨λz w'=>∃ t:Nat,z = t/\t<=out.length/\(∀ (k:Nat) u,k < t->out[k]? = some u->u.lt y)/\(∀ u,out[t]? = some u->¬u.lt y)/\St w' (own 2 o out.length c1 (tv out) :: all w),?_,?_⟩
 ·refine ⟨λz w'=>∃ t:Nat,z = t/\t<=out.length/\(∀ (k:Nat) u,k < t->out[k]? = some u->u.lt y)/\St w' (own 2 o out.length c1 (tv out) :: all w),λz _=>out.length - z.toNat,⟨0,rfl,WC _,λk u hk=>by omega,h⟩,?_⟩
  clear h
  rintro _ _ w2 ⟨t,rfl,ht,hlt,h⟩
  intro w3 hd
  have h:=h.eq (aB hd)
  have s3:sub (hp w) (hp w3):=aU 1 h.l
  refine ⟨λu=>Gr w3 u,Gr.refl _,ae (λh2=>?_) λh2=>?_⟩
  rotate_left
  ·have h2:t = out.length:=by have:=Ws h2; omega
   exact ⟨t,rfl,ht,hlt,λu hu=>by rw [h2] at hu; simp at hu,h⟩
  have h2:t < out.length:=by have:=Wr h2; omega
  obtain ⟨u,ad2,hu,rfl,cu⟩:=cr (cq h) h2
  have rowu:av (hp w3) (ad2.add (cY t 2)) (cj u):=by
   obtain ⟨ad',vs,e,r,e2⟩:=(cq h).2 t u hu
   cases e; rw [show vs = cj u from e2] at r; exact r
  have eW:u.lt y->ax ((t:Int) + 1)/\(∃ t' : Nat,(t:Int) + 1 = t'/\t'<=out.length/\(∀ (k:Nat) u,k < t'->out[k]? = some u->u.lt y)/\St w3 (own 2 (some ad2) out.length c1 (tv out) :: all w))/\out.length - ((t:Int) + 1).toNat < out.length - (t:Int).toNat:=λhlu =>
   ⟨⟨by omega,by omega⟩,⟨t + 1,by simp,h2,λk v hk hv=>by
    by_cases e:k = t
    ·subst e; rw [hu] at hv; cases hv; exact hlu
    ·exact hlt k v (by omega) hv,h⟩,bx h2⟩
  have stp:¬u.lt y->∃ t' : Nat,(t:Int) = t'/\t'<=out.length/\(∀ (k:Nat) u,k < t'->out[k]? = some u->u.lt y)/\(∀ u,out[t']? = some u->¬u.lt y)/\St w3 (own 2 (some ad2) out.length c1 (tv out) :: all w):=λhlu =>
   ⟨t,rfl,ht,hlt,λv hv=>by rw [hu] at hv; cases hv; exact hlu,h⟩
  have cA:∀ v,Gr w3 v->v.cell? (ad2.add (cY t 2)) = some (.int .i64 u.prod):=λv s=>rowu.cell0 s
  have cB:∀ v,Gr w3 v->v.cell? (ad.add (cY j 2)) = some (.int .i64 y.prod):=λv s=>row.cell0 (sub.trans s3 s)
  have cC:∀ v,Gr w3 v->v.cell? ((ad2.add (cY t 2)).add 1) = some (.int .i64 u.dot):=λv s=>rowu.cell s (j:=1) rfl
  have cD:∀ v,Gr w3 v->v.cell? ((ad.add (cY j 2)).add 1) = some (.int .i64 y.dot):=λv s=>row.cell (sub.trans s3 s) (j:=1) rfl
  refine aq rfl h2 ⟨_,cA,aq rfl h1 ⟨_,cB,ae (λh3=>eW (.inl (Wr h3))) λh3=>aq rfl h2 ⟨_,cA,aq rfl h1 ⟨_,cB,ae (λh4=>?_) λh4=>?_⟩⟩⟩⟩
  ·have h4:=Yo.1 h4
   refine aq rfl h2 ⟨_,cC,aq rfl h1 ⟨_,cD,ae (λh5=>eW (.inr ⟨h4,Wr h5⟩)) λh5=>stp ?_⟩⟩
   have h5:=Ws h5
   rintro (h | ⟨_,h⟩) <;> omega
  ·have h3:=Ws h3
   have h4:=Ya.1 h4
   exact stp (by rintro (h | ⟨h,_⟩) <;> omega)
 clear h
 rintro _ _ w10 ⟨t,rfl,ht,hlt,hge,h⟩
 intro w11 hd
 have h:=h.eq (aB hd)
 have s11:sub (hp w) (hp w11):=aU 1 h.l
 have hlc:=fa h
 have eW:∀ (o' : YB) (c' : Nat) w',St w' (own 2 o' out2.length c' (tv out2) :: all w) ->
   ax ((j:Int) + 1)/\(∃ j' : Nat,(j:Int) + 1 = j'/\j'<=l/\out2.length = (lay (I.take j')).length/\St w' (own 2 o' out2.length c' (tv (lay (I.take j'))) :: all w))/\l - ((j:Int) + 1).toNat < l - (j:Int).toNat:=λo' c' w' h =>
  ⟨⟨by omega,by omega⟩,⟨j + 1,by simp,h1,by rw [hO2],by rw [hO2]; exact h⟩,bx h1⟩
 have z1:(0 + t) * 16<=140737488355328/\0 + t<=9223372036854775807:=by omega
 have z2:(0 + t + 1) * 16<=140737488355328/\0 + t < 9223372036854775807:=by omega
 have z3:(0 + t + 1 + (out.length - t)) * 16<=140737488355328/\0 + t + 1 + (out.length - t)<=9223372036854775807:=by omega
 have hins:(∀ u,out[t]? = some u->u≠y)->sI y out = out.take t ++ y :: out.drop t:=λhne=>TC hS hlt λu hu=>(ag.KV (hne u hu)).resolve_left (hge u hu)
 refine ⟨λu=>Gr w11 u,Gr.refl _,ae (λh2=>?_) λh2=>?_⟩
 ·have h2:t < out.length:=by have:=Wr h2; omega
  obtain ⟨u,ad2,hu,rfl,cu⟩:=cr (cq h) h2
  refine aq rfl h2 ⟨_,_,cu,aq rfl h1 ⟨_,_,λu s=>cy u (sub.trans s11 s),_,λv _=>Cd v _ _ u y,_,rfl,ae (λh3=>?_) λh3=>?_⟩⟩
  ·have h3:u = y:=Wr h3
   subst h3
   rw [Rf hS (Wu hu)] at hT
   have:=eW (some ad2) c1 w11 (by rw [hT]; exact h)
   rwa [hT] at this
  have h3:u≠y:=Ws h3
  have hT2:=hT.trans (hins λv hv=>by rw [hu] at hv; cases hv; exact h3)
  refine ub (by omega) ?_
  rw [US]
  refine (uf (news:=tv (out.take t)) aQ (rfl:aj Ty _ = .slice _) (rfl:aj Ty _ = .slice _) rfl rfl rfl (az 2 h) (by rw [dH,WV,Yk ht]) (by show 0 < 2; decide) (s8 ((cq h).take ht)) (Ch _) z1.1 z1.2).mono ?_
  rintro _ w15 ⟨o3,c3,rfl,h⟩
  refine ⟨_,_,_,rfl,aq rfl h1 ⟨_,_,cy w15 (aU 2 h.l),ah h λk7 w16 h=>?_⟩⟩
  refine (aN (us:=tv (out.take t)) aQ (rfl:aj Ty _ = .slice _) (rfl:aj Ty _ = .slice _) rfl rfl rfl h rfl (by simp [aV]) z2.1 z2.2).mono ?_
  rintro _ w17 ⟨o4,c4,rfl,h⟩
  refine ⟨_,_,_,rfl,dG ht hlc ?_⟩
  refine (uf (news:=tv (out.drop t)) aQ (rfl:aj Ty _ = .slice _) (rfl:aj Ty _ = .slice _) rfl rfl rfl h (by rw [dH,XK]) (by show 0 < 2; decide) (s8 ((cq (h.pick 3 [2])).drop ht hlc)) (Ch _) z3.1 z3.2).mono ?_
  rintro _ w18 ⟨o5,c5,rfl,h⟩
  refine ⟨_,_,_,rfl,?_⟩
  have el:0 + t + 1 + (out.length - t) = out2.length:=by rw [hT2,WA,Xj,WV,XK,Yk ht]; omega
  have ev:(tv (out.take t) ++ [.int .i64 y.prod,.int .i64 y.dot]) ++ tv (out.drop t) = tv out2:=by
   rw [hT2,mR,xy,WG]; rfl
  have h:St w18 (own 2 o5 (0 + t + 1 + (out.length - t)) c5 ((tv (out.take t) ++ [.int .i64 y.prod,.int .i64 y.dot]) ++ tv (out.drop t)) :: all w):=h.pick 4 [0,3]
  rw [el,ev] at h
  rw [el]
  exact eW o5 c5 w18 h
 ·have h2:t = out.length:=by have:=Ws h2; omega
  have hT2:=hT.trans (hins λv hv=>by rw [h2] at hv; simp at hv)
  refine ub (by omega) ?_
  rw [US]
  refine (uf (news:=tv (out.take t)) aQ (rfl:aj Ty _ = .slice _) (rfl:aj Ty _ = .slice _) rfl rfl rfl (az 2 h) (by rw [dH,WV,Yk ht]) (by show 0 < 2; decide) (s8 ((cq h).take ht)) (Ch _) z1.1 z1.2).mono ?_
  rintro _ w15 ⟨o3,c3,rfl,h⟩
  refine ⟨_,_,_,rfl,aq rfl h1 ⟨_,_,cy w15 (aU 2 h.l),ah h λk7 w16 h=>?_⟩⟩
  refine (aN (us:=tv (out.take t)) aQ (rfl:aj Ty _ = .slice _) (rfl:aj Ty _ = .slice _) rfl rfl rfl h rfl (by simp [aV]) z2.1 z2.2).mono ?_
  rintro _ w17 ⟨o4,c4,rfl,h⟩
  refine ⟨_,_,_,rfl,dG ht hlc ?_⟩
  refine (uf (news:=tv (out.drop t)) aQ (rfl:aj Ty _ = .slice _) (rfl:aj Ty _ = .slice _) rfl rfl rfl h (by rw [dH,XK]) (by show 0 < 2; decide) (s8 ((cq (h.pick 3 [2])).drop ht hlc)) (Ch _) z3.1 z3.2).mono ?_
  rintro _ w18 ⟨o5,c5,rfl,h⟩
  refine ⟨_,_,_,rfl,?_⟩
  have el:0 + t + 1 + (out.length - t) = out2.length:=by rw [hT2,WA,Xj,WV,XK,Yk ht]; omega
  have ev:(tv (out.take t) ++ [.int .i64 y.prod,.int .i64 y.dot]) ++ tv (out.drop t) = tv out2:=by
   rw [hT2,mR,xy,WG]; rfl
  have h:St w18 (own 2 o5 (0 + t + 1 + (out.length - t)) c5 ((tv (out.take t) ++ [.int .i64 y.prod,.int .i64 y.dot]) ++ tv (out.drop t)) :: all w):=h.pick 4 [0,3]
  rw [el,ev] at h
  rw [el]
  exact eW o5 c5 w18 h
end Go.Proofs.YtndaepmjkbmjmaaGreatDoor
namespace Go.V
section
variable {g:af} {I ls:List ag} {bs:List Bool} {i:Nat} {x y:ag}
theorem ak.left (h:ak g) {p:aH} (hp:p∈g.prods):(g.T:Int)<=p.left:=by
 obtain ⟨_,h1,h2,p0,hp0,hl,_⟩:=h
 obtain ⟨n,hn⟩:=W3 hp
 cases n with
 | zero=>rw [hp0] at hn; cases hn; omega
 | succ n =>
  have hm:p∈g.prods.drop 1:=by
   refine Wu (i:=n) ?_
   rw [W8,Yv]; exact hn
  have:=((h2.2.2.1 p hm).1).1
  omega
theorem Rh (hc:ak g) (hf:jZ g x) (h0:0<=cO g x):1<=cO g x/\cO g x < g.T + g.N:=by
 obtain ⟨p,hp,_,h3⟩:=Ca hf rfl h0
 exact hc.sym (Wu hp) (Wu h3)
structure vO (g:af) (I:List ag) (bs:List Bool) (i:Nat) (ls:List ag):Prop where
 nd:ls.Nodup
 sb:∀ x∈I,x∈ls
 ok:∀ x∈ls,nZ g I x
 ln:bs.length = g.T + g.N
 bt:∀ s:Nat,bs[s]? = some true->∀ k∈Cg g s,El k∈ls
 dn:∀ (j:Nat) y,j < i->ls[j]? = some y->(g.T:Int)<=cO g y->bs[(cO g y).toNat]? = some true
theorem vO.start:vO g I (List.replicate (g.T + g.N) false) 0 (lay I) :=
 ⟨(fC I).nodup,λx hx=>eO.2 hx,λx hx=>.base (eO.1 hx),by simp,λs hs=>by rw [XM] at hs; split at hs <;> simp at hs,λj y hj=>by omega⟩
theorem HJ (h1:ls.Nodup) (h2:∀ x∈ls,nZ g I x):ls.length<=I.length + g.prods.length:=by
 have:=jl (m:=I ++ (List.range g.prods.length).map El) h1 λx hx=>by
  rw [Wy]
  rcases (h2 x hx).or with h | ⟨i,hi,rfl⟩
  ·exact .inl h
  ·exact .inr (WS.2 ⟨i,WY.2 hi,rfl⟩)
 simpa using this
theorem vO.len (h:vO g I bs i ls):ls.length<=I.length + g.prods.length:=HJ h.nd h.ok
theorem vO.skip (h:vO g I bs i ls) (hy:ls[i]? = some y) (hs:cO g y < g.T\/bs[(cO g y).toNat]? = some true):vO g I bs (i + 1) ls :=
 ⟨h.nd,h.sb,h.ok,h.ln,h.bt,λj z hj hz h0=>by
  by_cases e:j = i
  ·subst e; rw [hy] at hz; cases hz
   rcases hs with hs | hs
   ·omega
   ·exact hs
  ·exact h.dn j z (by omega) hz h0⟩
structure FK (g:af) (I:List ag) (s:Int) (ls:List ag) (j:Nat) (ms:List ag):Prop where
 nd:ms.Nodup
 pre:∃ ex,ms = ls ++ ex
 ok:∀ x∈ms,nZ g I x
 al:∀ k∈MY g j s,El k∈ms
theorem vO.inner (h:vO g I bs i ls) (s:Int):FK g I s ls 0 ls:=⟨h.nd,⟨[],by simp⟩,h.ok,λk hk=>by simp [MY] at hk⟩
theorem vO.more {ms:List ag} (h:vO g I bs i ls) (hy:ls[i]? = some y) (h0:0<=cO g y) (hl:(cO g y).toNat < bs.length) (hJ:FK g I (cO g y) ls g.prods.length ms):vO g I (bs.set (cO g y).toNat true) (i + 1) ms:=by
 obtain ⟨ex,rfl⟩:=hJ.pre
 refine ⟨hJ.nd,λx hx=>Yh _ (h.sb x hx),hJ.ok,by rw [W1]; exact h.ln,λs hs k hk=>?_,λj z hj hz h1=>?_⟩
 ·by_cases e:(cO g y).toNat = s
  ·have e2:(s:Int) = cO g y:=by omega
   rw [e2] at hk
   exact hJ.al k hk
  ·rw [Yi e] at hs
   exact Yh _ (h.bt s hs k hk)
 ·have hjl:j < ls.length:=by have:=(Wt.1 hy).1; omega
  rw [WI hjl] at hz
  by_cases e:(cO g y).toNat = (cO g z).toNat
  ·rw [<- e,X_ hl]
  ·rw [Yi e]
   by_cases e2:j = i
   ·subst e2; rw [hy] at hz; cases hz; exact absurd rfl e
   ·exact h.dn j z (by omega) hz h1
theorem vO.fin (h:vO g I bs i ls) (hc:ak g) (hi:i = ls.length):lay ls = cls g I:=by
 refine KW (fC _) λx=>?_
 rw [eO]
 refine ⟨h.ok x,λhx=>?_⟩
 induction hx with
 | base hx=>exact h.sb _ hx
 | @step y k p _ h1 h2 h3 ih =>
  obtain ⟨j,hj⟩:=W3 ih
  have hl:=hc.left (Wu h2)
  have:=h.dn j y (by have:=(Wt.1 hj).1; omega) hj (by omega)
  exact h.bt _ this k (pq.2 ⟨p,h2,by rw [h3]; omega⟩)
theorem FK.skip {s:Int} {j:Nat} {ms:List ag} {p:aH} (h:FK g I s ls j ms) (hp:g.prods[j]? = some p) (hs:p.left≠s\/El j∈ms):FK g I s ls (j + 1) ms :=
 ⟨h.nd,h.pre,h.ok,λk hk=>by
  rw [sZ hp,Wy] at hk
  rcases hk with hk | hk
  ·exact h.al k hk
  ·split at hk
   ·rename_i e
    simp at hk; subst hk
    rcases hs with hs | hs
    ·exact absurd e.symm hs
    ·exact hs
   ·simp at hk⟩
theorem FK.put {s:Int} {j:Nat} {ms:List ag} {p:aH} (h:FK g I s ls j ms) (hp:g.prods[j]? = some p) (hs:p.left = s) (hn:El j∉ms) (hy:nZ g I y) (ha:cO g y = s) (h0:0<=s):FK g I s ls (j + 1) (ms ++ [El j]):=by
 obtain ⟨ex,rfl⟩:=h.pre
 refine ⟨?_,⟨ex ++ [El j],by simp⟩,λx hx=>?_,λk hk=>?_⟩
 ·rw [Xb]
  exact ⟨h.nd,by simp,λa ha b hb e=>by simp at hb; subst hb; subst e; exact hn (by simpa using ha)⟩
 ·rw [Wy,WW] at hx
  rcases hx with hx | rfl
  ·exact h.ok x hx
  ·exact .step hy (by omega) hp (by omega)
 ·rw [sZ hp,Wy] at hk
  rcases hk with hk | hk
  ·exact Yh _ (h.al k hk)
  ·split at hk
   ·simp at hk; subst hk; simp
   ·simp at hk
end
end Go.V
namespace Go.Proofs.YtndaepmjkbmjmaaGreatDoor
variable {w:YC} {L:List ay} {g:af} {x:GA} {a a2:YB} {l c l2 c2:Nat} {I J:List ag}
theorem Em (hg:gR (hp w) g x) (hb:ik g) (hc:ak g) (hx:a_ (hp w) I a l) (hf:xz g I) (hl:l * 16<=140737488351232):aA Tryz.prog qP [.agg ⟨x.cells⟩,.slice a l c] w λv w'=>∃ o c',v = .slice o (cls g I).length c'/\St w' (own 2 o (cls g I).length c' (tv (cls g I)) :: all w):=by
 have hll:=hx.1
 obtain ⟨hT,hN,hP,hP2,hT1,hN2⟩:=hc.ct
 refine od (cN hg λk1 w1 gw hg B=>?_)
 refine (JJ (hx.mono gw) (by omega)).mono ?_
 rintro _ w2 ⟨o1,c1,rfl,h⟩
 refine ⟨_,_,_,rfl,_,_,_,_,_,_,_,_,_,_,_,_,_,B.row h.aZ,(jk (hg.mono h.aZ) hb).mono ?_⟩
 rintro _ w3 ⟨rfl,g3⟩
 have h:=h.gr g3
 have en:((g.T:Int) + g.N) = ((g.T + g.N:Nat):Int):=by omega
 rw [en]
 refine ⟨_,rfl,⟨by omega,rfl,by omega⟩,?_⟩
 have e0:jB (Int.toNat ((g.T + g.N:Nat):Int)) [Value.bool false] = bv (List.replicate (g.T + g.N) false):=by rw [de,WQ]; simp [bv]
 rw [e0,WQ]
 refine ah h λk12 w4 h=>?_
 have hll2:=hll
 refine ⟨λo n c' z w'=>∃ (i:Nat) (ls:List ag) (bs:List Bool),z = i/\n = ls.length/\i<=ls.length/\vO g I bs i ls/\St w' (own 2 o n c' (tv ls) :: aK k12 (bv bs) :: all w1),λ_ _ _ z _=>(l + g.prods.length) - z.toNat,
  ⟨0,lay I,_,rfl,rfl,WC _,.start,h.pick 2 [1,0]⟩,?_⟩
 clear h
 rintro _ o _ c2 _ w5 ⟨i,ls,bs,rfl,rfl,hi,hD,h⟩
 have hlen:=hD.len
 rw [hll] at hlen
 have hfin:l + g.prods.length<=8796093022100:=by omega
 refine ae (λh1=>?_) λh1=>?_
 rotate_left
 ·have h1:i = ls.length:=by have:=Ws h1; omega
  have e:=hD.fin hc h1
  have hr:a_ (hp w5) ls o ls.length:=cq h
  refine (JJ hr (by omega)).mono ?_
  rintro _ w17 ⟨o7,c7,rfl,h7⟩
  rw [e] at h7 ⊢
  exact ⟨_,_,_,rfl,_,_,rfl,h7.qk (ft (bC gw) (aU 2 h.l))⟩
 have h1:i < ls.length:=by have:=Wr h1; omega
 obtain ⟨y,ad,hy,rfl,cy⟩:=cr (cq h) h1
 have hyo:=hD.ok y (Wu hy)
 have hyf:jZ g y:=hyo.fit hf
 intro w6 hd
 have h:=h.eq (aB hd)
 have s6:sub (hp w1) (hp w6):=aU 2 h.l
 refine ⟨λu=>Gr w6 u,Gr.refl _,_,_,_,_,_,_,_,_,_,_,_,_,_,λu s=>B.row (sub.trans s6 s),aq rfl h1 ⟨_,_,λu s=>cy u (sub.trans (Gr.drawn hd) s),(A0 (hg.mono s6) hyf).mono ?_⟩⟩
 rintro _ w9 ⟨rfl,g9⟩
 have h:=h.gr g9
 have s9:sub (hp w1) (hp w9):=aU 2 h.l
 have hTl:g.T = x.tl:=hg.t.1
 refine ⟨_,rfl,g9,_,_,_,B.c0 s9,ae (λh2=>?_) λh2=>?_⟩
 ·have h2:=Wr h2
  exact ⟨⟨by omega,by omega⟩,⟨i + 1,ls,bs,by simp,rfl,h1,hD.skip hy (.inl (by omega)),h⟩,bx (Yf h1 hlen)⟩
 have h2:(g.T:Int)<=cO g y:=by have:=Ws h2; omega
 obtain ⟨_,ha2⟩:=Rh hc hyf (by omega)
 obtain ⟨s,hs⟩ : ∃ s:Nat,cO g y = s:=⟨(cO g y).toNat,by omega⟩
 have hsl:s < bs.length:=by have:=hD.ln; omega
 rw [hs]
 have hb0:(bv bs)[s]? = some (.bool bs[s]):=by unfold bv; rw [Wx,Wv hsl]; rfl
 refine aw rfl (by have:=hD.ln; omega) ⟨_,(ai 1 h.l).cell (sub.refl _) (j:=s) hb0,ae (λh3=>?_) λh3=>?_⟩
 ·exact ⟨⟨by omega,by omega⟩,⟨i + 1,ls,bs,by simp,rfl,h1,hD.skip hy (.inr (by rw [hs,WQ,Wv hsl,h3])),h⟩,bx (Yf h1 hlen)⟩
 refine aw rfl (by have:=hD.ln; omega) ?_
 rw [aL]
 refine bj (h.pick 2 [1,0]) (by rw [mM]; exact hsl) λw10 h=>?_
 rw [AW] at h
 have pl:=hg.p.1
 refine ⟨λo n c' z w'=>∃ (j:Nat) (ms:List ag),z = j/\n = ms.length/\j<=x.pl/\FK g I s ls j ms/\St w' (own 2 o n c' (tv ms) :: aK k12 (bv (bs.set s true)) :: all w1),λ_ _ _ z _=>x.pl - z.toNat,
  ⟨0,ls,rfl,rfl,WC _,hD.inner s,h.pick 2 [1,0]⟩,?_⟩
 clear h cy
 rintro _ o _ c4 _ w11 ⟨j,ms,rfl,rfl,hj,hJ,h⟩
 have hml:=HJ hJ.nd hJ.ok
 rw [hll] at hml
 have s11:sub (hp w1) (hp w11):=aU 2 h.l
 refine ⟨_,_,_,B.c4 s11,ae (λh4=>?_) λh4=>?_⟩
 rotate_left
 ·have h4:j = g.prods.length:=by have:=Ws h4; omega
  rw [h4] at hJ
  have hD2:=hD.more hy (by omega) (by rw [hs]; exact hsl) (by rw [hs]; exact hJ)
  rw [hs,WQ] at hD2
  obtain ⟨ex,hex⟩:=hJ.pre
  refine ⟨⟨by omega,by omega⟩,⟨i + 1,ms,_,by simp,rfl,?_,hD2,h⟩,bx (Yf h1 hlen)⟩
  rw [hex,WA]; exact Nat.le_add_right_of_le h1
 have h4:j < x.pl:=by have:=Wr h4; omega
 refine ah h λk29 w12 h=>bu h rfl (by simp [aV]) λw13 h=>?_
 obtain ⟨p,pad,vs,hp1,hpa,hp2,ra,rl,rc,rfl,hrc,hp3⟩:=hg.p.get h4
 have s13:sub (hp w1) (hp w13):=aU 3 h.l
 have hj1:ax ((j:Int) + 1):=⟨by omega,by omega⟩
 refine ⟨_,_,_,B.c4 s13,aq hpa h4 ⟨_,hp2.cell0 s13,ae (λh5=>?_) λh5=>?_⟩⟩
 ·have h5:p.left≠s:=bne_iff_ne.1 h5
  exact ⟨hj1,⟨j + 1,ms,by simp,rfl,h4,hJ.skip hp1 (.inl h5),h.pick 4 [1,2,3]⟩,bx h4⟩
 have h5:p.left = s:=bne_eq_false_iff_eq.1 h5
 refine ⟨_,_,(ai 0 h.l).at (sub.refl _) rfl,(UT (y:=El j) (cq (h.pick 2 [1])) (by omega)).mono ?_⟩
 rintro _ w14 ⟨rfl,g14⟩
 have h:=h.gr g14
 refine ⟨_,rfl,ae (λh6=>?_) λh6=>?_⟩
 rotate_left
 ·have h6:El j∈ms:=by simpa using h6
  exact ⟨hj1,⟨j + 1,ms,by simp,rfl,h4,hJ.skip hp1 (.inr h6),h.pick 4 [1,2,3]⟩,bx h4⟩
 have h6:El j∉ms:=by simpa using h6
 have hJ2:=hJ.put hp1 h5 h6 hyo hs (W7 _)
 have z1:(ms.length + 1) * 16<=140737488355328/\ms.length < 9223372036854775807:=by omega
 refine ⟨_,_,(ai 0 h.l).at (sub.refl _) rfl,ah h λk32 w15 h=>?_⟩
 refine (aN (us:=tv ms) aQ (rfl:aj Ty _ = .slice _) (rfl:aj Ty _ = .slice _) rfl rfl rfl (h.pick 3 [0,2]) rfl (by simp [aV]) z1.1 z1.2).mono ?_
 rintro _ w16 ⟨o15,c15,rfl,h⟩
 have e:tv (ms ++ [El j]) = tv ms ++ [.int .i64 (j:Int),.int .i64 0]:=by rw [mR]; rfl
 refine ⟨_,_,_,rfl,hj1,⟨j + 1,ms ++ [El j],by simp,by simp,h4,hJ2,?_⟩,bx h4⟩
 rw [e]
 exact h.pick 4 [0,2,3]
theorem TD {s:Int} (hg:gR (hp w) g x) (hb:ik g) (hx:a_ (hp w) I a l) (hf:xz g I) (hl:l<=8796093022100):aA Tryz.prog uH [.agg ⟨x.cells⟩,.int .i64 s,.slice a l c] w λv w'=>∃ o c',v = .slice o (lay (dP g I s)).length c'/\St w' (own 2 o (lay (dP g I s)).length c' (tv (lay (dP g I s))) :: all w):=by
 have hll:=hx.1
 obtain ⟨_,_,_,_,_,_,hbr⟩:=id hb
 refine qR (cN hg λk1 w1 gw hg B=>?_)
 have hx:=hx.mono gw
 refine ⟨λo n c' z w'=>∃ j:Nat,z = j/\j<=l/\n = (dP g (I.take j) s).length/\St w' (own 2 o n c' (tv (dP g (I.take j) s)) :: all w1),λ_ _ _ z _=>l - z.toNat,⟨0,rfl,WC _,rfl,az 2 (St.all w1)⟩,?_⟩
 rintro _ o _ c1 _ w2 ⟨j,rfl,hj,rfl,h⟩
 have hkl:(dP g (I.take j) s).length<=j:=by have:=ug g (I.take j) s; rw [WV] at this; omega
 refine ae (λh1=>?_) λh1=>?_
 rotate_left
 ·have h1:j = l:=by have:=Ws h1; omega
  rw [h1,WN (by omega)] at h hkl
  rw [h1,WN (by omega)]
  refine (JJ (cq h) (by omega)).mono ?_
  rintro _ w12 ⟨o7,c7,rfl,h7⟩
  exact ⟨_,_,_,rfl,_,_,rfl,h7.qk (ft (bC gw) (aU 1 h.l))⟩
 have h1:j < l:=by have:=Wr h1; omega
 obtain ⟨y,ad,hy,rfl,cy⟩:=cr hx h1
 have row:av (hp w1) (ad.add (cY j 2)) (cj y):=by
  obtain ⟨ad',vs,e,r,e2⟩:=hx.2 j y hy
  cases e; rw [show vs = cj y from e2] at r; exact r
 have hyf:=hf y (Wu hy)
 have hyd:0<=y.dot/\y.dot<=17592186043904:=by
  obtain ⟨_,h2,p,hp,h3⟩:=hyf
  have:=hbr p (Wu hp); omega
 have hk1:dP g (I.take (j + 1)) s = if s = cO g y then dP g (I.take j) s ++ [⟨y.prod,y.dot + 1⟩] else dP g (I.take j) s:=by
  rw [Wz,hy,XC,Ci]
 have hj1:ax ((j:Int) + 1):=⟨by omega,by omega⟩
 have z1:((dP g (I.take j) s).length + 1) * 16<=140737488355328/\(dP g (I.take j) s).length < 9223372036854775807:=⟨W0 (X7 16 (Nat.succ_le_succ hkl)) (by omega),Nat.lt_of_le_of_lt hkl (by omega)⟩
 generalize dP g (I.take j) s = K at h hk1 z1 hkl
 intro w3 hd
 have h:=h.eq (aB hd)
 have s3:sub (hp w1) (hp w3):=aU 1 h.l
 refine ⟨λu=>sub (hp w1) (hp u),s3,_,_,_,_,_,_,_,_,_,_,_,_,_,λu s=>B.row s,aq rfl h1 ⟨_,_,λu s=>cy u s,(A0 (hg.mono s3) hyf).mono ?_⟩⟩
 rintro _ w6 ⟨rfl,g6⟩
 have h:=h.gr g6
 refine ⟨_,rfl,aU 1 h.l,ae (λh2=>?_) λh2=>?_⟩
 ·have h2:s = cO g y:=(Yo.1 h2).symm
  rw [WJ h2] at hk1
  intro w7 hd7
  have h:=h.eq (aB hd7)
  refine ⟨λu=>sub (hp w1) (hp u),aU 1 h.l,aq rfl h1 ⟨_,λu s=>row.cell0 s,aq rfl h1 ⟨_,λu s=>row.cell s (j:=1) rfl,⟨by omega,by omega⟩,ah h λk12 w10 h=>⟨aU 2 h.l,?_⟩⟩⟩⟩
  refine (aN (us:=tv K) aQ (rfl:aj Ty _ = .slice _) (rfl:aj Ty _ = .slice _) rfl rfl rfl h rfl (by simp [aV]) z1.1 z1.2).mono ?_
  rintro _ w11 ⟨o6,c6,rfl,h⟩
  have e:tv (K ++ [⟨y.prod,y.dot + 1⟩]) = tv K ++ [.int .i64 y.prod,.int .i64 (y.dot + 1)]:=by rw [mR]; rfl
  refine ⟨_,_,_,rfl,aU 2 h.l,hj1,⟨j + 1,by simp,h1,by rw [hk1]; simp,?_⟩,bx h1⟩
  rw [hk1,e]
  exact h.pick 3 [0,2]
 ·have h2:s≠cO g y:=λe=>by rw [e] at h2; simp at h2
  rw [WB h2] at hk1
  exact ⟨hj1,⟨j + 1,by simp,h1,by rw [hk1],by rw [hk1]; exact h⟩,bx h1⟩
theorem Ri (hf:xz g I):xz g (cls g I):=λx hx=>(iN.1 hx).fit hf
end Go.Proofs.YtndaepmjkbmjmaaGreatDoor
