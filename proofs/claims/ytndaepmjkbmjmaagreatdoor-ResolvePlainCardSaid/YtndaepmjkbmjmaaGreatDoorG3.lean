/- Texts of this claim, one behind the other. -/
import Derived.Test.YtndaepmjkbmjmaaGreatDoorG2
import Derived.Shelf.SlSortCmp.NoneTotal
import Derived.Shelf.Sort.Plain
import Derived.Test.YtndaepmjkbmjmaaGreatDoorG1
import Derived.Shelf.Slices.In.SortNone
import Derived.Maps.RangeRun
import Derived.Laws.IdiomStrings
import Derived.Laws.StructEq
set_option linter.unusedVariables false
set_option linter.unusedSectionVars false
set_option maxRecDepth 100000
set_option maxHeartbeats 16000000
namespace Go.V
end Go.V
namespace Go.Proofs.YtndaepmjkbmjmaaGreatDoor
end Go.Proofs.YtndaepmjkbmjmaaGreatDoor
open Go.V Go.Proofs.YtndaepmjkbmjmaaGreatDoor
namespace Go.V
theorem My {α : Sort _} (a:α):∃ q,q = a:=⟨a,rfl⟩
theorem Mz {h:Hp} {a:Addr} {us vs:List Value} (h1:av h a us) (h2:av h (a.add us.length) vs):av h a (us ++ vs):=λj v hj=>by
 by_cases hl:j < us.length
 ·rw [UQ hl] at hj; exact h1 j v hj
 ·rw [UP (by omega)] at hj
  have:=h2 _ v hj
  rw [add_add,show us.length + (j - us.length) = j from by omega] at this
  exact this
theorem rr {α : Type} {h:Hp} {n:Nat} {f:α->List Value} (hf:∀ x,(f x).length = n):∀ (ts:List α) (ad:Addr),(∀ (i:Nat) x,ts[i]? = some x->av h (ad.add (cR i n)) (f x))->av h ad (ts.flatMap f)
 | [],ad,_=>λj v hj=>by simp at hj
 | t :: ts,ad,hh=>by
  rw [U6]
  refine Mz ?_ ?_
  ·have:=hh 0 t rfl
   rwa [aF,Nat.zero_mul,show ad.add 0 = ad from by simp [Addr.add]] at this
  ·rw [hf]
   refine rr hf ts _ λi x hx=>?_
   have:=hh (i + 1) x hx
   rw [add_add,aF]
   rwa [aF,V0,Nat.add_comm] at this
theorem bZ {α : Type} {h:Hp} {n:Nat} {f:α->List Value} (hf:∀ x,(f x).length = n):∀ (ts:List α) (ad:Addr),av h ad (ts.flatMap f)->∀ (i:Nat) x,ts[i]? = some x->av h (ad.add (cR i n)) (f x)
 | [],ad,_,i,x,hx=>by simp at hx
 | t :: ts,ad,hh,i,x,hx=>by
  rw [U6] at hh
  match i,hx with
  | 0,hx =>
   cases hx
   rw [aF,Nat.zero_mul,show ad.add 0 = ad from by simp [Addr.add]]
   exact hh.take
  | i + 1,hx =>
   have:=bZ hf ts _ hh.drop i x hx
   rw [hf,add_add,aF] at this
   rwa [aF,V0,Nat.add_comm]
def x_ (t:h_):List Value:=[.string t.name,.int .i64 t.level]
def d_ (ts:List h_):List Value:=ts.flatMap x_
def vk (p:(Wr × Nat) × aO):List Value:=[.int .i64 p.2.left,.slice p.1.1 p.2.right.length p.1.2,.int .i64 p.2.level]
def cU (os:List (Wr × Nat)) (ps:List aO):List Value:=(os.zip ps).flatMap vk
def bB (os:List (Wr × Nat)) (ps:List aO):List au:=List.zipWith (λo p=>own 1 o.1 p.right.length o.2 (iv p.right)) os ps
theorem nZ (ts:List h_):(d_ ts).length = ts.length * 2:=by
 induction ts with
 | nil=>rfl
 | cons t ts ih=>simp only [d_,U6,UG,Vc,x_,VB] at ih ⊢; omega
theorem Pr {h:Hp} {ts:List h_} {ad:Addr} {l:Nat} (r:aX h ts (some ad) l):av h ad (d_ ts) :=
 rr (f:=x_) (n:=2) (λ_=>rfl) ts ad λi x hx=>by
  obtain ⟨ad',vs,e,h1,h2⟩:=r.2 i x hx
  cases e
  have h2:vs = x_ x:=h2
  rw [<- h2]; exact h1
theorem Ps {h:Hp} {ts:List h_} {a:Wr} {l c:Nat} (hl:ts.length = l) (r:own 2 a l c (d_ ts) h):aX h ts a l:=by
 refine ⟨hl,λi x hx=>?_⟩
 rcases cE r with e | ⟨ad,rfl,hc⟩
 ·have:=nZ ts
  rw [e] at this
  have h0:=(UA.1 hx).1
  simp at this; omega
 ·exact ⟨ad,x_ x,rfl,bZ (f:=x_) (n:=2) (λ_=>rfl) ts ad hc i x hx,rfl⟩
theorem HB {os:List (Wr × Nat)} {ps:List aO} {h:Hp} {ad:Addr} (hr:av h ad (cU os ps)) {i:Nat} {o:Wr × Nat} {p:aO} (ho:os[i]? = some o) (hp:ps[i]? = some p):av h (ad.add (cR i 3)) [.int .i64 p.left,.slice o.1 p.right.length o.2,.int .i64 p.level] :=
 bZ (f:=vk) (n:=3) (λ_=>rfl) (os.zip ps) ad hr i (o,p) (by rw [List.getElem?_zip_eq_some]; exact ⟨ho,hp⟩)
theorem HC {os:List (Wr × Nat)} {ps:List aO} (h:os.length = ps.length):(cU os ps).length = ps.length * 3:=by
 have:∀ zs:List ((Wr × Nat) × aO),(zs.flatMap vk).length = zs.length * 3:=λzs=>by
  induction zs with
  | nil=>rfl
  | cons t ts ih=>simp only [U6,UG,Vc,vk,VB] at ih ⊢; omega
 unfold cU; rw [this,List.length_zip,h,Nat.min_self]
theorem Ft {os:List (Wr × Nat)} {ps:List aO} (h:os.length = ps.length) (o:Wr × Nat) (p:aO):cU (os ++ [o]) (ps ++ [p]) = cU os ps ++ vk (o,p):=by
 unfold cU; rw [List.zip_append h]; simp
theorem DJ {os:List (Wr × Nat)} {ps:List aO} (h:os.length = ps.length) (o:Wr × Nat) (p:aO):bB (os ++ [o]) (ps ++ [p]) = bB os ps ++ [own 1 o.1 p.right.length o.2 (iv p.right)]:=by
 unfold bB; rw [List.zipWith_append h]; rfl
def RC (g:ae) (x:GA) (os:List (Wr × Nat)):List au:=[own 3 x.pa g.prods.length x.pc (cU os g.prods),aT (bB os g.prods),own 2 x.ta g.terms.length x.tc (d_ g.terms),own 1 x.na g.nons.length x.nc (g.nons.map λs=>Value.string s),own 1 x.la g.levels.length x.lc (iv g.levels)]
structure Pt (g:ae) (x:GA):Prop where
 t:x.tl = g.terms.length
 n:x.nl = g.nons.length
 l:x.ll = g.levels.length
 s:x.s = g.start
 p:x.pl = g.prods.length
theorem Pu {L:List au} {h:Hp} {os:List (Wr × Nat)} {ps:List aO} {k:Nat} {o:Wr × Nat} {p:aO} (i:Nat) (hl:aG L h) (ho:os[k]? = some o) (hp:ps[k]? = some p) (e:sc L i = aT (bB os ps):=by rfl) (hi:Nat.blt i (zV L) = true:=by rfl):aX h p.right o.1 p.right.length/\p.right.length<=o.2:=by
 obtain ⟨h1,s,ha⟩:=dV i (by simpa [j7] using hi) hl
 rw [e] at ha
 obtain ⟨h2,s2,hb⟩:=qh (A:=own 1 o.1 p.right.length o.2 (iv p.right)) (UC (i:=k) (by unfold bB; rw [List.getElem?_zipWith,ho,hp])) ha
 refine ⟨(dO rfl (cE hb)).mono (s2.trans s),?_⟩
 rcases hb with ⟨_,h,h',_⟩ | ⟨_,_,_,_,_,_,_,_,h⟩ <;> omega
theorem OM {L:List au} {h:Hp} {A:au} (i:Nat) (hl:aG L h) (e:sc L i = A:=by rfl) (hi:Nat.blt i (zV L) = true:=by rfl):∃ h1,sub h1 h/\A h1:=by
 obtain ⟨h1,s,ha⟩:=dV i (by simpa [j7] using hi) hl
 exact ⟨h1,s,e ▸ ha⟩
theorem vl {sz l c:Nat} {a:Wr} {vs:List Value} {h:Hp} (ha:own sz a l c vs h):l<=c:=by
 rcases ha with ⟨_,rfl,rfl,_⟩ | ⟨_,_,_,_,_,_,_,_,h⟩
 ·exact US _
 ·exact h
theorem Jb {g:ae} {x:GA} {os:List (Wr × Nat)} {L:List au} {h:Hp} (hx:Pt g x) (ho:os.length = g.prods.length) (hs:aG (RC g x os ++ L) h):gR h g x:=by
 obtain ⟨h1,s1,a1⟩:=OM (A:=own 3 x.pa g.prods.length x.pc (cU os g.prods)) 0 hs
 obtain ⟨h2,s2,a2⟩:=OM (A:=own 2 x.ta g.terms.length x.tc (d_ g.terms)) 2 hs
 obtain ⟨h3,s3,a3⟩:=OM (A:=own 1 x.na g.nons.length x.nc (g.nons.map λs=>Value.string s)) 3 hs
 obtain ⟨h4,s4,a4⟩:=OM (A:=own 1 x.la g.levels.length x.lc (iv g.levels)) 4 hs
 obtain ⟨q1,q2,q3,q4,q5⟩:=hx
 refine ⟨?_,?_,?_,q4,?_,?_,?_,?_,?_⟩
 ·rw [q1]; exact (Ps rfl a2).mono s2
 ·rw [q2]; exact (dN rfl (cE a3)).mono s3
 ·rw [q3]; exact (dO rfl (cE a4)).mono s4
 ·rw [q5]
  refine ⟨rfl,λi p hp=>?_⟩
  have hi:=(UA.1 hp).1
  obtain ⟨o,hoi⟩ : ∃ o,os[i]? = some o:=⟨os[i]'(by omega),UB _⟩
  rcases cE a1 with e | ⟨ad,e,hc⟩
  ·have:=HC ho
   rw [e] at this; simp at this; omega
  ·obtain ⟨r1,r2⟩:=Pu (k:=i) (o:=o) (p:=p) 1 hs hoi hp
   exact ⟨ad,_,e,(HB hc hoi hp).mono s1,o.1,_,o.2,rfl,r2,r1⟩
 ·rw [q1]; exact vl a2
 ·rw [q2]; exact vl a3
 ·rw [q3]; exact vl a4
 ·rw [q5]; exact vl a1
end Go.V
namespace Go.Proofs.YtndaepmjkbmjmaaGreatDoor
section
variable {w:Ws} {L:List au} {g:ae} {x:GA}
theorem MA (hg:gR (hp w) g x) (hb:iK g) (hbT:g.terms.length * 24<=140737488355328) (hbN:g.nons.length * 16<=140737488355328):ay Tryz.prog se [.agg ⟨x.cells⟩] w λv w'=>∃ (x' : GA) (os:List (Wr × Nat)),v = .agg ⟨x'.cells⟩/\Pt g x'/\os.length = g.prods.length/\St w' (RC g x' os ++ all w):=by
 refine oQ ?_
 refine cQ hg λk1 w1 gw hg B=>?_
 have tl:=hg.t.1
 have nl:=hg.n.1
 have ll:=hg.l.1
 have pl:=hg.p.1
 have hst:=hg.s
 obtain ⟨b1,b2,b3,b4,b5,b6,b7⟩:=hb
 have gs:sub (hp w) (hp w1):=gw
 have h1:=St.all w1
 unfold V.all at h1
 generalize hH:hp w1 = H at *
 refine af h1 λk2 w2 h=>⟨_,B.c3 (bj 1 h.l),af h λk3 w3 h=>aI h rfl (by intro v hv; simp at hv; rcases hv with rfl | rfl | rfl | rfl | rfl <;> rfl) λw4 h=>?_⟩
 refine ⟨_,_,_,h.cell 0,_,_,_,B.c0 (bj 2 h.l),?_⟩
 refine (iu aL (rfl:ah Ty _ = .slice _) rfl rfl rfl (az 2 h) (fx (news:=d_ g.terms) aL (rfl:ah Ty _ = .slice _) (n:=x.tl) (by rw [nZ,tl]) ?_ (by
   intro u hu
   obtain ⟨t,_,ht⟩:=VP.1 hu
   simp [x_] at ht; rcases ht with rfl | rfl <;> rfl)) (by show (0 + x.tl) * 24<=_; omega) (by omega)).mono ?_
 ·by_cases h0:x.tl = 0
  ·exact .inl h0
  ·obtain ⟨t,ad,vs,_,ha,_⟩:=hg.t.get (i:=0) (by omega)
   have ht:=hg.t
   rw [ha] at ht
   exact .inr ⟨ad,ha,λj u hj=>(Pr ht).cell (bj 2 h.l) hj⟩
 rintro _ w5 ⟨ta,tc,rfl,h⟩
 rw [Vr,<- tl] at h ⊢
 rw [Ve] at h
 refine ⟨_,_,_,rfl,bC (h.pick 4 [1,0,2,3]) (by simp) λw6 h=>?_⟩
 refine ⟨_,_,_,h.cell 1,_,_,_,B.c1 (bj 3 h.l),?_⟩
 refine (iu aL (rfl:ah Ty _ = .slice _) rfl rfl rfl (az 1 h) (fx (news:=g.nons.map λs=>Value.string s) aL (rfl:ah Ty _ = .slice _) (n:=x.nl) (by rw [UH,nl,VA]) ?_ (by
   intro u hu
   obtain ⟨t,_,rfl⟩:=UU.1 hu
   rfl)) (by show (0 + x.nl) * 16<=_; omega) (by omega)).mono ?_
 ·rcases (hg.n.mono (bj 3 h.l)).row with h0 | ⟨ad,ha,hc⟩
  ·exact .inl (by have:=congrArg List.length h0; rw [UH,nl] at this; exact this)
  ·exact .inr ⟨ad,ha,λj u hj=>j5 (hc j u hj)⟩
 rintro _ w7 ⟨na,nc,rfl,h⟩
 rw [Vr,<- nl] at h ⊢
 rw [Ve] at h
 refine ⟨_,_,_,rfl,?_⟩
 rw [aV]
 refine bC (h.pick 5 [1,0,2,3,4]) (by simp) λw8 h=>?_
 refine ⟨_,_,_,h.cell 2,_,_,_,B.c2 (bj 4 h.l),?_⟩
 refine (iu aL (rfl:ah Ty _ = .slice _) rfl rfl rfl (az 1 h) (fx (news:=iv g.levels) aL (rfl:ah Ty _ = .slice _) (n:=x.ll) (by rw [iW,ll,VA]) ?_ (by
   intro u hu
   obtain ⟨t,_,rfl⟩:=UU.1 hu
   rfl)) (by show (0 + x.ll) * 8<=_; omega) (by omega)).mono ?_
 ·rcases (hg.l.mono (bj 4 h.l)).iv with h0 | ⟨ad,ha,hc⟩
  ·exact .inl (by have:=congrArg List.length h0; rw [iW,ll] at this; exact this)
  ·exact .inr ⟨ad,ha,λj u hj=>j5 (hc j u hj)⟩
 rintro _ w9 ⟨la,lc,rfl,h⟩
 rw [Vr,<- ll] at h ⊢
 rw [Ve] at h
 refine ⟨_,_,_,rfl,?_⟩
 rw [aV]
 refine bC (h.pick 6 [1,0,2,3,4,5]) (by simp) λw10 h=>?_
 obtain ⟨K,hK⟩:=My (λ(pa:Wr) (j pc:Nat)=>[Value.slice ta g.terms.length tc,.slice na g.nons.length nc,.slice la g.levels.length lc,.int .i64 x.s,.slice pa j pc])
 refine ⟨λn w'=>∃ (j:Nat) (pa:Wr) (pc:Nat) (os:List (Wr × Nat)),n = j/\j<=g.prods.length/\os.length = j/\St w' [aS k3 (K pa j pc),own 3 pa j pc (cU os (g.prods.take j)),aT (bB os (g.prods.take j)),own 1 la g.levels.length lc (iv g.levels),own 1 na g.nons.length nc (g.nons.map λs=>Value.string s),own 2 ta g.terms.length tc (d_ g.terms),aS k2 [.slice none 0 0,.slice none 0 0,.slice none 0 0,.int .i64 0,.slice none 0 0],has H],λn _=>g.prods.length - n.toNat,⟨0,none,0,[],rfl,by omega,rfl,?_⟩,?_⟩
 ·have h:St w10 (aT (bB [] (g.prods.take 0)) :: _):=St.flat.2 (show St w10 ([] ++ _) from az 3 h)
  rw [hK]
  exact h.pick 8 [2,1,0,3,4,5,6,7]
 clear h
 rintro _ n w11 ⟨j,pa,pc,os,rfl,hj,hos,h⟩
 have hrl:(g.prods.take j).length = j:=by rw [U0]; omega
 refine ⟨_,_,_,B.c4 (bj 7 h.l),aa (λh2=>?_) λh2=>?_⟩
 ·have h2:j < g.prods.length:=by have:=Uz h2; omega
  obtain ⟨p,ad,vs,hp1,hpa,hp2,ra,rl,rc,rfl,hrc,hp3⟩:=hg.p.get (i:=j) (by omega)
  have hpm:=UC hp1
  have b7':=b7 p hpm
  have rl1:=hp3.1
  have et:g.prods.take (j + 1) = g.prods.take j ++ [p]:=by rw [UI,hp1]; rfl
  intro w12 hd
  have h:=h.drawn hd
  refine ⟨λw=>sub H (hp w),bj 7 h.l,_,_,_,λw s=>B.c4 s,ak hpa (by omega) ⟨_,λw s=>hp2.cell0 s,_,_,_,λw s=>B.c4 s,ak hpa (by omega) ⟨_,λw s=>hp2.cell s (j:=2) rfl,af h λk28 w17 h=>⟨bj 8 h.l,aI h rfl (by intro v hv; simp at hv; rcases hv with rfl | rfl | rfl <;> rfl) λw18 h=>?_⟩⟩⟩⟩
  intro w19 hd
  have h:=h.drawn hd
  refine ⟨λw=>av (hp w) ⟨k28,0,none⟩ [.int .i64 p.left,.slice none 0 0,.int .i64 p.level]/\sub H (hp w),⟨ag 0 h.l,bj 8 h.l⟩,_,_,_,λw s=>s.1.cell (sub.refl _) (j:=1) rfl,_,_,_,λw s=>B.c4 s.2,ak hpa (by omega) ⟨_,_,_,λw s=>hp2.cell s.2 (j:=1) rfl,?_⟩⟩
  refine (iu aL (rfl:ah Ty _ = .slice _) rfl rfl rfl (az 1 h) (fx (news:=iv p.right) aL (rfl:ah Ty _ = .slice _) (n:=rl) (by rw [iW,rl1,VA]) ?_ (by
   intro u hu
   obtain ⟨t,_,rfl⟩:=UU.1 hu
   rfl)) (by show (0 + rl) * 8<=_; omega) (by omega)).mono ?_
  ·rcases (hp3.mono (bj 8 h.l)).iv with h0 | ⟨ad,ha,hc⟩
   ·exact .inl (by have:=congrArg List.length h0; rw [iW,rl1] at this; exact this)
   ·exact .inr ⟨ad,ha,λj u hj=>j5 (hc j u hj)⟩
  rintro _ w23 ⟨qa,qc,rfl,h⟩
  rw [Vr,<- rl1] at h ⊢
  rw [Ve] at h
  refine ⟨_,_,_,rfl,⟨ag 1 h.l,bj 9 h.l⟩,?_⟩
  rw [aV]
  refine bC (h.pick 10 [1,0,2,3,4,5,6,7,8,9]) (by simp) λw24 h=>?_
  have ck:w24.cell? ((⟨k3,0,none⟩ : Addr).add 4) = some (.slice pa j pc):=by
   have r:av (hp w24) ⟨k3,0,none⟩ (K pa j pc):=ag 2 h.l
   rw [hK] at r
   exact r.cell (sub.refl _) (j:=4) rfl
  refine ⟨_,_,_,ck,_,_,_,_,_,h.row.at (sub.refl _) rfl,af h λk41 w25 h=>?_⟩
  have h:St w25 [aS k41 (vk ((qa,qc),p)),aS k28 _,own 1 qa p.right.length qc (iv p.right),aS k3 (K pa j pc),own 3 pa j pc (cU os (g.prods.take j)),aT (bB os (g.prods.take j)),own 1 la g.levels.length lc (iv g.levels),own 1 na g.nons.length nc (g.nons.map λs=>Value.string s),own 2 ta g.terms.length tc (d_ g.terms),aS k2 [.slice none 0 0,.slice none 0 0,.slice none 0 0,.int .i64 0,.slice none 0 0],has H]:=h
  refine (aW aL (rfl:ah Ty _ = .slice _) (rfl:ah Ty _ = .slice _) rfl rfl rfl (h.pick 11 [0,4,2,3,5,6,7,8,9,10]) rfl (by simp [aH,vk]) (by show (_ + 1) * 40<=_; omega) (by omega)).mono ?_
  rintro _ w26 ⟨pa',pc',rfl,h⟩
  refine ⟨_,_,_,rfl,?_⟩
  rw [aV]
  refine bC (h.pick 10 [3,0,2,4,5,6,7,8,9]) (by rw [hK]; simp) λw27 h=>?_
  have eK:(K pa j pc).set 4 (.slice pa' (j + 1) pc') = K pa' (j + 1) pc':=by rw [hK]; rfl
  rw [eK] at h
  have h:=St.snoc (A:=own 1 qa p.right.length qc (iv p.right)) (M:=bB os (g.prods.take j)) (h.pick 9 [2,3,0,1,4,5,6,7,8])
  have e1:=DJ (hos.trans hrl.symm) (qa,qc) p
  have e2:=Ft (hos.trans hrl.symm) (qa,qc) p
  dsimp only at e1
  rw [<- e1,<- et] at h
  refine ⟨⟨by omega,by omega⟩,⟨j + 1,pa',pc',os ++ [(qa,qc)],by simp,by omega,by simp [hos],?_⟩,bK h2⟩
  rw [et] at h ⊢
  rw [e2]
  exact h.pick 8 [1,2,0,3,4,5,6,7]
 ·have h2:j = g.prods.length:=by have:=Uy h2; omega
  subst h2
  rw [UZ] at h
  have r:av (hp w11) ⟨k3,0,none⟩ (K pa g.prods.length pc):=ag 0 h.l
  rw [hK] at r
  refine ⟨_,_,_,_,_,_,_,_,_,_,_,_,_,r.at (sub.refl _) rfl,aI (h.pick 8 [6,1,2,3,4,5,7]) rfl (by intro v hv; simp at hv; rcases hv with rfl | rfl | rfl | rfl | rfl <;> rfl) λw28 h=>?_⟩
  refine ⟨_,_,_,_,_,_,_,_,_,_,_,_,_,h.row.at (sub.refl _) rfl,⟨ta,g.terms.length,tc,na,g.nons.length,nc,la,g.levels.length,lc,x.s,pa,g.prods.length,pc⟩,os,rfl,⟨rfl,rfl,rfl,hst,rfl⟩,hos,?_⟩
  exact St.on (N:=[_,_,_,_,_]) (h.pick 7 [1,2,5,4,3,6]) (bY gs)
end
open Go.Shelf Go.Proofs
def KB:Go.Shelf.Ren:=⟨fun | 6=>96 | 15=>95 | 14=>156 | 28=>154 | 29=>155 | 20=>192 | 21=>193 | 22=>194 | 23=>195 | 24=>196 | 25=>197 | 26=>198 | 27=>199 | 46=>235 | 47=>188 | 48=>189 | 49=>236 | 50=>237 | 57=>257 | n=>n,fun | 22=>51 | 24=>104 | 25=>170 | 3=>3 | 39=>167 | 0=>0 | 53=>239 | 55=>241 | 4=>4 | 46=>232 | 45=>231 | 50=>236 | 5=>5 | 9=>9 | 66=>263 | 70=>267 | 76=>310 | 77=>311 | n=>n,fun | n=>n⟩
theorem QJ:Go.Proofs.SlLaysF0.n6 Tryz.prog KB:={
  mixed:=by kernel_rfl,
  f6:=⟨Tryz.f96.name,by decide,Tryz.func96.trans (congrArg some (by kernel_rfl))⟩,
  f14:=⟨Tryz.f156.name,by decide,Tryz.func156.trans (congrArg some (by kernel_rfl))⟩,
  f15:=Tryz.func95.trans (congrArg some (by kernel_rfl)),
  f20:=⟨Tryz.f192.name,by decide,Tryz.func192.trans (congrArg some (by kernel_rfl))⟩,
  f21:=⟨Tryz.f193.name,by decide,Tryz.func193.trans (congrArg some (by kernel_rfl))⟩,
  f22:=⟨Tryz.f194.name,by decide,Tryz.func194.trans (congrArg some (by kernel_rfl))⟩,
  f23:=⟨Tryz.f195.name,by decide,Tryz.func195.trans (congrArg some (by kernel_rfl))⟩,
  f24:=⟨Tryz.f196.name,by decide,Tryz.func196.trans (congrArg some (by kernel_rfl))⟩,
  f25:=⟨Tryz.f197.name,by decide,Tryz.func197.trans (congrArg some (by kernel_rfl))⟩,
  f26:=⟨Tryz.f198.name,by decide,Tryz.func198.trans (congrArg some (by kernel_rfl))⟩,
  f27:=⟨Tryz.f199.name,by decide,Tryz.func199.trans (congrArg some (by kernel_rfl))⟩,
  f28:=Tryz.func154.trans (congrArg some (by kernel_rfl)),
  f29:=Tryz.func155.trans (congrArg some (by kernel_rfl)),
  f46:=⟨Tryz.f235.name,by decide,Tryz.func235.trans (congrArg some (by kernel_rfl))⟩,
  f47:=Tryz.func188.trans (congrArg some (by kernel_rfl)),
  f48:=Tryz.func189.trans (congrArg some (by kernel_rfl)),
  f49:=⟨Tryz.f236.name,by decide,Tryz.func236.trans (congrArg some (by kernel_rfl))⟩,
  f50:=⟨Tryz.f237.name,by decide,Tryz.func237.trans (congrArg some (by kernel_rfl))⟩,
  f57:=⟨Tryz.f257.name,by decide,Tryz.func257.trans (congrArg some (by kernel_rfl))⟩,
  t0:=Tryz.underlying0,
  a0:=Tryz.isAgg0,
  z0:=Tryz.sizeOf0,
  v0:=Tryz.zeroValue0,
  t3:=Tryz.underlying3,
  a3:=Tryz.isAgg3,
  z3:=Tryz.sizeOf3,
  v3:=Tryz.zeroValue3,
  t4:=Tryz.underlying4,
  a4:=Tryz.isAgg4,
  z4:=Tryz.sizeOf4,
  v4:=Tryz.zeroValue4,
  t5:=Tryz.underlying5,
  a5:=Tryz.isAgg5,
  z5:=Tryz.sizeOf5,
  v5:=Tryz.zeroValue5,
  t9:=Tryz.underlying9,
  a9:=Tryz.isAgg9,
  z9:=Tryz.sizeOf9,
  v9:=Tryz.zeroValue9,
  t22:=Tryz.underlying51,
  a22:=Tryz.isAgg51,
  z22:=Tryz.sizeOf51,
  v22:=Tryz.zeroValue51,
  t25:=Tryz.underlying170,
  a25:=Tryz.isAgg170,
  z25:=Tryz.sizeOf170,
  v25:=Tryz.zeroValue170,
  t39:=Tryz.underlying167,
  a39:=Tryz.isAgg167,
  z39:=Tryz.sizeOf167,
  v39:=Tryz.zeroValue167,
  t45:=Tryz.underlying231,
  a45:=Tryz.isAgg231,
  z45:=Tryz.sizeOf231,
  v45:=Tryz.zeroValue231,
  t46:=Tryz.underlying232,
  a46:=Tryz.isAgg232,
  z46:=Tryz.sizeOf232,
  v46:=Tryz.zeroValue232,
  t50:=Tryz.underlying236,
  a50:=Tryz.isAgg236,
  z50:=Tryz.sizeOf236,
  v50:=Tryz.zeroValue236,
  t53:=Tryz.underlying239,
  a53:=Tryz.isAgg239,
  z53:=Tryz.sizeOf239,
  v53:=Tryz.zeroValue239,
  t55:=Tryz.underlying241,
  a55:=Tryz.isAgg241,
  z55:=Tryz.sizeOf241,
  v55:=Tryz.zeroValue241,
  t66:=Tryz.underlying263,
  a66:=Tryz.isAgg263,
  z66:=Tryz.sizeOf263,
  v66:=Tryz.zeroValue263,
  t70:=Tryz.underlying267,
  a70:=Tryz.isAgg267,
  z70:=Tryz.sizeOf267,
  v70:=Tryz.zeroValue267,
  t76:=Tryz.underlying310,
  a76:=Tryz.isAgg310,
  z76:=Tryz.sizeOf310,
  v76:=Tryz.zeroValue310,
  t77:=Tryz.underlying311,
  a77:=Tryz.isAgg311,
  z77:=Tryz.sizeOf311,
  v77:=Tryz.zeroValue311 }
def KC:Go.Shelf.Ren:=⟨fun | 189=>53 | 125=>95 | 257=>94 | 128=>154 | 129=>155 | 294=>145 | 295=>146 | 296=>147 | 297=>148 | 298=>149 | 299=>150 | 216=>151 | 300=>152 | 301=>153 | 328=>187 | 329=>188 | 330=>189 | 331=>190 | 332=>191 | 215=>157 | 343=>234 | n=>n,fun | 28=>24 | 3=>3 | 46=>167 | 0=>0 | 51=>239 | 53=>241 | 4=>4 | 183=>232 | 182=>231 | 131=>236 | 5=>5 | 9=>9 | 218=>263 | 222=>267 | 228=>310 | 229=>311 | n=>n,fun | n=>n⟩
theorem QK:Go.Proofs.Lays.n189 Tryz.prog KC:={
  mixed:=by kernel_rfl,
  f125:=Tryz.func95.trans (congrArg some (by kernel_rfl)),
  f128:=Tryz.func154.trans (congrArg some (by kernel_rfl)),
  f129:=Tryz.func155.trans (congrArg some (by kernel_rfl)),
  f189:=Tryz.func53.trans (congrArg some (by kernel_rfl)),
  f215:=Tryz.func157.trans (congrArg some (by kernel_rfl)),
  f216:=Tryz.func151.trans (congrArg some (by kernel_rfl)),
  f257:=Tryz.func94.trans (congrArg some (by kernel_rfl)),
  f294:=Tryz.func145.trans (congrArg some (by kernel_rfl)),
  f295:=Tryz.func146.trans (congrArg some (by kernel_rfl)),
  f296:=Tryz.func147.trans (congrArg some (by kernel_rfl)),
  f297:=Tryz.func148.trans (congrArg some (by kernel_rfl)),
  f298:=Tryz.func149.trans (congrArg some (by kernel_rfl)),
  f299:=Tryz.func150.trans (congrArg some (by kernel_rfl)),
  f300:=Tryz.func152.trans (congrArg some (by kernel_rfl)),
  f301:=Tryz.func153.trans (congrArg some (by kernel_rfl)),
  f328:=Tryz.func187.trans (congrArg some (by kernel_rfl)),
  f329:=Tryz.func188.trans (congrArg some (by kernel_rfl)),
  f330:=Tryz.func189.trans (congrArg some (by kernel_rfl)),
  f331:=Tryz.func190.trans (congrArg some (by kernel_rfl)),
  f332:=Tryz.func191.trans (congrArg some (by kernel_rfl)),
  f343:=Tryz.func234.trans (congrArg some (by kernel_rfl)),
  t0:=Tryz.underlying0,
  a0:=Tryz.isAgg0,
  z0:=Tryz.sizeOf0,
  v0:=Tryz.zeroValue0,
  t3:=Tryz.underlying3,
  a3:=Tryz.isAgg3,
  z3:=Tryz.sizeOf3,
  v3:=Tryz.zeroValue3,
  t4:=Tryz.underlying4,
  a4:=Tryz.isAgg4,
  z4:=Tryz.sizeOf4,
  v4:=Tryz.zeroValue4,
  t5:=Tryz.underlying5,
  a5:=Tryz.isAgg5,
  z5:=Tryz.sizeOf5,
  v5:=Tryz.zeroValue5,
  t9:=Tryz.underlying9,
  a9:=Tryz.isAgg9,
  z9:=Tryz.sizeOf9,
  v9:=Tryz.zeroValue9,
  t28:=Tryz.underlying24,
  a28:=Tryz.isAgg24,
  z28:=Tryz.sizeOf24,
  v28:=Tryz.zeroValue24,
  t46:=Tryz.underlying167,
  a46:=Tryz.isAgg167,
  z46:=Tryz.sizeOf167,
  v46:=Tryz.zeroValue167,
  t51:=Tryz.underlying239,
  a51:=Tryz.isAgg239,
  z51:=Tryz.sizeOf239,
  v51:=Tryz.zeroValue239,
  t53:=Tryz.underlying241,
  a53:=Tryz.isAgg241,
  z53:=Tryz.sizeOf241,
  v53:=Tryz.zeroValue241,
  t131:=Tryz.underlying236,
  a131:=Tryz.isAgg236,
  z131:=Tryz.sizeOf236,
  v131:=Tryz.zeroValue236,
  t182:=Tryz.underlying231,
  a182:=Tryz.isAgg231,
  z182:=Tryz.sizeOf231,
  v182:=Tryz.zeroValue231,
  t183:=Tryz.underlying232,
  a183:=Tryz.isAgg232,
  z183:=Tryz.sizeOf232,
  v183:=Tryz.zeroValue232,
  t218:=Tryz.underlying263,
  a218:=Tryz.isAgg263,
  z218:=Tryz.sizeOf263,
  v218:=Tryz.zeroValue263,
  t222:=Tryz.underlying267,
  a222:=Tryz.isAgg267,
  z222:=Tryz.sizeOf267,
  v222:=Tryz.zeroValue267,
  t228:=Tryz.underlying310,
  a228:=Tryz.isAgg310,
  z228:=Tryz.sizeOf310,
  v228:=Tryz.zeroValue310,
  t229:=Tryz.underlying311,
  a229:=Tryz.isAgg311,
  z229:=Tryz.sizeOf311,
  v229:=Tryz.zeroValue311 }
end Go.Proofs.YtndaepmjkbmjmaaGreatDoor
namespace Go.V
open Go.Proofs Go.Sort
theorem HD {X:Type} (P:X->Prop) (f:X->Nat) (h:∃ x,P x):∃ x,P x/\∀ y,P y->f x<=f y:=by
 obtain ⟨x,hx⟩:=h
 generalize hn:f x = n
 induction n using Nat.strongRecOn generalizing x with
 | ind n ih =>
  by_cases hm:∃ y,P y/\f y < n
  ·obtain ⟨y,hy,hl⟩:=hm
   exact ih (f y) hl y hy rfl
  ·exact ⟨x,hx,λy hy=>by rw [hn]; exact Nat.le_of_not_lt λhl=>hm ⟨y,hy,hl⟩⟩
open Classical in
noncomputable def RD {X:Type} (P:X->Ws->Prop) (f:X->Nat) (w:Ws):Nat:=if h:∃ x,P x w then f (HD (λx=>P x w) f h).choose else 0
theorem Jc {X:Type} {P:X->Ws->Prop} {f:X->Nat} {w:Ws} (h:∃ x,P x w):∃ x,P x w/\f x = RD P f w:=by
 have:=(HD (λx=>P x w) f h).choose_spec
 refine ⟨_,this.1,?_⟩
 unfold RD; rw [dif_pos h]
theorem DK {X:Type} {P:X->Ws->Prop} {f:X->Nat} {w:Ws} {x:X} (hx:P x w):RD P f w<=f x:=by
 have h:∃ x,P x w:=⟨x,hx⟩
 have:=(HD (λx=>P x w) f h).choose_spec
 unfold RD; rw [dif_pos h]; exact this.2 x hx
section
variable {w:Ws} {L:List au}
theorem za {sz l c k:Nat} {a:Wr} {vs:List Value} (h:St w (own sz a l c vs :: L)) (hk:k<=l):St w (own sz (eJ a 0 c sz) k c (vs.take (k * sz)) :: L):=by
 rcases cq h with ⟨rfl,rfl,rfl,rfl⟩ | ⟨b,pre,cs,post,rfl,hc,h1,h2,h3⟩
 ·have:k = 0:=by omega
  subst this
  have:eJ none 0 0 sz = none:=by simp [eJ]
  rw [this]; simpa using h
 ·have e:eJ (some (⟨b,pre.length,none⟩ : Addr)) 0 c sz = some ⟨b,pre.length,none⟩:=by
   unfold eJ; split
   ·rfl
   ·simp [aF,add_lit]
  have hle:k * sz<=l * sz:=VW _ hk
  rw [e]
  refine dx (cs:=vs.drop (k * sz) ++ cs) (post:=post) ?_ ?_ ?_ (by omega)
  ·have e2:vs.take (k * sz) ++ (vs.drop (k * sz) ++ cs ++ post) = vs ++ (cs ++ post):=by
    rw [<- UK,<- UK,UY,UK]
   rw [e2]; exact hc
  ·rw [U0]; omega
  ·rw [<- UK,UY]; exact h2
theorem l9 {a:Wr} {len cap hi sz:Nat} {k:Wr->Nat->Nat->Prop} (h1:hi<=cap) (hk:k (eJ a 0 cap sz) hi cap):lV a len cap none (some (hi:Int)) none sz k :=
 ⟨.inl rfl,.inr ⟨by show (0:Int)<=(hi:Int); omega,by show (hi:Int)<=(cap:Int); omega⟩,⟨by decide,by show (0:Int)<=(hi:Int); omega⟩,by simpa using hk⟩
theorem aE {w w' : Ws} (h:drawn w w'):hp w' = hp w:=by rw [show w' = _ from h]; rfl
theorem ee {L:List au} {h:Hp} {a:Wr} {sz l c:Nat} {vs:List Value} (i:Nat) (hl:aG L h) (e:sc L i = own sz a l c vs:=by rfl) (hi:Nat.blt i (zV L) = true:=by rfl):fp a vs h:=by
 obtain ⟨h1,s,ha⟩:=dV i (by simpa [j7] using hi) hl
 rw [e] at ha
 exact fp.mono s (cE ha)
theorem zb (xs:List Int) (i:Nat) (v:Int):(iv xs).set i (.int .i64 v) = iv (xs.set i v):=by simp only [iv,VL]
theorem Jd {M:List au} {n:Nat} (hn:n < M.length):M.Perm (M[n] :: (M.take n ++ M.drop (n + 1))):=by
 have e:M = M.take n ++ M[n] :: M.drop (n + 1):=by rw [<- Vk hn,UY]
 exact (List.Perm.of_eq e).trans Vt
theorem set_perm {M:List au} {n:Nat} {A:au} (hn:n < M.length):(M.set n A).Perm (A :: (M.take n ++ M.drop (n + 1))):=by
 rw [List.set_eq_take_append_cons_drop,UJ hn]
 exact Vt
theorem St.MB {A:au} {M:List au} (h:St w (A :: aT M :: L)) {n:Nat} (hn:n < M.length):St w (aT (M.set n A) :: L):=by
 have h1:=St.flat.1 h.swap
 have h2:St w ((M[n] :: (M.take n ++ M.drop (n + 1))) ++ (A :: L)):=h1.perm ((Jd hn).append_right _)
 have h3:St w ((M.take n ++ M.drop (n + 1)) ++ (A :: L)):=h2.tail
 have h4:St w ((A :: (M.take n ++ M.drop (n + 1))) ++ L):=h3.perm Vt
 exact St.flat.2 (h4.perm ((set_perm hn).symm.append_right _))
theorem St.MC {M:List au} {A:au} (h:St w (aT M :: L)) {n:Nat} (hn:M[n]? = some A):St w (A :: aT (M.take n ++ M.drop (n + 1)) :: L):=by
 obtain ⟨hl,rfl⟩:=UA.1 hn
 have h1:=St.flat.1 h
 have h2:St w ((M[n] :: (M.take n ++ M.drop (n + 1))) ++ L):=h1.perm ((Jd hl).append_right _)
 have h3:St w ((M.take n ++ M.drop (n + 1)) ++ (M[n] :: L)):=h2.perm Vt.symm
 exact (St.flat.2 h3).swap
theorem Aa {A:au} (hA:∀ w L,St w L->St w (A :: L)):∀ (n:Nat),St w L->St w (aT (List.replicate n A) :: L)
 | 0,h=>(St.flat (M:=[])).2 h
 | n + 1,h=>by
  have h1:=St.flat.1 (Aa hA n h)
  exact (St.flat (M:=List.replicate (n + 1) A)).2 (hA _ _ h1)
theorem St.RE {w:Ws} {L M:List au} {A:au} {n:Nat} (hn:n < M.length) (h:St w (A :: aT (M.take n ++ M.drop (n + 1)) :: L)):St w (aT (M.set n A) :: L):=by
 have h1:=St.flat.1 h.swap
 have h2:St w ((A :: (M.take n ++ M.drop (n + 1))) ++ L):=h1.perm Vt
 exact St.flat.2 (h2.perm ((set_perm hn).symm.append_right _))
theorem vm (xs:List Nat) (i v:Nat):(nj xs).set i (.int .i64 (v:Int)) = nj (xs.set i v):=by simp only [nj,VL]
theorem MD (xs:List Nat) (v:Nat):nj xs ++ [.int .i64 (v:Int)] = nj (xs ++ [v]):=by simp [nj]
theorem iA {low:List Nat} {i x:Nat} (h:low[i]? = some x):(nj low)[i]? = some (.int .i64 (x:Int)):=by simp [nj,h]
theorem qo {α : Type} {l:List α} {i:Nat} {x:α} (h:l[i]? = some x):l.set i x = l:=by
 obtain ⟨h1,rfl⟩:=UA.1 h
 exact List.set_getElem_self h1
end
section
variable {α : Type} [Inhabited α] {w:Ws} {L:List au} {enc:α->Value} {blk:Nat} {d:Array α}
theorem rC (w:Ws) (off m:Nat) (dk:Array α) (os:Array Obj) (b:Nat) (o:Obj) (h:w.heap[b]? = some o) :
  (sortWorld enc w blk off m dk os).heap[b]? = some (if blk = b then onCells (putCells enc off dk) o else o):=by
 have hb:b < w.heap.size:=(Vd.1 h).1
 unfold sortWorld grow putRow mapBlock Sort.ahead
 simp only
 rw [Array.getElem?_append_left (by simpa using hb),Vv]
 split
 ·rw [h]; rfl
 ·exact h
theorem Ev.sort (w:Ws) (off m:Nat) (dk:Array α) (os:Array Obj):Ev w (sortWorld enc w blk off m dk os):=by
 refine ⟨rfl,rfl,rfl,?_,?_,?_⟩
 ·unfold sortWorld grow putRow mapBlock Sort.ahead; simp
 ·intro b x h; rw [rC w off m dk os b _ h]; split <;> rfl
 ·intro b x h; rw [rC w off m dk os b _ h]; split <;> rfl
theorem St.sort {cs:List Value} (h:St w (aS blk cs :: L)) (off m:Nat) (dk:Array α) (os:Array Obj):St (sortWorld enc w blk off m dk os) (aS blk (putCells enc off dk ⟨cs⟩).toList :: L):=by
 obtain ⟨e,h⟩:=gH.1 h
 have hg:=h.get
 have hs:∀ b o,hp w b = some o->b≠blk->hp (sortWorld enc w blk off m dk os) b = some o:=λb o hb hne=>by
  have:=rC (enc:=enc) (blk:=blk) w off m dk os b o (mM hb)
  rw [UE (Ne.symm hne)] at this
  unfold hp; rw [this]
  unfold hp at hb
  rw [mM hb] at hb; exact hb
 have hblk:hp (sortWorld enc w blk off m dk os) blk = some (.cells (putCells enc off dk ⟨cs⟩) e (0,0)):=by
  have:=rC (enc:=enc) (blk:=blk) w off m dk os blk _ hg
  rw [UJ rfl] at this
  unfold hp; rw [this]; rfl
 refine gH.2 ⟨e,?_⟩
 have h1:=mi (h:=hp w) (h':=λk=>if k = blk then some (.cells (putCells enc off dk ⟨cs⟩) e (0,0)) else hp w k) (o':=.cells (putCells enc off dk ⟨cs⟩) e (0,0)) h (λk hk=>by simp [hk]) (by simp)
 refine iR h1 λk o hk=>?_
 split at hk
 ·rename_i e'; subst e'; cases hk; exact hblk
 ·rename_i hne; exact hs k o hk hne
theorem vn (pre post:List Value) (d d' : Array α) (hs:d'.size = d.size):(putCells enc pre.length d' ⟨pre ++ (d.toList.map enc ++ post)⟩).toList = pre ++ (d'.toList.map enc ++ post):=by
 have l1:(d.toList.map enc).length = d.size:=by simp
 have l2:(d'.toList.map enc).length = d.size:=by simp [hs]
 apply Vq
 intro k
 simp only [putCells,Array.toList_mapIdx,List.getElem?_mapIdx]
 by_cases h1:k < pre.length
 ·rw [UQ h1,UQ h1,UB h1,VM,UE (by omega)]
 ·rw [UP (Nat.le_of_not_lt h1),UP (Nat.le_of_not_lt h1)]
  by_cases h2:k - pre.length < d.size
  ·rw [UQ (l₁:=d.toList.map enc) (by omega),UQ (l₁:=d'.toList.map enc) (by omega),UB (l:=d.toList.map enc) (by omega),UB (l:=d'.toList.map enc) (by omega)]
   simp only [VM]
   rw [UJ ⟨by omega,by omega⟩,getElem!_pos d' _ (by omega)]
   simp
  ·rw [UP (l₁:=d.toList.map enc) (by omega),UP (l₁:=d'.toList.map enc) (by omega),l1,l2]
   cases post[k - pre.length - d.size]? with
   | none=>rfl
   | some v=>rw [VM,UE (by omega)]
theorem Pv {a:Wr} {l c:Nat} (h:St w (own 1 a l c (d.toList.map enc) :: L)) (hl:0 < l) :
  ∃ b off,a = some ⟨b,off,none⟩/\l = d.size/\Holds enc w b off d/\b < w.heap.size /\
   (∀ (m:Nat) (os:Array Obj) (d' : Array α),d'.size = d.size->St (sortWorld enc w b off m d' os) (own 1 a l c (d'.toList.map enc) :: L)):=by
 rcases cq h with ⟨_,h2,_⟩ | ⟨b,pre,cs,post,rfl,hc,h1,h2,h3⟩
 ·omega
 ·have hsz:l = d.size:=by simp at h1; omega
  refine ⟨b,pre.length,rfl,hsz,?_,?_,?_⟩
  ·intro j hj
   refine ⟨?_,hc.frozen _ _⟩
   rw [hc.cell,UP (by omega),Vp,UQ (by simpa using hj),UD,UB (by simpa using hj),getElem!_pos d j hj]
   simp
  ·obtain ⟨e,h⟩:=gH.1 hc
   exact (Vd.1 h.get).1
  ·intro m os d' hs
   have h5:=hc.sort (enc:=enc) pre.length m d' os
   rw [vn pre (cs ++ post) d d' hs] at h5
   refine dx h5 ?_ ?_ h3
   ·simp [hs]; omega
   ·simp at h2 ⊢; omega
end
theorem vo {w:Ws} {b o:Nat}:∀ (vs:List Value) (i:Nat),jh w ⟨b,0,none⟩ (o + i) vs->jh w ⟨b,o,none⟩ i vs
 | [],i,_=>trivial
 | v :: vs,i,⟨h1,h2,h3,h4⟩=>by
  rw [aV] at h2 h3
  refine ⟨h1,?_,?_,vo vs (i + 1) h4⟩
  ·rw [add_lit]; exact h2
  ·rw [add_lit]; exact h3
theorem vp {b o:Nat}:∀ (vs:List Value) (i:Nat) (w:Ws),bW w ⟨b,o,none⟩ i vs = bW w ⟨b,0,none⟩ (o + i) vs
 | [],i,w=>rfl
 | v :: vs,i,w=>by
  simp only [bW]
  rw [add_lit,aV,vp vs (i + 1)]
  rfl
theorem vq {w:Ws} {L:List au} {sz l c i:Nat} {a:Wr} {ad:Addr} {us vs:List Value} {k:Ws->Prop} (h:St w (own sz a l c us :: L)) (ha:a = some ad) (hi:i + vs.length<=us.length) (h1:∀ v∈vs,aH v = true) (h0:0 < vs.length)
  (hk:∀ w',St w' (own sz a l c (us.take i ++ vs ++ us.drop (i + vs.length)) :: L)->k w'):cG w (ad.add i) vs k:=by
 rcases cq h with ⟨rfl,_,_,_⟩ | ⟨b,pre,cs,post,rfl,hc,e1,e2,e3⟩
 ·cases ha
 ·cases ha
  rw [add_lit]
  have hl:(pre.length + i) + vs.length<=(pre ++ (us ++ (cs ++ post))).length:=by simp only [UG]; omega
  refine ⟨vo vs 0 (tP hc vs _ hl h1),λw' hw=>?_⟩
  subst hw
  rw [vp]
  have h2:=ql vs _ (pre.length + i) hl hc
  refine hk _ ?_
  have e:(pre ++ (us ++ (cs ++ post))).take (pre.length + i) ++ vs ++ (pre ++ (us ++ (cs ++ post))).drop (pre.length + i + vs.length) = pre ++ ((us.take i ++ vs ++ us.drop (i + vs.length)) ++ (cs ++ post)):=by
   rw [List.take_append,UX (by omega),Vp,List.take_append_of_le_length (by omega)]
   rw [show pre.length + i + vs.length = pre.length + (i + vs.length) from by omega,List.drop_append,VS (by omega),Vp,List.drop_append_of_le_length (by omega)]
   simp
  rw [e] at h2
  have el:(us.take i ++ vs ++ us.drop (i + vs.length)).length = us.length:=by simp only [UG,U0,VU]; omega
  refine dx h2 (by rw [el]; exact e1) ?_ e3
  rw [UG,el,<- UG]; exact e2
structure ai where
 prod:Int
 dot:Int
deriving DecidableEq
instance:nQ ai:={ n:=2,rd:=λ_ x vs=>vs = [.int .i64 x.prod,.int .i64 x.dot],mono:=λ_ h=>h,len:=λh=>by rw [h]; rfl }
def ai.lt (x y:ai):Prop:=x.prod < y.prod\/x.prod = y.prod/\x.dot < y.dot
instance (x y:ai):Decidable (x.lt y):=inferInstanceAs (Decidable (_\/_))
theorem ai.ext' {x y:ai} (h1:x.prod = y.prod) (h2:x.dot = y.dot):x = y:=by cases x; cases y; cases h1; cases h2; rfl
theorem ai.lt_irrefl (x:ai):¬x.lt x:=by unfold ai.lt; omega
theorem ai.lt_trans {x y z:ai} (h1:x.lt y) (h2:y.lt z):x.lt z:=by unfold ai.lt at *; omega
theorem ai.ME {x y:ai} (h:x≠y):x.lt y\/y.lt x:=by
 unfold ai.lt
 by_cases h1:x.prod = y.prod
 ·have h2:x.dot≠y.dot:=λh2=>h (ai.ext' h1 h2)
  omega
 ·omega
abbrev j9 (l:List ai):Prop:=l.Pairwise ai.lt
def yE (x:ai):List ai->List ai
 | []=>[x]
 | y :: l=>if x = y then y :: l else if x.lt y then x :: y :: l else y :: yE x l
def lay (l:List ai):List ai:=l.foldl (λout x=>yE x out) []
theorem Ab {x y:ai}:∀ {l:List ai},y∈yE x l↔y = x\/y∈l
 | []=>by simp [yE]
 | z :: l=>by
  unfold yE
  split
  ·rename_i h; subst h; simp
  ·split
   ·simp
   ·rw [UR,Ab,UR]
    constructor
    ·rintro (h | h | h)
     ·exact .inr (.inl h)
     ·exact .inl h
     ·exact .inr (.inr h)
    ·rintro (h | h | h)
     ·exact .inr (.inl h)
     ·exact .inl h
     ·exact .inr (.inr h)
theorem Fu {x:ai}:∀ {l:List ai},j9 l->j9 (yE x l)
 | [],_=>by simp [yE]
 | z :: l,h=>by
  unfold yE
  have h':=VD.1 h
  split
  ·exact h
  ·rename_i hne
   split
   ·rename_i hlt
    exact VD.2 ⟨λy hy=>by
     rcases UR.1 hy with rfl | hy
     ·exact hlt
     ·exact ai.lt_trans hlt (h'.1 y hy),h⟩
   ·rename_i hnl
    refine VD.2 ⟨λy hy=>?_,Fu h'.2⟩
    rcases Ab.1 hy with rfl | hy
    ·exact (ai.ME hne).resolve_left hnl
    ·exact h'.1 y hy
theorem foldI (l:List ai):∀ out,j9 out->j9 (l.foldl (λout x=>yE x out) out)/\∀ y,y∈l.foldl (λout x=>yE x out) out↔y∈out\/y∈l:=by
 induction l with
 | nil=>exact λout h=>⟨h,λy=>by simp⟩
 | cons x l ih =>
  intro out h
  obtain ⟨h1,h2⟩:=ih _ (Fu (x:=x) h)
  refine ⟨h1,λy=>?_⟩
  show y∈l.foldl (λout x=>yE x out) (yE x out)↔_
  rw [h2,Ab,UR]
  constructor
  ·rintro ((h | h) | h)
   ·exact .inr (.inl h)
   ·exact .inl h
   ·exact .inr (.inr h)
  ·rintro (h | h | h)
   ·exact .inl (.inr h)
   ·exact .inl (.inl h)
   ·exact .inr h
theorem j_ (l:List ai):j9 (lay l):=(foldI l [] .nil).1
theorem jf {l:List ai} {y:ai}:y∈lay l↔y∈l:=by have:=(foldI l [] .nil).2 y; simpa [lay] using this
theorem j9.nodup {l:List ai} (h:j9 l):l.Nodup:=Vz.2 (h.imp λh e=>by subst e; exact ai.lt_irrefl _ h)
theorem j9.one {l m:List ai} (h:j9 l) (h' : j9 m) (he:∀ x,x∈l↔x∈m):l = m:=by
 have p:l.Perm m:=(List.perm_ext_iff_of_nodup h.nodup h'.nodup).2 he
 refine List.Perm.eq_of_pairwise (le:=λx y=>ai.lt x y\/x = y) (λa b _ _ h1 h2=>?_) (h.imp .inl) (h'.imp .inl) p
 rcases h1 with h1 | h1
 ·rcases h2 with h2 | h2
  ·exact absurd (ai.lt_trans h1 h2) (ai.lt_irrefl _)
  ·exact h2.symm
 ·exact h1
theorem qp {l:List ai} (h:j9 l):lay l = l:=(j_ l).one h λ_=>jf
theorem HE {l m:List ai} (h:j9 m) (he:∀ x,x∈m↔x∈l):lay l = m:=(j_ l).one h λx=>by rw [jf,he]
def tT (g:ae) (x:ai):Prop:=0<=x.prod/\0<=x.dot/\∃ p,g.prods[x.prod.toNat]? = some p/\x.dot<=p.right.length
def jV (g:ae) (x:ai):Int :=
 match g.prods[x.prod.toNat]? with
 | none=>-1
 | some p=>p.right.getD x.dot.toNat (-1)
theorem Ac {g:ae} {x:ai} {p:aO} (h:g.prods[x.prod.toNat]? = some p):jV g x = p.right.getD x.dot.toNat (-1):=by unfold jV; rw [h]
inductive BE (g:ae) (I:List ai):ai->Prop
 | base {x:ai}:x∈I->BE g I x
 | step {y:ai} {i:Nat} {p:aO}:BE g I y->0<=jV g y->g.prods[i]? = some p->p.left = jV g y->BE g I ⟨i,0⟩
def BF (g:ae) (l:List ai):List ai:=((List.range g.prods.length).filter λi=>l.any λy=>decide (0<=jV g y) && decide ((g.prods[i]?.map aO.left) = some (jV g y))).map λi:Nat=>⟨(i:Int),0⟩
def Bh (g:ae) (I:List ai):Nat->List ai
 | 0=>lay I
 | k + 1=>lay (Bh g I k ++ BF g (Bh g I k))
def cls (g:ae) (I:List ai):List ai:=Bh g I g.prods.length
section
variable {g:ae} {I l:List ai} {x y:ai} {k:Nat}
theorem Ad:x∈BF g l↔∃ (i:Nat) (p:aO) (y:ai),x = ⟨i,0⟩/\g.prods[i]? = some p/\y∈l/\0<=jV g y/\p.left = jV g y:=by
 unfold BF
 rw [UU]
 constructor
 ·rintro ⟨i,hi,rfl⟩
  rw [Vo,V4] at hi
  obtain ⟨h1,y,hy,h2⟩:=hi
  rw [UT,UO,UO] at h2
  rw [U8] at h1
  refine ⟨i,g.prods[i],y,rfl,UB h1,hy,h2.1,?_⟩
  have:=h2.2
  rw [UB h1] at this
  exact Option.some.inj this
 ·rintro ⟨i,p,y,rfl,hp,hy,h1,h2⟩
  refine ⟨i,Vo.2 ⟨U8.2 (UA.1 hp).1,V4.2 ⟨y,hy,?_⟩⟩,rfl⟩
  rw [UT,UO,UO,hp]
  exact ⟨h1,by rw [<- h2]; rfl⟩
theorem DL:∀ k,j9 (Bh g I k)
 | 0=>j_ _
 | _ + 1=>j_ _
theorem qq:x∈Bh g I (k + 1)↔x∈Bh g I k\/x∈BF g (Bh g I k):=by
 show x∈lay _↔_
 rw [jf,UF]
theorem wS:∀ k x,x∈Bh g I k->BE g I x
 | 0,x,h=>.base (jf.1 h)
 | k + 1,x,h=>by
  rcases qq.1 h with h | h
  ·exact wS k x h
  ·obtain ⟨i,p,y,rfl,hp,hy,h1,h2⟩:=Ad.1 h
   exact .step (wS k y hy) h1 hp h2
theorem Fv:∀ k,∀ x∈I,x∈Bh g I k
 | 0,x,h=>jf.2 h
 | k + 1,x,h=>qq.2 (.inl (Fv k x h))
def HF (g:ae) (I:List ai) (k:Nat):List Nat:=(List.range g.prods.length).filter λi=>decide ((⟨i,0⟩ : ai)∈Bh g I k)
theorem SR:∀ {l m:List Nat},l.Nodup->(∀ x∈l,x∈m)->l.length<=m.length
 | [],m,_,_=>UM _
 | a :: l,m,h,hs=>by
  obtain ⟨m1,m2,rfl⟩:=Wk (hs a (by simp))
  rw [Vy] at h
  have:=SR (l:=l) (m:=m1 ++ m2) h.2 λx hx=>by
   have h1:=hs x (by simp [hx])
   rw [UF,UR] at h1
   rw [UF]
   rcases h1 with h1 | rfl | h1
   ·exact .inl h1
   ·exact absurd hx h.1
   ·exact .inr h1
  simp at this ⊢; omega
theorem Pw (h:∀ x∈BF g (Bh g I k),x∈Bh g I k):Bh g I (k + 1) = Bh g I k:=(DL _).one (DL _) λx=>by
 rw [qq]; exact ⟨λh1=>h1.elim id (h x),.inl⟩
theorem MF:∀ k,(∀ x∈BF g (Bh g I k),x∈Bh g I k)\/k + 1<=(HF g I (k + 1)).length:=by
 have grow:∀ k,¬(∀ x∈BF g (Bh g I k),x∈Bh g I k)->(HF g I k).length + 1<=(HF g I (k + 1)).length:=by
  intro k hk
  have ⟨x,hx⟩:=Classical.not_forall.1 hk
  have ⟨h1,h2⟩:=Classical.not_imp.1 hx
  obtain ⟨i,p,y,rfl,hp,_⟩:=Ad.1 h1
  have hn:i∉HF g I k:=λh=>h2 (by have:=(Vo.1 h).2; exact Uz this)
  have:=SR (l:=i :: HF g I k) (m:=HF g I (k + 1)) (Vy.2 ⟨hn,List.nodup_range.filter _⟩) λz hz=>by
   refine Vo.2 ?_
   rcases UR.1 hz with rfl | hz
   ·exact ⟨U8.2 (UA.1 hp).1,U4 (qq.2 (.inr h1))⟩
   ·obtain ⟨q1,q2⟩:=Vo.1 hz
    exact ⟨q1,U4 (qq.2 (.inl (Uz q2)))⟩
  simpa using this
 intro k
 induction k with
 | zero =>
  by_cases h:∀ x∈BF g (Bh g I 0),x∈Bh g I 0
  ·exact .inl h
  ·have:=grow 0 h; exact .inr (by omega)
 | succ k ih =>
  by_cases h:∀ x∈BF g (Bh g I (k + 1)),x∈Bh g I (k + 1)
  ·exact .inl h
  ·rcases ih with ih | ih
   ·rw [Pw ih] at h; exact absurd ih h
   ·have:=grow (k + 1) h; exact .inr (by omega)
theorem HG:∀ x∈BF g (cls g I),x∈cls g I:=by
 rcases MF (g:=g) (I:=I) g.prods.length with h | h
 ·exact h
 ·have:(HF g I (g.prods.length + 1)).length<=(List.range g.prods.length).length:=Vm _ _
  rw [Vw] at this; omega
theorem vr:x∈cls g I↔BE g I x:=by
 refine ⟨wS _ x,λh=>?_⟩
 induction h with
 | base h=>exact Fv _ _ h
 | step _ h1 h2 h3 ih=>exact HG _ (Ad.2 ⟨_,_,_,rfl,h2,ih,h1,h3⟩)
theorem DM:j9 (cls g I):=DL _
theorem Px {l:List ai} (hs:j9 l) (hm:∀ x,x∈l↔BE g I x):l = cls g I:=hs.one DM λx=>by rw [hm,vr]
def bx (g:ae) (I:List ai) (s:Int):List ai:=((cls g I).filter λx=>decide (jV g x = s)).map λx=>⟨x.prod,x.dot + 1⟩
theorem Fw {s:Int}:j9 (bx g I s):=by
 unfold bx j9
 rw [Vx]
 refine (DM.filter _).imp λh=>?_
 unfold ai.lt at *
 simp only
 omega
theorem kP {s:Int}:x∈bx g I s↔∃ y,BE g I y/\jV g y = s/\x = ⟨y.prod,y.dot + 1⟩:=by
 unfold bx
 rw [UU]
 constructor
 ·rintro ⟨y,hy,rfl⟩
  obtain ⟨h1,h2⟩:=Vo.1 hy
  exact ⟨y,vr.1 h1,Uz h2,rfl⟩
 ·rintro ⟨y,h1,h2,rfl⟩
  exact ⟨y,Vo.2 ⟨vr.2 h1,U4 h2⟩,rfl⟩
end
structure aN where
 sym:Int
 to:Int
deriving DecidableEq
instance:nQ aN:={ n:=2,rd:=λ_ x vs=>vs = [.int .i64 x.sym,.int .i64 x.to],mono:=λ_ h=>h,len:=λh=>by rw [h]; rfl }
abbrev dp:=List ai
def ya (st:List dp) (k:dp):List dp:=if k∈st then st else st ++ [k]
def bS (g:ae) (K:dp):List Nat:=(List.range (g.T + g.N)).filter λs=>decide (bx g K s≠[])
def n_ (g:ae) (K:dp) (l:List Nat) (acc:List dp × List aN):List dp × List aN :=
 l.foldl (λ(acc:List dp × List aN) (s:Nat)=>(ya acc.1 (bx g K (s:Int)),acc.2 ++ [⟨(s:Int),(acc.1.idxOf (bx g K (s:Int)):Int)⟩])) acc
def dI (g:ae):Nat->List dp × List (List aN)
 | 0=>([[⟨0,0⟩]],[])
 | i + 1=>match (dI g i).1[i]? with
  | none=>dI g i
  | some K=>((n_ g K (bS g K) ((dI g i).1,[])).1,(dI g i).2 ++ [(n_ g K (bS g K) ((dI g i).1,[])).2])
structure Ae (g:ae) (st:List dp):Prop where
 nd:st.Nodup
 ne:∀ K∈st,K≠[]
 QV:∀ K∈st,j9 K
 fit:∀ K∈st,∀ x∈K,tT g x
 dots:∀ (j:Nat) (K:dp),st[j]? = some K->∀ x∈K,x.dot<=j
section
variable {g:ae} {I K k:dp} {st:List dp} {i j s:Nat} {x y:ai} {acc:List dp × List aN}
theorem BE.fit (h:BE g I x) (hI:∀ x∈I,tT g x):tT g x:=by
 induction h with
 | base h=>exact hI _ h
 | @step y i p _ _ hp _ _=>exact ⟨Vs _,Int.le_refl _,p,by simpa using hp,by simp⟩
theorem BE.dot {d:Int} (h:BE g I x) (hI:∀ x∈I,x.dot<=d) (hd:0<=d):x.dot<=d:=by
 induction h with
 | base h=>exact hI _ h
 | step _ _ _ _ _=>exact hd
theorem MG {s:Int} (h:tT g x) (ha:jV g x = s) (hs:0<=s):∃ p,g.prods[x.prod.toNat]? = some p/\x.dot < p.right.length/\p.right[x.dot.toNat]? = some s:=by
 obtain ⟨_,h1,p,hp,h2⟩:=h
 rw [Ac hp,UN] at ha
 cases hg:p.right[x.dot.toNat]? with
 | none=>rw [hg] at ha; simp at ha; omega
 | some v =>
  rw [hg] at ha; simp at ha; subst ha
  have:=(UA.1 hg).1
  exact ⟨p,hp,by omega,hg⟩
theorem Fx {s:Int} (hI:∀ x∈I,tT g x) (hs:0<=s):∀ x∈bx g I s,tT g x:=λx hx=>by
 obtain ⟨y,h1,h2,rfl⟩:=kP.1 hx
 have hy:=h1.fit hI
 obtain ⟨p,hp,h3,_⟩:=MG hy h2 hs
 exact ⟨hy.1,by have:=hy.2.1; show 0<=y.dot + 1; omega,p,hp,by show y.dot + 1<=_; omega⟩
theorem DN:K∈ya st k↔K∈st\/K = k:=by
 unfold ya; split
 ·rename_i h; exact ⟨.inl,λh'=>h'.elim id λe=>e ▸ h⟩
 ·simp
theorem Je (h:st[i]? = some K):(ya st k)[i]? = some K:=by
 unfold ya; split
 ·exact h
 ·rw [UQ (UA.1 h).1]; exact h
theorem Ae.start (hp:0 < g.prods.length):Ae g [[⟨0,0⟩]]:=by
 refine ⟨by simp,by simp,by simp,λK hK x hx=>?_,λj K hj x hx=>?_⟩
 ·simp at hK; subst hK; simp at hx; subst hx
  exact ⟨Int.le_refl _,Int.le_refl _,g.prods[0],UB hp,by simp⟩
 ·cases j with
  | zero=>simp at hj; subst hj; simp at hx; subst hx; simp
  | succ j=>simp at hj
theorem Ae.put (h:Ae g st) (hK:st[i]? = some K) (hs:bx g K (s:Int)≠[]):Ae g (ya st (bx g K (s:Int))):=by
 have hm:=UC hK
 have hil:=(UA.1 hK).1
 refine ⟨?_,λL hL=>?_,λL hL=>?_,λL hL=>?_,λj L hL x hx=>?_⟩
 ·unfold ya; split
  ·exact h.nd
  ·rename_i hn
   rw [Vg]
   exact ⟨h.nd,by simp,λa ha b hb e=>by simp at hb; subst hb; subst e; exact hn ha⟩
 ·rcases DN.1 hL with hL | rfl
  ·exact h.ne L hL
  ·exact hs
 ·rcases DN.1 hL with hL | rfl
  ·exact h.QV L hL
  ·exact Fw
 ·rcases DN.1 hL with hL | rfl
  ·exact h.fit L hL
  ·exact Fx (h.fit K hm) (Vs _)
 ·unfold ya at hL
  split at hL
  ·exact h.dots j L hL x hx
  ·by_cases e:j < st.length
   ·rw [UQ e] at hL
    exact h.dots j L hL x hx
   ·have hl:=(UA.1 hL).1
    rw [UG,List.length_singleton] at hl
    have e2:j = st.length:=by omega
    subst e2
    rw [UP (US _),Vu] at hL
    simp at hL; subst hL
    obtain ⟨y,h1,_,rfl⟩:=kP.1 hx
    have:=h1.dot (h.dots i K hK) (Vs _)
    show y.dot + 1<=_
    omega
theorem MH {l:List Nat}:n_ g K (l ++ [s]) acc = (ya (n_ g K l acc).1 (bx g K s),(n_ g K l acc).2 ++ [⟨s,(n_ g K l acc).1.idxOf (bx g K s)⟩]):=by
 unfold n_; rw [List.foldl_append]; rfl
theorem Fy {l:List Nat} (h:l[j]? = some s):n_ g K (l.take (j + 1)) acc = (ya (n_ g K (l.take j) acc).1 (bx g K s),(n_ g K (l.take j) acc).2 ++ [⟨s,(n_ g K (l.take j) acc).1.idxOf (bx g K s)⟩]):=by
 rw [UI,h,VT,MH]
theorem Py (h:Ae g st) (hK:st[i]? = some K):∀ (l:List Nat),(∀ s∈l,bx g K (s:Int)≠[])->∀ es,Ae g (n_ g K l (st,es)).1/\(n_ g K l (st,es)).1[i]? = some K:=by
 have key:∀ (l:List Nat),(∀ s∈l,bx g K (s:Int)≠[])->∀ st es,Ae g st->st[i]? = some K->Ae g (n_ g K l (st,es)).1/\(n_ g K l (st,es)).1[i]? = some K:=by
  intro l
  induction l with
  | nil=>exact λ_ st es h hK=>⟨h,hK⟩
  | cons s l ih =>
   intro hl st es h hK
   exact ih (λz hz=>hl z (by simp [hz])) _ _ (h.put hK (hl s (by simp))) (Je hK)
 exact λl hl es=>key l hl st es h hK
theorem vt:∀ (l:List Nat) (st:List dp) (es:List aN) (j:Nat) (L:dp),st[j]? = some L->(n_ g K l (st,es)).1[j]? = some L
 | [],_,_,_,_,h=>h
 | s :: l,st,es,j,L,h=>vt l _ _ j L (Je h)
theorem Fz {st st' : List dp} (h:∀ (j:Nat) (L:dp),st[j]? = some L->st'[j]? = some L):st.length<=st'.length:=by
 refine VI λhc=>?_
 have:=h st'.length _ (UB (by omega))
 rw [UW (US _)] at this
 cases this
theorem rD:∀ s∈bS g K,bx g K (s:Int)≠[]:=λs hs=>Uz (Vo.1 hs).2
theorem gl (h:(dI g i).1[i]? = some K):dI g (i + 1) = ((n_ g K (bS g K) ((dI g i).1,[])).1,(dI g i).2 ++ [(n_ g K (bS g K) ((dI g i).1,[])).2]):=by
 show (match (dI g i).1[i]? with | none=>_ | some K=>_) = _
 rw [h]
theorem nu (h:(dI g i).1[i]? = none):dI g (i + 1) = dI g i:=by
 show (match (dI g i).1[i]? with | none=>_ | some K=>_) = _
 rw [h]
theorem l_ (hp:0 < g.prods.length):∀ i,Ae g (dI g i).1
 | 0=>Ae.start hp
 | i + 1=>by
  cases h:(dI g i).1[i]? with
  | none=>rw [nu h]; exact l_ hp i
  | some K=>rw [gl h]; exact (Py (l_ hp i) h _ rD _).1
theorem KD (i j:Nat) (L:dp) (h:(dI g i).1[j]? = some L):(dI g (i + 1)).1[j]? = some L:=by
 cases hi:(dI g i).1[i]? with
 | none=>rw [nu hi]; exact h
 | some K=>rw [gl hi]; exact vt _ _ _ _ _ h
theorem vu {i i' : Nat} (hi:i<=i') (j:Nat) (L:dp) (h:(dI g i).1[j]? = some L):(dI g i').1[j]? = some L:=by
 induction hi with
 | refl=>exact h
 | step _ ih=>exact KD _ _ _ ih
theorem HH:∀ i,i<=(dI g i).1.length->(dI g i).2.length = i
 | 0,_=>rfl
 | i + 1,h=>by
  cases hi:(dI g i).1[i]? with
  | none =>
   rw [nu hi] at h
   rw [List.getElem?_eq_none_iff] at hi
   omega
  | some K =>
   have:=HH i (by have:=(UA.1 hi).1; omega)
   rw [gl hi]; simp [this]
def FA (g:ae) (n:Nat):Prop:=(dI g n).1.length = n/\n<=256/\∀ i,i < n->i < (dI g i).1.length
def RF (g:ae):Prop:=∃ i K k,(dI g i).1[i]? = some K/\(∀ j,j<=i->j < (dI g j).1.length)/\256 < (n_ g K ((bS g K).take k) ((dI g i).1,[])).1.length
theorem FB {n m:Nat} (h:FA g n) (h' : FA g m):n = m:=by
 rcases Nat.lt_trichotomy n m with e | e | e
 ·have:=h'.2.2 n e; have:=h.1; omega
 ·exact e
 ·have:=h.2.2 m e; have:=h'.1; omega
theorem MI (l:List Nat) (k:Nat) (es:List aN):(n_ g K (l.take k) (st,es)).1.length<=(n_ g K l (st,es)).1.length:=by
 have e:n_ g K l (st,es) = n_ g K (l.drop k) (n_ g K (l.take k) (st,es)):=by
  unfold n_; rw [<- List.foldl_append,UY]
 rw [e]
 exact Fz λj L h=>vt _ _ _ _ _ h
theorem Af {n:Nat} (h:FA g n) (h' : RF g):False:=by
 obtain ⟨i,K,k,hK,hj,hb⟩:=h'
 have hin:i < n:=by
  refine VI λhc=>?_
  have:=hj n (by omega)
  have:=h.1; omega
 have h1:=MI (g:=g) (K:=K) (st:=(dI g i).1) (bS g K) k []
 have h2:(dI g (i + 1)).1.length<=(dI g n).1.length:=Fz λj L hL=>vu (by omega) j L hL
 rw [gl hK] at h2
 have:=h.1
 have:=h.2.1
 simp only at h2
 omega
end
end Go.V
namespace Go.Proofs.YtndaepmjkbmjmaaGreatDoor
abbrev yb:FuncId:=26
def BG:bh:={ rngs:=[],loops:=[(7,[(6,(.one (.int .i64)))]),(12,[(8,(.one .slice))]),(18,[(10,(.one .slice)),(61,(.one (.int .i64)))])],joins:=[],blocks:=[] }
theorem BH {a:Wr} {b c:Nat} {d:Wr} {e f:Nat} {g:Wr} {i j:Nat} {k:Int} {l:Wr} {m n:Nat} {w:Ws} {R:Value->WP} (h:new w (oC [vS a b c,vS d e f,vS g i j,iI k,vS l m n] 27) λk1 w1=>new w1 (oC [vS none 0 0,iI 0,iI 0] 45) λk2 w2=>∃ o1 k3 k4 o2 k5 k6 o3 k7 k8 n1 o4 k9 k10,rA w2 (aM k1) 5 [vS o1 k3 k4,vS o2 k5 k6,vS o3 k7 k8,iI n1,vS o4 k9 k10]/\rE 49 [vG [vS o1 k3 k4,vS o2 k5 k6,vS o3 k7 k8,iI n1,vS o4 k9 k10]] w2 λv1 w3=>∃ b1,v1 = vB b1/\br (!b1) (cG w3 (aM k2) [vS none 0 0,iI 0,iI 0] λw4=>∃ o5 k11 k12 n2 n3,rA w4 (aM k2) 3 [vS o5 k11 k12,iI n2,iI n3]/\R (vU [vG [vS o5 k11 k12,iI n2,iI n3],iI 1]) w4) (∃ o6 k13 k14 o7 k15 k16 o8 k17 k18 n4 o9 k19 k20,rA w3 (aM k1) 5 [vS o6 k13 k14,vS o7 k15 k16,vS o8 k17 k18,iI n4,vS o9 k19 k20]/\rE 50 [vG [vS o6 k13 k14,vS o7 k15 k16,vS o8 k17 k18,iI n4,vS o9 k19 k20]] w3 λv2 w5=>∃ o10,v2 = vP o10/\new w5 (Obj.map (Array.mk []) 0) λk21 w6=>new w6 (oC [vS none 0 0,iI 0,iI 0,Value.map (some k21)] 101) λk22 w7=>new w7 (oC [iI 0,iI 0] 104) λk23 w8=>rE 51 [vP (some (aM k22)),vS (some (aM k23)) 1 1] w8 λv3 w9=>∃ n5,v3 = iI n5/\∃ (x1:lP [(6,aD)]),∃ (x2:lN [(6,aD)]),x1 0 w9/\∀ (I1:Nat->Value) (n6:Int) (w10:Ws),x1 n6 w10->∃ o11 k24 k25,cL w10 (aM k22) (vS o11 k24 k25)/\br (decide (n6 < (k24:Int))) (∃ o12 k26 k27,cL w10 (aM k22) (vS o12 k26 k27)/\idx o12 k26 n6 2 λa1=>∃ o13 k28 k29,cL w10 a1 (vS o13 k28 k29)/\rE 52 [vP o10,vS o13 k28 k29] w10 λv4 w11=>∃ o14,v4 = Value.map o14/\aU Proofs.Tryz.prog (Instr.range 105 (Value.map o14)) w11 λv5 w12=>∃ o15,v5 = vP o15/\∃ (x3:lP [(8,mL)]),∃ (x4:lN [(8,mL)]),x3 none 0 0 w12/\∀ (I2:Nat->Value) (o16:Wr) (k30 k31:Nat) (w13:Ws),x3 o16 k30 k31 w13->aU Proofs.Tryz.prog (Instr.next (vP o15) false 0) w13 λv6 w14=>(v6 = vU [vB false]/\rE 53 [vS o16 k30 k31] w14 λv7 w15=>v7 = vU []/\∃ (x5:lP [(10,mL),(61,aD)]),∃ (x6:lN [(10,mL),(61,aD)]),x5 none 0 0 0 w15/\∀ (I3:Nat->Value) (o17:Wr) (k32 k33:Nat) (n7:Int) (w16:Ws),x5 o17 k32 k33 n7 w16->br (decide (n7 < (k30:Int))) (idx o16 k30 n7 1 λa2=>∃ n8,cL w16 a2 (iI n8)/\aU Proofs.Tryz.prog (Instr.lookup 105 (Value.map o14) (iI n8) false) w16 λv8 w17=>∃ o18 k34 k35,v8 = vS o18 k34 k35/\rE 54 [vS o18 k34 k35] w17 λv9 w18=>∃ o19 k36 k37,v9 = vS o19 k36 k37/\rE 51 [vP (some (aM k22)),vS o19 k36 k37] w18 λv10 w19=>∃ n9,v10 = iI n9/\new w19 (oC [iI n8,iI n9] 56) λk38 w20=>rS (jT 52 (Array.mk [vS o17 k32 k33,vS (some (aM k38)) 1 1])) w20 λv11 w21=>∃ o20 k39 k40,v11 = vS o20 k39 k40/\∃ o21 k41 k42,cL w21 (aM k22) (vS o21 k41 k42)/\br (decide (256 < (k41:Int))) (cG w21 (aM k2) [vS none 0 0,iI 0,iI 0] λw22=>∃ o22 k43 k44 n10 n11,rA w22 (aM k2) 3 [vS o22 k43 k44,iI n10,iI n11]/\R (vU [vG [vS o22 k43 k44,iI n10,iI n11],iI 11]) w22) (aw (n7 + 1)/\x5 o20 k39 k40 (n7 + 1) w21/\x6 o20 k39 k40 (n7 + 1) w21 < x6 o17 k32 k33 n7 w16)) (∀ w23,drawn w16 w23->∃ (I4:WP),I4 w23/\∃ o23 k45 k46,(∀ w24,I4 w24->cL w24 (aM k22) (vS o23 k45 k46))/\rE 55 [vS o17 k32 k33] w23 λv12 w25=>∃ o24 k47 k48,v12 = vS o24 k47 k48/\I4 w25/\idx o23 k45 n6 2 λa3=>st1 w25 (Addr.add a3 1) (vS o24 k47 k48) λw26=>aw (n6 + 1)/\x1 (n6 + 1) w26/\x2 (n6 + 1) w26 < x2 n6 w10))\/∃ n12 v13,v6 = vU [vB true,iI n12,v13]/\aU Proofs.Tryz.prog (Instr.entry (vP o15)) w14 λv14 w27=>∃ n13 v15,v14 = vU [iI n13,v15]/\new w27 (oC [iI n13] 3) λk49 w28=>rS (jT 24 (Array.mk [vS o16 k30 k31,vS (some (aM k49)) 1 1])) w28 λv16 w29=>∃ o25 k50 k51,v16 = vS o25 k50 k51/\x3 o25 k50 k51 w29/\x4 o25 k50 k51 w29 < x4 o16 k30 k31 w13) (∃ o26 k52 k53,cL w10 (aM k22) (vS o26 k52 k53)/\rE 56 [vS o26 k52 k53] w10 λv17 w30=>∃ o27 k54 k55,v17 = vS o27 k54 k55/\st1 w30 (aM k22) (vS o27 k54 k55) λw31=>∃ o28 k56 k57 n14 n15,rA w31 (aM k22) 3 [vS o28 k56 k57,iI n14,iI n15]/\cG w31 (aM k2) [vS o28 k56 k57,iI n14,iI n15] λw32=>∃ o29 k58 k59 n16 n17,rA w32 (aM k2) 3 [vS o29 k58 k59,iI n16,iI n17]/\R (vU [vG [vS o29 k58 k59,iI n16,iI n17],iI 0]) w32))):ay Tryz.prog 26 [(.agg #[(.slice a b c),(.slice d e f),(.slice g i j),(.int .i64 k),(.slice l m n)])] w R:=rv Tryz.func26 BG (by kernel_rfl) h
abbrev MJ:FuncId:=50
def HI:bh:={ rngs:=[],loops:=[(3,[(13,(.one (.int .i64)))])],joins:=[],blocks:=[] }
theorem HJ {a:Wr} {b c:Nat} {d:Wr} {e f:Nat} {g:Wr} {i j:Nat} {k:Int} {l:Wr} {m n:Nat} {w:Ws} {R:Value->WP} (h:new w (oC [vS a b c,vS d e f,vS g i j,iI k,vS l m n] 27) λk1 w1=>∃ o1 k2 k3 o2 k4 k5 o3 k6 k7 n1 o4 k8 k9,rA w1 (aM k1) 5 [vS o1 k2 k3,vS o2 k4 k5,vS o3 k6 k7,iI n1,vS o4 k8 k9]/\new w1 (Obj.map (Array.mk []) 0) λk10 w2=>new w2 (oC [vS o1 k2 k3,vS o2 k4 k5,vS o3 k6 k7,iI n1,vS o4 k8 k9,Value.map (some k10)] 162) λk11 w3=>∃ o5 k12 k13,cL w3 (Addr.add (aM k1) 4) (vS o5 k12 k13)/\∃ (x1:lP [(13,aD)]),∃ (x2:lN [(13,aD)]),x1 0 w3/\∀ (I1:Nat->Value) (n2:Int) (w4:Ws),x1 n2 w4->br (decide (n2 < (k12:Int))) (idx o5 k12 n2 3 λa1=>∃ n3 o6 k14 k15 n4,rA w4 a1 3 [iI n3,vS o6 k14 k15,iI n4]/\new w4 (oC [iI 0,vS none 0 0,iI 0] 81) λk16 w5=>cG w5 (aM k16) [iI n3,vS o6 k14 k15,iI n4] λw6=>∀ w7,drawn w6 w7->∃ (I2:WP),I2 w7/\∃ o7,(∀ w8,I2 w8->cL w8 (Addr.add (aM k11) 5) (Value.map o7))/\∃ n5,(∀ w9,I2 w9->cL w9 (aM k16) (iI n5))/\∃ o8,(∀ w10,I2 w10->cL w10 (Addr.add (aM k11) 5) (Value.map o8))/\∃ n6,(∀ w11,I2 w11->cL w11 (aM k16) (iI n6))/\(aU Proofs.Tryz.prog (Instr.lookup 160 (Value.map o8) (iI n6) false) w7 λv1 w12=>∃ o9 k17 k18,v1 = vS o9 k17 k18/\I2 w12/\new w12 (oC [iI n2] 3) λk19 w13=>I2 w13/\rS (jT 24 (Array.mk [vS o9 k17 k18,vS (some (aM k19)) 1 1])) w13 λv2 w14=>∃ o10 k20 k21,v2 = vS o10 k20 k21/\I2 w14/\aU Proofs.Tryz.prog (Instr.mapUpdate 160 (Value.map o7) (iI n5) (vS o10 k20 k21)) w14 λ(x3:Unit) (w15:Ws)=>aw (n2 + 1)/\x1 (n2 + 1) w15/\x2 (n2 + 1) w15 < x2 n2 w4)/\new w7 (oC [iI n2] 3) λk22 w16=>I2 w16/\aU Proofs.Tryz.prog (Instr.lookup 160 (Value.map o8) (iI n6) false) w16 λv3 w17=>∃ o11 k23 k24,v3 = vS o11 k23 k24/\I2 w17/\rS (jT 24 (Array.mk [vS o11 k23 k24,vS (some (aM k22)) 1 1])) w17 λv4 w18=>∃ o12 k25 k26,v4 = vS o12 k25 k26/\I2 w18/\aU Proofs.Tryz.prog (Instr.mapUpdate 160 (Value.map o7) (iI n5) (vS o12 k25 k26)) w18 λ(x4:Unit) (w19:Ws)=>aw (n2 + 1)/\x1 (n2 + 1) w19/\x2 (n2 + 1) w19 < x2 n2 w4) (R (vP (some (aM k11))) w4)):ay Tryz.prog 50 [(.agg #[(.slice a b c),(.slice d e f),(.slice g i j),(.int .i64 k),(.slice l m n)])] w R:=rv Tryz.func50 HI (by kernel_rfl) h
abbrev tU:FuncId:=51
def qt:bh:={ rngs:=[],loops:=[],joins:=[(5,[])],blocks:=[] }
theorem qu {a b:Wr} {c d:Nat} {w:Ws} {R:Value->WP} (h:nn a λa1=>∃ n1,cL w (Addr.add a1 1) (iI n1)/\aw (n1 + 1)/\nn a λa2=>st1 w (Addr.add a2 1) (iI (n1 + 1)) λw1=>rE 91 [vS b c d] w1 λv1 w2=>∃ s1,v1 = Value.string s1/\∃ (x1:lP []),(∀ w3,drawn w2 w3->∃ (I1:WP),I1 w3/\nn a λa3=>∃ o1,(∀ w4,I1 w4->cL w4 (Addr.add a3 3) (Value.map o1))/\aU Proofs.Tryz.prog (Instr.lookup 99 (Value.map o1) (Value.string s1) false) w3 λv2 w5=>∃ n2,v2 = iI n2/\∃ (I2:WP),I2 w5/\(∀ w6,I2 w6->I1 w6)/\br (decide (0 < n2)) (nn a λa4=>∃ o2 k1 k2,(∀ w7,I2 w7->cL w7 a4 (vS o2 k1 k2))/\nn a λa5=>∃ o3,(∀ w8,I2 w8->cL w8 (Addr.add a5 3) (Value.map o3))/\idx b c 0 2 λa6=>∃ n3 n4,(∀ w9,I2 w9->rA w9 a6 2 [iI n3,iI n4])/\aU Proofs.Tryz.prog (Instr.lookup 99 (Value.map o3) (Value.string s1) false) w5 λv3 w10=>∃ n5,v3 = iI n5/\∃ (I3:WP),I3 w10/\(∀ w11,I3 w11->I2 w11)/\aw (n5 - 1)/\idx o2 k1 (n5 - 1) 2 λa7=>∃ o4 k3 k4,(∀ w12,I3 w12->cL w12 a7 (vS o4 k3 k4))/\idx o4 k3 0 2 λa8=>∃ n6 n7,(∀ w13,I3 w13->rA w13 a8 2 [iI n6,iI n7])/\∃ v4,(∀ w14,I3 w14->Sem.run Proofs.Tryz.prog (fu BinOp.eql 104 (Operand.tmp 41) (Operand.tmp 44) (vG [iI n6,iI n7]) (vG [iI n3,iI n4])) w14 = Result.ok v4 w14)/\∃ b1,v4 = vB b1/\br b1 (nn a λa9=>∃ o5,cL w10 (Addr.add a9 3) (Value.map o5)/\aU Proofs.Tryz.prog (Instr.lookup 99 (Value.map o5) (Value.string s1) false) w10 λv5 w15=>∃ n8,v5 = iI n8/\aw (n8 - 1)/\R (iI (n8 - 1)) w15) (x1 w10)) (x1 w5))/\∀ (I4:Nat->Value) (w16:Ws),x1 w16->nn a λa10=>∃ n9,cL w16 (Addr.add a10 2) (iI n9)/\aw (n9 + 1)/\nn a λa11=>st1 w16 (Addr.add a11 2) (iI (n9 + 1)) λw17=>nn a λa12=>∃ o6 k5 k6,cL w17 a12 (vS o6 k5 k6)/\new w17 (oC [vS b c d,vS none 0 0] 54) λk7 w18=>rS (jT 43 (Array.mk [vS o6 k5 k6,vS (some (aM k7)) 1 1])) w18 λv6 w19=>∃ o7 k8 k9,v6 = vS o7 k8 k9/\nn a λa13=>st1 w19 a13 (vS o7 k8 k9) λw20=>∀ w21,drawn w20 w21->∃ (I5:WP),I5 w21/\nn a λa14=>∃ o8,(∀ w22,I5 w22->cL w22 (Addr.add a14 3) (Value.map o8))/\nn a λa15=>∃ o9 k10 k11,(∀ w23,I5 w23->cL w23 a15 (vS o9 k10 k11))/\aU Proofs.Tryz.prog (Instr.mapUpdate 99 (Value.map o8) (Value.string s1) (iI (k10:Int))) w21 λ(x2:Unit) (w24:Ws)=>nn a λa16=>∃ o10,cL w24 (Addr.add a16 3) (Value.map o10)/\aU Proofs.Tryz.prog (Instr.lookup 99 (Value.map o10) (Value.string s1) false) w24 λv7 w25=>∃ n10,v7 = iI n10/\aw (n10 - 1)/\R (iI (n10 - 1)) w25):ay Tryz.prog 51 [(.pointer a),(.slice b c d)] w R:=rv Tryz.func51 qt (by kernel_rfl) h
abbrev sx:FuncId:=52
def pg:bh:={ rngs:=[],loops:=[(3,[(14,(.one (.int .i64)))])],joins:=[],blocks:=[] }
theorem ph {a b:Wr} {c d:Nat} {w:Ws} {R:Value->WP} (h:new w (Obj.map (Array.mk []) 0) λk1 w1=>rE 92 [vP a,vS b c d] w1 λv1 w2=>∃ o1 k2 k3,v1 = vS o1 k2 k3/\∃ (x1:lP [(14,aD)]),∃ (x2:lN [(14,aD)]),x1 0 w2/\∀ (I1:Nat->Value) (n1:Int) (w3:Ws),x1 n1 w3->br (decide (n1 < (k2:Int))) (idx o1 k2 n1 2 λa1=>∃ n2 n3,rA w3 a1 2 [iI n2,iI n3]/\new w3 (oC [iI 0,iI 0] 104) λk4 w4=>cG w4 (aM k4) [iI n2,iI n3] λw5=>∃ n4 n5,rA w5 (aM k4) 2 [iI n4,iI n5]/\rE 93 [vP a,vG [iI n4,iI n5]] w5 λv2 w6=>∃ n6,v2 = iI n6/\br (decide (0<=n6)) (aU Proofs.Tryz.prog (Instr.lookup 105 (Value.map (some k1)) (iI n6) false) w6 λv3 w7=>∃ o2 k5 k6,v3 = vS o2 k5 k6/\∃ n7,cL w7 (aM k4) (iI n7)/\∃ n8,cL w7 (Addr.add (aM k4) 1) (iI n8)/\aw (n8 + 1)/\new w7 (oC [iI n7,iI (n8 + 1)] 104) λk7 w8=>rS (jT 51 (Array.mk [vS o2 k5 k6,vS (some (aM k7)) 1 1])) w8 λv4 w9=>∃ o3 k8 k9,v4 = vS o3 k8 k9/\aU Proofs.Tryz.prog (Instr.mapUpdate 105 (Value.map (some k1)) (iI n6) (vS o3 k8 k9)) w9 λ(x3:Unit) (w10:Ws)=>aw (n1 + 1)/\x1 (n1 + 1) w10/\x2 (n1 + 1) w10 < x2 n1 w3) (aw (n1 + 1)/\x1 (n1 + 1) w6/\x2 (n1 + 1) w6 < x2 n1 w3)) (R (Value.map (some k1)) w3)):ay Tryz.prog 52 [(.pointer a),(.slice b c d)] w R:=rv Tryz.func52 pg (by kernel_rfl) h
abbrev HK:FuncId:=54
def DO:bh:={ rngs:=[],loops:=[],joins:=[],blocks:=[] }
theorem DP {a:Wr} {b c:Nat} {w:Ws} {R:Value->WP} (h:rE 96 [vS a b c,Value.func (Fn.func 97) (Array.mk []) (Array.mk [])] w λv1 w1=>v1 = vU []/\rE 101 [vS a b c] w1 λv2 w2=>∃ o1 k1 k2,v2 = vS o1 k1 k2/\rE 100 [vS o1 k1 k2] w2 λv3 w3=>∃ o2 k3 k4,v3 = vS o2 k3 k4/\R (vS o2 k3 k4) w3):ay Tryz.prog 54 [(.slice a b c)] w R:=rv Tryz.func54 DO (by kernel_rfl) h
def gL:bh:={ rngs:=[],loops:=[],joins:=[],blocks:=[] }
theorem gM {a:Wr} {b c:Nat} {w:Ws} {R:Value->WP} (h:lV a b c none (some (b:Int)) (some (b:Int)) 2 λ(o1:Wr) (k1 k2:Nat)=>R (vS o1 k1 k2) w):ay Tryz.prog 55 [(.slice a b c)] w R:=rv Tryz.func55 gL (by kernel_rfl) h
def fN:bh:={ rngs:=[],loops:=[],joins:=[],blocks:=[] }
theorem fO {a:Wr} {b c:Nat} {w:Ws} {R:Value->WP} (h:lV a b c none (some (b:Int)) (some (b:Int)) 2 λ(o1:Wr) (k1 k2:Nat)=>R (vS o1 k1 k2) w):ay Tryz.prog 56 [(.slice a b c)] w R:=rv Tryz.func56 fN (by kernel_rfl) h
abbrev KE:FuncId:=91
def FD:bh:={ rngs:=[],loops:=[(3,[(3,(.one .slice)),(8,(.one (.int .i64)))])],joins:=[],blocks:=[] }
theorem FE {a:Wr} {b c:Nat} {w:Ws} {R:Value->WP} (h:∃ (x1:lP [(3,mL),(8,aD)]),∃ (x2:lN [(3,mL),(8,aD)]),x1 none 0 0 0 w/\∀ (I1:Nat->Value) (o1:Wr) (k1 k2:Nat) (n1:Int) (w1:Ws),x1 o1 k1 k2 n1 w1->br (decide (n1 < (b:Int))) (idx a b n1 2 λa1=>∃ n2 n3,rA w1 a1 2 [iI n2,iI n3]/\new w1 (oC [iI 0,iI 0] 104) λk3 w2=>cG w2 (aM k3) [iI n2,iI n3] λw3=>∃ n4,cL w3 (aM k3) (iI n4)/\∃ n5,cL w3 (Addr.add (aM k3) 1) (iI n5)/\∃ n6,cL w3 (Addr.add (aM k3) 1) (iI n6)/\ns 8/\new w3 (oC [Value.int IntKind.u8 (IntKind.wrap IntKind.u8 n4),Value.int IntKind.u8 (IntKind.wrap IntKind.u8 n5),Value.int IntKind.u8 (IntKind.wrap IntKind.u8 (bw IntKind.i64 n6 8))] 5) λk4 w4=>rS (jT 201 (Array.mk [vS o1 k1 k2,vS (some (aM k4)) 3 3])) w4 λv1 w5=>∃ o2 k5 k6,v1 = vS o2 k5 k6/\aw (n1 + 1)/\x1 o2 k5 k6 (n1 + 1) w5/\x2 o2 k5 k6 (n1 + 1) w5 < x2 o1 k1 k2 n1 w1) (aU Proofs.Tryz.prog (convert 201 9 (vS o1 k1 k2)) w1 λv2 w6=>∃ s1,v2 = Value.string s1/\R (Value.string s1) w6)):ay Tryz.prog 91 [(.slice a b c)] w R:=rv Tryz.func91 FD (by kernel_rfl) h
abbrev sy:FuncId:=92
def pj:bh:={ rngs:=[],loops:=[(4,[(5,(.one .slice)),(7,(.one (.int .i64)))]),(10,[(5,(.one .slice)),(45,(.one (.int .i64)))])],joins:=[],blocks:=[] }
theorem pn {a b:Wr} {c d:Nat} {w:Ws} {R:Value->WP} (h:rE 144 [vS b c d] w λv1 w1=>∃ o1 k1 k2,v1 = vS o1 k1 k2/\new w1 (Obj.map (Array.mk []) 0) λk3 w2=>∃ (x1:lP [(5,mL),(7,aD)]),∃ (x2:lN [(5,mL),(7,aD)]),x1 o1 k1 k2 0 w2/\∀ (I1:Nat->Value) (o2:Wr) (k4 k5:Nat) (n1:Int) (w3:Ws),x1 o2 k4 k5 n1 w3->br (decide (n1 < (k4:Int))) (idx o2 k4 n1 2 λa1=>∃ n2 n3,rA w3 a1 2 [iI n2,iI n3]/\rE 93 [vP a,vG [iI n2,iI n3]] w3 λv2 w4=>∃ n4,v2 = iI n4/\br (decide (n4 < 0)) (aw (n1 + 1)/\x1 o2 k4 k5 (n1 + 1) w4/\x2 o2 k4 k5 (n1 + 1) w4 < x2 o2 k4 k5 n1 w3) (aU Proofs.Tryz.prog (Instr.lookup 226 (Value.map (some k3)) (iI n4) false) w4 λv3 w5=>∃ n5,v3 = iI n5/\br (decide (0 < n5)) (aw (n1 + 1)/\x1 o2 k4 k5 (n1 + 1) w5/\x2 o2 k4 k5 (n1 + 1) w5 < x2 o2 k4 k5 n1 w3) (aU Proofs.Tryz.prog (Instr.lookup 226 (Value.map (some k3)) (iI n4) false) w5 λv4 w6=>∃ n6,v4 = iI n6/\aw (n6 + 1)/\aU Proofs.Tryz.prog (Instr.mapUpdate 226 (Value.map (some k3)) (iI n4) (iI (n6 + 1))) w6 λ(x3:Unit) (w7:Ws)=>nn a λa2=>∃ o3,cL w7 (Addr.add a2 5) (Value.map o3)/\aU Proofs.Tryz.prog (Instr.lookup 160 (Value.map o3) (iI n4) false) w7 λv5 w8=>∃ o4 k6 k7,v5 = vS o4 k6 k7/\∃ (x4:lP [(5,mL),(45,aD)]),∃ (x5:lN [(5,mL),(45,aD)]),x4 o2 k4 k5 0 w8/\∀ (I2:Nat->Value) (o5:Wr) (k8 k9:Nat) (n7:Int) (w9:Ws),x4 o5 k8 k9 n7 w9->br (decide (n7 < (k6:Int))) (idx o4 k6 n7 1 λa3=>∃ n8,cL w9 a3 (iI n8)/\new w9 (oC [iI n8,iI 0] 104) λk10 w10=>rS (jT 51 (Array.mk [vS o5 k8 k9,vS (some (aM k10)) 1 1])) w10 λv6 w11=>∃ o6 k11 k12,v6 = vS o6 k11 k12/\aw (n7 + 1)/\x4 o6 k11 k12 (n7 + 1) w11/\x5 o6 k11 k12 (n7 + 1) w11 < x5 o5 k8 k9 n7 w9) (aw (n1 + 1)/\x1 o5 k8 k9 (n1 + 1) w9/\x2 o5 k8 k9 (n1 + 1) w9 < x2 o2 k4 k5 n1 w3)))) (rE 54 [vS o2 k4 k5] w3 λv7 w12=>∃ o7 k13 k14,v7 = vS o7 k13 k14/\R (vS o7 k13 k14) w12)):ay Tryz.prog 92 [(.pointer a),(.slice b c d)] w R:=rv Tryz.func92 pj (by kernel_rfl) h
abbrev tV:FuncId:=93
def qv:bh:={ rngs:=[],loops:=[],joins:=[],blocks:=[] }
theorem qw {a:Wr} {b c:Int} {w:Ws} {R:Value->WP} (h:new w (oC [iI b,iI c] 104) λk1 w1=>∀ w2,drawn w1 w2->∃ (I1:WP),I1 w2/\nn a λa1=>∃ o1 k2 k3,(∀ w3,I1 w3->cL w3 (Addr.add a1 4) (vS o1 k2 k3))/\∃ n1,(∀ w4,I1 w4->cL w4 (aM k1) (iI n1))/\idx o1 k2 n1 3 λa2=>∃ o2 k4 k5,(∀ w5,I1 w5->cL w5 (Addr.add a2 1) (vS o2 k4 k5))/\∃ n2,cL w2 (Addr.add (aM k1) 1) (iI n2)/\br (n2 == (k4:Int)) (R (iI (-1)) w2) (∃ n3,cL w2 (Addr.add (aM k1) 1) (iI n3)/\idx o2 k4 n3 1 λa3=>∃ n4,cL w2 a3 (iI n4)/\R (iI n4) w2)):ay Tryz.prog 93 [(.pointer a),(.agg #[(.int .i64 b),(.int .i64 c)])] w R:=rv Tryz.func93 qv (by kernel_rfl) h
def yF:bh:={ rngs:=[],loops:=[],joins:=[],blocks:=[] }
theorem yG {a b c d:Int} {w:Ws} {R:Value->WP} (h:new w (oC [iI a,iI b] 104) λk1 w1=>new w1 (oC [iI c,iI d] 104) λk2 w2=>∀ w3,drawn w2 w3->∃ (I1:WP),I1 w3/\∃ n1,(∀ w4,I1 w4->cL w4 (aM k1) (iI n1))/\∃ n2,(∀ w5,I1 w5->cL w5 (aM k2) (iI n2))/\∃ n3,(∀ w6,I1 w6->cL w6 (Addr.add (aM k1) 1) (iI n3))/\∃ n4,(∀ w7,I1 w7->cL w7 (Addr.add (aM k2) 1) (iI n4))/\rE 99 [iI n1,iI n2] w3 λv1 w8=>∃ n5,v1 = iI n5/\I1 w8/\rE 99 [iI n3,iI n4] w8 λv2 w9=>∃ n6,v2 = iI n6/\I1 w9/\new w9 (oC [iI n5,iI n6] 3) λk3 w10=>I1 w10/\rE 98 [vS (some (aM k3)) 2 2] w10 λv3 w11=>∃ n7,v3 = iI n7/\I1 w11/\R (iI n7) w11):ay Tryz.prog 97 [(.agg #[(.int .i64 a),(.int .i64 b)]),(.agg #[(.int .i64 c),(.int .i64 d)])] w R:=rv Tryz.func97 yF (by kernel_rfl) h
def yH:bh:={ rngs:=[],loops:=[(3,[(8,(.one (.int .i64)))])],joins:=[],blocks:=[] }
theorem yI {a:Wr} {b c:Nat} {w:Ws} {R:Value->WP} (h:∃ (x1:lP [(8,aD)]),∃ (x2:lN [(8,aD)]),x1 0 w/\∀ (I1:Nat->Value) (n1:Int) (w1:Ws),x1 n1 w1->br (decide (n1 < (b:Int))) (idx a b n1 1 λa1=>∃ n2,World.cell? w1 a1 = some (iI n2)/\br (n2 != 0) (R (iI n2) w1) (aw (n1 + 1)/\x1 (n1 + 1) w1/\x2 (n1 + 1) w1 < x2 n1 w1)) (R (iI 0) w1)):ay Tryz.prog 98 [(.slice a b c)] w R:=rv Tryz.func98 yH (by kernel_rfl) h
def qx:bh:={ rngs:=[],loops:=[],joins:=[],blocks:=[] }
theorem qy {a b:Int} {w:Ws} {R:Value->WP} (h:rE 157 [iI a] w λv1 w1=>∃ b1,v1 = vB b1/\rE 157 [iI b] w1 λv2 w2=>∃ b2,v2 = vB b2/\br b1 (br b2 (R (iI 0) w2) (R (iI (-1)) w2)) (br b2 (R (iI 1) w2) (br (decide (a < b)) (R (iI (-1)) w2) (br (decide (b < a)) (R (iI 1) w2) (R (iI 0) w2))))):ay Tryz.prog 99 [(.int .i64 a),(.int .i64 b)] w R:=rv Tryz.func99 qx (by kernel_rfl) h
def gN:bh:={ rngs:=[],loops:=[],joins:=[],blocks:=[] }
theorem gO {a:Wr} {b c:Nat} {w:Ws} {R:Value->WP} (h:lV a b c none (some (b:Int)) (some (b:Int)) 2 λ(o1:Wr) (k1 k2:Nat)=>R (vS o1 k1 k2) w):ay Tryz.prog 100 [(.slice a b c)] w R:=rv Tryz.func100 gN (by kernel_rfl) h
abbrev gm:FuncId:=101
def fA:bh:={ rngs:=[],loops:=[(4,[(3,(.one (.int .i64)))]),(9,[(3,(.one (.int .i64))),(5,(.one (.int .i64)))])],joins:=[],blocks:=[] }
theorem fB {a:Wr} {b c:Nat} {w:Ws} {R:Value->WP} (h:br (decide ((b:Int) < 2)) (R (vS a b c) w) (∃ (x1:lP [(3,aD)]),∃ (x2:lN [(3,aD)]),x1 1 w/\∀ (I1:Nat->Value) (n1:Int) (w1:Ws),x1 n1 w1->br (decide (n1 < (b:Int))) (∀ w2,drawn w1 w2->∃ (I2:WP),I2 w2/\idx a b n1 2 λa1=>∃ n2 n3,(∀ w3,I2 w3->V.rowAt w3 a1 0 2 = some [iI n2,iI n3])/\aw (n1 - 1)/\idx a b (n1 - 1) 2 λa2=>∃ n4 n5,(∀ w4,I2 w4->V.rowAt w4 a2 0 2 = some [iI n4,iI n5])/\∃ v1,(∀ w5,I2 w5->Sem.run Proofs.Tryz.prog (fu BinOp.eql 104 (Operand.tmp 19) (Operand.tmp 24) (vG [iI n2,iI n3]) (vG [iI n4,iI n5])) w5 = Result.ok v1 w5)/\∃ b1,v1 = vB b1/\br b1 (lV a b c (some n1) none none 2 λ(o1:Wr) (k1 k2:Nat)=>∃ (x3:lP [(3,aD),(5,aD)]),∃ (x4:lN [(3,aD),(5,aD)]),x3 n1 1 w2/\∀ (I3:Nat->Value) (n6 n7:Int) (w6:Ws),x3 n6 n7 w6->br (decide (n7 < (k1:Int))) (∀ w7,drawn w6 w7->∃ (I4:WP),I4 w7/\idx o1 k1 n7 2 λa3=>∃ n8 n9,(∀ w8,I4 w8->V.rowAt w8 a3 0 2 = some [iI n8,iI n9])/\aw (n7 - 1)/\idx o1 k1 (n7 - 1) 2 λa4=>∃ n10 n11,(∀ w9,I4 w9->V.rowAt w9 a4 0 2 = some [iI n10,iI n11])/\∃ v2,(∀ w10,I4 w10->Sem.run Proofs.Tryz.prog (fu BinOp.neq 104 (Operand.tmp 38) (Operand.tmp 43) (vG [iI n8,iI n9]) (vG [iI n10,iI n11])) w10 = Result.ok v2 w10)/\∃ b2,v2 = vB b2/\br b2 (idx o1 k1 n7 2 λa5=>∃ n12 n13,V.rowAt w7 a5 0 2 = some [iI n12,iI n13]/\idx a b n6 2 λa6=>cG w7 a6 [iI n12,iI n13] λw11=>aw (n6 + 1)/\aw (n7 + 1)/\x3 (n6 + 1) (n7 + 1) w11/\x4 (n6 + 1) (n7 + 1) w11 < x4 n6 n7 w6) (aw (n7 + 1)/\x3 n6 (n7 + 1) w7/\x4 n6 (n7 + 1) w7 < x4 n6 n7 w6)) (lV a b c (some n6) none none 2 λ(o2:Wr) (k3 k4:Nat)=>rS (Builtin.clear_ (Array.mk [51]) 0 (Array.mk [vS o2 k3 k4])) w6 λv3 w12=>lV a b c none (some n6) none 2 λ(o3:Wr) (k5 k6:Nat)=>R (vS o3 k5 k6) w12)) (aw (n1 + 1)/\x1 (n1 + 1) w2/\x2 (n1 + 1) w2 < x2 n1 w1)) (R (vS a b c) w1))):ay Tryz.prog 101 [(.slice a b c)] w R:=rv Tryz.func101 fA (by kernel_rfl) h
abbrev il:FuncId:=144
def gn:bh:={ rngs:=[],loops:=[],joins:=[],blocks:=[] }
theorem gp {a:Wr} {b c:Nat} {w:Ws} {R:Value->WP} (h:br (Option.isNone a) (R (vS none 0 0) w) (new w (oC [] 104) λk1 w1=>rS (jT 51 (Array.mk [vS (some (aM k1)) 0 0,vS a b c])) w1 λv1 w2=>∃ o1 k2 k3,v1 = vS o1 k2 k3/\R (vS o1 k2 k3) w2)):ay Tryz.prog 144 [(.slice a b c)] w R:=rv Tryz.func144 gn (by kernel_rfl) h
end Go.Proofs.YtndaepmjkbmjmaaGreatDoor
namespace Go.V
open Go.Proofs Go.Sort
instance:Inhabited ai:=⟨⟨0,0⟩⟩
def cV (x:ai):List Value:=[.int .i64 x.prod,.int .i64 x.dot]
def tv (xs:List ai):List Value:=xs.flatMap cV
theorem DQ (x:ai) (xs:List ai):tv (x :: xs) = .int .i64 x.prod :: .int .i64 x.dot :: tv xs:=rfl
theorem fP:∀ xs:List ai,(tv xs).length = xs.length * 2
 | []=>rfl
 | x :: xs=>by rw [DQ,Vc,Vc,fP xs,Vc]; omega
theorem wT (xs ys:List ai):tv (xs ++ ys) = tv xs ++ tv ys:=U_
theorem MK:∀ (xs:List ai) (t:Nat),(tv xs)[t]? = (xs[t / 2]?).bind λx=>(cV x)[t % 2]?
 | [],t=>by simp [tv]
 | x :: xs,0=>rfl
 | x :: xs,1=>rfl
 | x :: xs,t + 2=>by
  rw [DQ,Wg,Wg,MK xs t,show (t + 2) / 2 = t / 2 + 1 by omega,show (t + 2) % 2 = t % 2 by omega,Wg]
theorem DR (xs:List ai):(flatK cV 2 xs.toArray).toList = tv xs:=by
 apply Vq
 intro t
 rw [MK]
 by_cases h:t < xs.length * 2
 ·have h1:t / 2 < xs.length:=by omega
  have h2:t < (flatK cV 2 xs.toArray).size:=by simp; omega
  have h3:=get_flatK cV 2 xs.toArray t (by simpa using h)
  rw [getElem!_pos _ t h2] at h3
  rw [Va,Array.getElem?_eq_getElem h2,h3,UB h1,Option.bind_some,getElem!_pos xs.toArray (t / 2) (by simpa using h1)]
  have h4:t % 2 < (cV xs[t / 2]).length:=by simp [cV]; omega
  rw [UB h4]
  congr 1
  simp [h4]
 ·rw [Va,Array.getElem?_eq_none (by simp; omega),UW (by omega)]; rfl
section
variable {w:Ws} {L:List au}
theorem ML {a:Wr} {l c:Nat} {xs:List ai} (h:St w (own 2 a l c (tv xs) :: L)) (hl:0 < l) :
  ∃ b off,a = some ⟨b,off,none⟩/\l = xs.length/\HoldsK cV 2 w b off xs.toArray/\b < w.heap.size /\
   (∀ (m:Nat) (os:Array Obj) (d' : Array ai),d'.size = xs.length->St (sortWorldK cV 2 w b off m d' os) (own 2 a l c (tv d'.toList) :: L)):=by
 rcases cq h with ⟨_,h2,_⟩ | ⟨b,pre,cs,post,rfl,hc,h1,h2,h3⟩
 ·omega
 ·have hsz:l = xs.length:=by rw [fP] at h1; omega
  refine ⟨b,pre.length,rfl,hsz,?_,?_,?_⟩
  ·intro j hj
   have hj2:j < (tv xs).length:=by rw [fP]; simpa using hj
   refine ⟨?_,hc.frozen _ _⟩
   rw [hc.cell,UP (by omega),Vp,UQ hj2,<- DR,Va,Array.getElem?_eq_getElem hj,getElem!_pos _ j hj]
   rfl
  ·obtain ⟨e,h⟩:=gH.1 hc
   exact (Vd.1 h.get).1
  ·intro m os d' hs
   have h5:=hc.sort (enc:=id) pre.length m (flatK cV 2 d') os
   have e1:tv xs = (flatK cV 2 xs.toArray).toList.map id:=by rw [DR]; simp
   have e2:(flatK cV 2 d').toList.map id = tv d'.toList:=by
    have:=DR d'.toList
    simp only [Array.toArray_toList] at this
    rw [this]; simp
   rw [e1,vn pre (cs ++ post) (flatK cV 2 xs.toArray) (flatK cV 2 d') (by simp [hs]),e2] at h5
   refine dx h5 ?_ ?_ h3
   ·rw [fP,Wq,hs]; omega
   ·rw [UG,fP] at h2 ⊢
    rw [Wq,hs]; omega
end
def po (a b:Int):Int:=if a < b then -1 else if b < a then 1 else 0
def HL (x y:ai):Int:=if po x.prod y.prod = 0 then po x.dot y.dot else po x.prod y.prod
theorem mc (x y:ai):ltOf HL x y = decide (x.lt y):=by
 have h:HL x y < 0↔x.lt y:=by
  unfold HL po ai.lt
  by_cases h1:x.prod < y.prod
  ·simp [h1]
  ·by_cases h2:y.prod < x.prod
   ·simp [h1,h2]; omega
   ·have h3:x.prod = y.prod:=by omega
    by_cases h4:x.dot < y.dot
    ·simp [h3,h4]
    ·by_cases h5:y.dot < x.dot
     ·simp [h3,h4,h5]
     ·simp [h3,h4,h5]
 unfold ltOf
 rw [decide_eq_decide,h]
theorem TN:SWO (ltOf HL):=⟨λx=>by rw [mc]; exact U5 (ai.lt_irrefl x),λx y z=>by rw [mc,mc,mc]; simp only [UO]; exact ai.lt_trans,λx y z=>by
 rw [mc,mc,mc]; simp only [Vl]; unfold ai.lt; intro h1 h2 h3; omega⟩
end Go.V
namespace Go.Proofs.YtndaepmjkbmjmaaGreatDoor
open Go.V Go.Sort Go.Shelf
variable {w:Ws} {L:List au}
theorem MM (a b:Int):rE sr [.int .i64 a,.int .i64 b] w λv w'=>v = .int .i64 (po a b)/\w' = w:=by
 have nan:∀ a:Int,∀ w,rE vg [.int .i64 a] w λv w'=>v = .bool false/\w' = w:=λa w=>kM ⟨by simp,rfl⟩
 refine qy ((nan a w).mono ?_)
 rintro _ _ ⟨rfl,rfl⟩
 refine ⟨_,rfl,(nan b _).mono ?_⟩
 rintro _ _ ⟨rfl,rfl⟩
 refine ⟨_,rfl,aa (λh=>by cases h) λ_=>aa (λh=>by cases h) λ_=>aa (λh=>?_) λh=>aa (λh2=>?_) λh2=>?_⟩
 ·have h:=Uz h; unfold po; rw [UJ h]; exact ⟨rfl,rfl⟩
 ·have h:=Uy h; have h2:=Uz h2; unfold po; rw [UE h,UJ h2]; exact ⟨rfl,rfl⟩
 ·have h:=Uy h; have h2:=Uy h2; unfold po; rw [UE h,UE h2]; exact ⟨rfl,rfl⟩
theorem TO {a:Wr} {x y:Int} (hx:aX (hp w) [x,y] a 2):rE z6 [.slice a 2 2] w λv w'=>v = .int .i64 (if x = 0 then y else x)/\w' = w:=by
 refine yI ⟨λz w'=>∃ i:Nat,z = i/\i<=2/\(0 < i->x = 0)/\(1 < i->y = 0)/\w' = w,λz _=>2 - z.toNat,⟨0,rfl,by omega,by omega,by omega,rfl⟩,?_⟩
 rintro _ z w1 ⟨i,rfl,hi,h0,h1,e1⟩
 rw [e1]
 refine aa (λh2=>?_) λh2=>?_
 ·have h2:i < 2:=by have:=Uz h2; omega
  obtain ⟨u,ad,hu,ha,cu⟩:=hx.dM h2
  refine aB ha h2 ⟨u,cu _ (sub.refl _),aa (λh3=>?_) λh3=>?_⟩
  ·have h3:u≠0:=bne_iff_ne.1 h3
   match i,h2 with
   | 0,_=>simp at hu; subst hu; exact ⟨by rw [UE h3],rfl⟩
   | 1,_=>simp at hu; subst hu; rw [UJ (h0 (by omega))]; exact ⟨rfl,rfl⟩
  ·have h3:u = 0:=by simpa using h3
   subst h3
   refine ⟨⟨by omega,by omega⟩,⟨i + 1,rfl,h2,λ_=>?_,λ_=>?_,rfl⟩,bK h2⟩
   ·match i,h2 with
    | 0,_=>simpa using hu
    | 1,_=>exact h0 (by omega)
   ·match i,h2 with
    | 0,_=>omega
    | 1,_=>simpa using hu
 ·have h2:i = 2:=by have:=Uy h2; omega
  subst h2
  have e0:=h0 (by omega)
  have e1:=h1 (by omega)
  subst e0; subst e1
  exact ⟨by simp,rfl⟩
theorem RG (x y:ai) (w:Ws):ay Tryz.prog dA [.agg (cV x).toArray,.agg (cV y).toArray] w λv w'=>v = .int .i64 (HL x y)/\∃ q os',w' = grow (w.drewN q) os':=by
 refine yG ?_
 intro k1 w1 b1 e1
 have h1:St w1 (aS k1 (cV x) :: all w):=(af (St.all w) λb w' h=>h:new w (oC [iI x.prod,iI x.dot] bt) λb w'=>St w' (aS b (cV x) :: all w)) k1 w1 b1 e1
 intro k2 w2 b2 e2
 have h2:St w2 (aS k2 (cV y) :: aS k1 (cV x) :: all w):=(af h1 λb w' h=>h:new w1 (oC [iI y.prod,iI y.dot] bt) λb w'=>St w' (aS b (cV y) :: aS k1 (cV x) :: all w)) k2 w2 b2 e2
 intro w3 e3
 have h3:=h2.eq (gi e3)
 have r1:av (hp w3) (aM k1) (cV x):=ag 1 h3.l
 have r2:av (hp w3) (aM k2) (cV y):=ag 0 h3.l
 refine ⟨λu=>Gr w3 u,Gr.refl _,x.prod,λu s=>r1.cell0 s,y.prod,λu s=>r2.cell0 s,x.dot,λu s=>r1.cell s (j:=1) rfl,y.dot,λu s=>r2.cell s (j:=1) rfl,(MM _ _).mono ?_⟩
 rintro _ _ ⟨rfl,rfl⟩
 refine ⟨_,rfl,Gr.refl _,(MM _ _).mono ?_⟩
 rintro _ _ ⟨rfl,rfl⟩
 refine ⟨_,rfl,Gr.refl _,?_⟩
 intro k3 w10 b3 e10
 have h10:St w10 (aS k3 [iI (po x.prod y.prod),iI (po x.dot y.dot)] :: all _):=(af (St.all _) λb w' h=>h:new _ (oC [iI (po x.prod y.prod),iI (po x.dot y.dot)] cT) λb w'=>St w' (aS b [iI (po x.prod y.prod),iI (po x.dot y.dot)] :: all _)) k3 w10 b3 e10
 have g10:=h10.aR
 refine ⟨g10,(TO (x:=po x.prod y.prod) (y:=po x.dot y.dot) (dO rfl (.inr ⟨_,rfl,ag 0 h10.l⟩))).mono ?_⟩
 rintro _ _ ⟨rfl,rfl⟩
 refine ⟨_,rfl,g10,rfl,1,#[oC [iI x.prod,iI x.dot] bt,oC [iI y.prod,iI y.dot] bt,oC [iI (po x.prod y.prod),iI (po x.dot y.dot)] cT],?_⟩
 unfold drawn at e3
 rw [e10,e3,e2,e1]
 unfold grow World.drewN
 simp only [World.mk.injEq,and_true]
 apply VV
 simp
theorem Pz {blk off:Nat} {n:Nat}:CmpLays Tryz.prog dA #[] cV 2 HL blk off n w:=λm os dk hdk x y=>by
 refine Calls.mono (RG x y _) ?_
 rintro e w' ⟨v,rfl,_,rfl,q,os',rfl⟩
 exact ⟨rfl,q,os',rfl⟩
theorem Ev.SS (w:Ws) (blk off m:Nat) (dk:Array ai) (os:Array Obj):Ev w (sortWorldK cV 2 w blk off m dk os):=Ev.sort (enc:=id) (blk:=blk) w off m (flatK cV 2 dk) os
theorem PA {a:Wr} {l c:Nat} {xs:List ai} (h:St w (own 2 a l c (tv xs) :: L)) (hb:l < 4611686018427387904) :
  rE fy [.slice a l c,.func (.func dA) (Array.mk []) (Array.mk [])] w λv w'=>v = .tuple (Array.mk [])/\∃ ys:List ai,ys.Perm xs/\ys.Pairwise (λx y=>¬y.lt x)/\St w' (own 2 a l c (tv ys) :: L):=by
 have hln:=ir h
 rw [fP] at hln
 by_cases hl:0 < l
 ·obtain ⟨b,off,rfl,hsz,hH,hblk,hk⟩:=ML h hl
  subst hsz
  have eg:∀ args w,(callFunc dA args).run Tryz.prog w = .ok (.enter dA args) w:=enters_of yD (by kernel_rfl) rfl
  refine Calls.mono (AnyQ.slices_SortFunc QJ 2 DG DH cV (λ_=>rfl) (λx v hv=>by simp [cV] at hv; rcases hv with rfl | rfl <;> rfl) HL TN dA #[] b off c xs.toArray w eg Pz hH hblk (by simpa using hb)) ?_
  rintro e w' ⟨rfl,d',n,os,hP,hS,rfl⟩
  have hsz:d'.size = xs.length:=by simpa using hP.1
  refine ⟨_,rfl,Ev.SS w b off n _ os,rfl,d'.toList,?_,?_,hk n os d' hsz⟩
  ·have:=hP.2.2
   rw [Array.extract_size] at this
   have e2:d'.extract 0 xs.toArray.size = d':=by rw [<- hP.1,Array.extract_size]
   rw [e2] at this
   simpa using this
  ·rw [Wm]
   intro i j hi hj hij
   rw [Wq] at hi hj
   have:=hS i j (UM _) hij (by rw [<- hP.1]; exact hj)
   rw [mc,getElem!_pos d' j hj,getElem!_pos d' i hi] at this
   simpa using this
 ·have e:l = 0:=by omega
  subst e
  have ex:xs = []:=UL (by omega)
  subst ex
  refine Calls.mono (AnyF.slices_SortFunc_none QJ a c _ w) ?_
  rintro e w' ⟨rfl,rfl⟩
  exact ⟨_,rfl,Ev.refl _,rfl,[],.refl _,.nil,h⟩
theorem Jf {a:Wr} {l c:Nat} {zs:List Int} (h:St w (own 1 a l c (iv zs) :: L)) (hb:l < 4611686018427387904) :
  rE nq [.slice a l c] w λv w'=>v = .tuple (Array.mk [])/\St w' (own 1 a l c (iv (zs.mergeSort λx y=>decide (x<=y))) :: L):=by
 rcases Nat.eq_zero_or_pos l with rfl | hl
 ·have hz:zs = []:=UL (by have:=ir h; simpa [iv] using this)
  subst hz
  refine Calls.mono (Any.slices_Sort_int_none QK a c w) ?_
  rintro e w' ⟨rfl,rfl⟩
  exact ⟨_,rfl,Ev.refl _,rfl,by simpa using h⟩
 obtain ⟨b,off,rfl,hsz,hH,hblk,hk⟩:=Pv (d:=zs.toArray) (enc:=Value.int .i64) (by simpa [iv] using h) hl
 simp only [List.size_toArray] at hsz
 subst hsz
 refine Calls.mono (Any.slices_Sort_int QK b off c zs w hH hblk hb) ?_
 rintro e w' ⟨rfl,n,os,rfl⟩
 refine ⟨_,rfl,Ev.sort (enc:=Value.int .i64) w off n _ os,rfl,?_⟩
 have:=hk n os (zs.mergeSort λx y=>decide (x<=y)).toArray (by simp)
 have e:(zs.mergeSort λx y=>decide (x<=y)).toArray.toList.map (Value.int .i64) = iv (zs.mergeSort λx y=>decide (x<=y)):=by simp [iv]
 rw [e] at this
 exact this
end Go.Proofs.YtndaepmjkbmjmaaGreatDoor
namespace Go.V
section
variable {P:Program} {Ty:TypeId->Option cB} {w:Ws} {L:List au}
theorem Cr (hT:di P Ty) {t e ty:TypeId} {i:cB} {z:Value} (hk:ah Ty t = .slice e) (hi:Ty e = some i) (hz:i.zero = some z) (hzs:(cellsOf z).length = i.size) (h1:∀ v∈cellsOf z,aH v = true) (h0:0 < i.size)
  {a:Wr} {l c kk c2:Nat} {us:List Value} (h:St w (own i.size a l c us :: L)) (hkl:kk<=l) :
  aU P (Builtin.clear_ (Array.mk [t]) ty (Array.mk [.slice (eJ a kk c i.size) (l - kk) c2])) w λv w'=>∃ us' : List Value,us'.take (kk * i.size) = us.take (kk * i.size)/\St w' (own i.size a l c us' :: L):=by
 obtain ⟨d,hd,hd'⟩:=cD hT hk (by simp)
 rw [du hd'] at hd
 obtain ⟨info,d2,ha⟩:=mP hT hi
 have hzz:(zeroValue e).run P w = .ok z w:=ji ha.inf (by rw [<- ha.zero,hz])
 have hul:=ir h
 by_cases hk2:kk < l
 ·have hlt:0 < us.length:=by rw [hul]; exact Nat.mul_pos (by omega) h0
  obtain ⟨ad,rfl⟩:=e_ h hlt
  have hle:=dj h
  have esl:eJ (some ad) kk c i.size = some (ad.add (kk * i.size)):=by
   unfold eJ; rw [UE (by omega),aF]; rfl
  obtain ⟨m,hm⟩ : ∃ m,l - kk = m + 1:=⟨l - kk - 1,by omega⟩
  have hcz:z.cells = ⟨cellsOf z⟩:=by rw [cM]
  have hzc:(Builtin.zeroCells z.cells (m + 1)).toList = (List.replicate (m + 1) (cellsOf z)).flatten:=by
   unfold Builtin.zeroCells
   rw [hcz]
   have:=zC (cellsOf z) (m + 1)
   simp only [List.size_toArray] at this ⊢
   rw [this]
  have hfl:∀ n,(List.replicate n (cellsOf z)).flatten.length = n * i.size:=λn=>by
   induction n with
   | zero=>simp
   | succ n ih=>rw [V6,List.flatten_cons,UG,ih,hzs,V0,Nat.add_comm]
  have hbig:(m + 1) * i.size = l * i.size - kk * i.size:=by rw [<- hm,Nat.sub_mul]
  have hkl2:kk * i.size<=l * i.size:=VW _ hkl
  have hst:=vq (i:=kk * i.size) (vs:=(List.replicate (m + 1) (cellsOf z)).flatten) (k:=λw'=>St w' (own i.size (some ad) l c (us.take (kk * i.size) ++ (List.replicate (m + 1) (cellsOf z)).flatten ++ us.drop (kk * i.size + (List.replicate (m + 1) (cellsOf z)).flatten.length)) :: L)) h rfl
   (by rw [hfl,hul,hbig]; omega) (λv hv=>by
    obtain ⟨x,hx,hv⟩:=List.mem_flatten.1 hv
    rw [List.eq_of_mem_replicate hx] at hv; exact h1 v hv) (by rw [hfl]; exact Nat.mul_pos (by omega) h0) λw' h=>h
  refine ⟨.tuple #[],_,?_,Ev.bW w _ _ _ _ (Ev.refl _),_,?_,hst.2 _ rfl⟩
  ·unfold Builtin.clear_
   rw [esl,hm]
   simp only
   simp [Sem.run_bind,aK hd,hzz,hzc,iq _ _ _ _ hst.1]
  ·rw [UK,List.take_left' (by rw [U0]; omega)]
 ·have e:l - kk = 0:=by omega
  rw [e]
  refine ⟨.tuple #[],w,?_,Ev.refl _,us,rfl,h⟩
  unfold Builtin.clear_
  cases hs:eJ a kk c i.size <;> simp [aK hd]
end
section
variable {w:Ws} {L:List au} {xs:List ai} {a:Wr} {l c:Nat}
theorem MN {h:Hp} {ad:Addr} (r:av h ad (tv xs)) {i:Nat} {x:ai} (hx:xs[i]? = some x):av h (ad.add (cR i 2)) (cV x):=λj v hv=>by
 have hj:j < 2:=(UA.1 hv).1
 rw [aF,add_add]
 refine r (i * 2 + j) v ?_
 rw [MK,show (i * 2 + j) / 2 = i by omega,show (i * 2 + j) % 2 = j by omega,hx]
 exact hv
theorem DS {h:Hp} (hl:xs.length = l) (r:fp a (tv xs) h):aX h xs a l:=by
 refine ⟨hl,λi x hx=>?_⟩
 rcases r with e | ⟨ad,rfl,hc⟩
 ·have h1:=congrArg List.length e
  rw [fP,VB] at h1
  have:=(UA.1 hx).1
  omega
 ·exact ⟨ad,_,rfl,MN hc hx,rfl⟩
theorem vv (h:St w (own 2 a l c (tv xs) :: L)):aX (hp w) xs a l:=by
 have hl:=ir h
 rw [fP] at hl
 obtain ⟨h1,s,ha⟩:=h.first
 exact (DS (by omega) (cE ha)).mono s
theorem iB {h:Hp} (r:aX h xs a l) {i:Nat} (hi:i < l):∃ x ad,xs[i]? = some x/\a = some ad/\∀ u:Ws,sub h (hp u)->V.rowAt u (ad.add (cR i 2)) 0 2 = some [.int .i64 x.prod,.int .i64 x.dot]:=by
 obtain ⟨x,ad,vs,hx,ha,hr,rfl⟩:=r.get hi
 exact ⟨x,ad,hx,ha,λu s=>hr.at s rfl⟩
theorem RH {i:Nat} {x:ai} (hi:i < xs.length):(tv xs).take (i * 2) ++ [.int .i64 x.prod,.int .i64 x.dot] ++ (tv xs).drop (i * 2 + 2) = tv (xs.set i x):=by
 rw [List.set_eq_take_append_cons_drop,UJ hi]
 have e1:tv xs = tv (xs.take i) ++ tv (xs.drop i):=by rw [<- wT,UY]
 have e2:tv xs = tv (xs.take (i + 1)) ++ tv (xs.drop (i + 1)):=by rw [<- wT,UY]
 have l1:(tv (xs.take i)).length = i * 2:=by rw [fP,U0]; omega
 have l2:(tv (xs.take (i + 1))).length = i * 2 + 2:=by rw [fP,U0]; omega
 have t1:(tv xs).take (i * 2) = tv (xs.take i):=by rw [e1,List.take_left' l1]
 have t2:(tv xs).drop (i * 2 + 2) = tv (xs.drop (i + 1)):=by rw [e2,List.drop_left' l2]
 rw [t1,t2,wT,DQ]
 simp
theorem PB (xs:List ai) (k:Nat):(tv xs).take (k * 2) = tv (xs.take k):=by
 by_cases h:k<=xs.length
 ·have e1:tv xs = tv (xs.take k) ++ tv (xs.drop k):=by rw [<- wT,UY]
  rw [e1,List.take_left' (by rw [fP,U0]; omega)]
 ·rw [UX (by rw [fP]; omega),UX (by omega)]
theorem ff {sz:Nat} {vs:List Value} (h:St w (own sz a l c vs :: L)):St w (own sz (eJ a 0 l sz) l l vs :: L):=by
 rcases cq h with ⟨rfl,rfl,rfl,rfl⟩ | ⟨b,pre,cs,post,rfl,hc,h1,h2,h3⟩
 ·have:eJ none 0 0 sz = none:=by simp [eJ]
  rw [this]; exact h
 ·have e:eJ (some (⟨b,pre.length,none⟩ : Addr)) 0 l sz = some ⟨b,pre.length,none⟩:=by
   unfold eJ; split
   ·rfl
   ·simp [aF,add_lit]
  rw [e]
  exact dx (cs:=[]) (post:=cs ++ post) (by simpa using hc) h1 (by simpa using h1) (US _)
theorem fh {a:Wr} {l c sz:Nat} {k:Wr->Nat->Nat->Prop} (h1:l<=c) (hk:k (eJ a 0 l sz) l l):lV a l c none (some (l:Int)) (some (l:Int)) sz k :=
 ⟨.inr ⟨by simp,by show (0:Int)<=(l:Int); omega,by show (l:Int)<=(c:Int); omega⟩,.inr ⟨by show (0:Int)<=(l:Int); omega,by show (l:Int)<=(l:Int); omega⟩,⟨by decide,by show (0:Int)<=(l:Int); omega⟩,by simpa using hk⟩
end
abbrev SU (l:List ai):Prop:=l.Pairwise λx y=>¬y.lt x
theorem SU.at {xs:List ai} (h:SU xs) {i j:Nat} {x y:ai} (hij:i < j) (hi:xs[i]? = some x) (hj:xs[j]? = some y):¬y.lt x:=by
 obtain ⟨h1,rfl⟩:=UA.1 hi
 obtain ⟨h2,rfl⟩:=UA.1 hj
 exact Wm.1 h i j h1 h2 hij
theorem Jg {xs:List ai} {n:Nat} {x:ai} (h1:xs[n]? = some x) (h2:xs[n + 1]? = some x):lay (xs.take (n + 2)) = lay (xs.take (n + 1)) :=
 HE (j_ _) λy=>by
  rw [jf,UI (i:=n + 1),h2,VT,UF,U2]
  refine ⟨.inl,λh=>h.elim id ?_⟩
  rintro rfl
  exact UC (i:=n) (by rw [VK,UJ (by omega)]; exact h1)
theorem Jh {xs:List ai} (hs:SU xs) {n:Nat} {x z:ai} (h1:xs[n]? = some z) (h2:xs[n + 1]? = some x) (hne:x≠z):lay (xs.take (n + 2)) = lay (xs.take (n + 1)) ++ [x]:=by
 refine HE ?_ λy=>by rw [UF,jf,UI (i:=n + 1),h2,VT,UF]
 rw [j9,List.pairwise_append]
 refine ⟨j_ _,by simp,λy hy u hu=>?_⟩
 rw [U2] at hu
 subst hu
 rw [jf] at hy
 obtain ⟨i,hi⟩:=Vf hy
 have hin:i < n + 1:=by have:=(UA.1 hi).1; rw [U0] at this; omega
 rw [VK,UJ hin] at hi
 have hzu:z.lt u:=(ai.ME hne).resolve_left (hs.at (Nat.lt_succ_self n) h1 h2)
 by_cases e:i = n
 ·subst e; rw [h1] at hi; cases hi; exact hzu
 ·have hzy:=hs.at (show i < n by omega) hi h1
  by_cases e2:y = z
  ·rw [e2]; exact hzu
  ·exact ai.lt_trans ((ai.ME e2).resolve_right hzy) hzu
theorem MO {xs:List ai} (hs:SU xs) {n:Nat} {x z:ai} (h:j9 (xs.take (n + 1))) (h1:xs[n]? = some z) (h2:xs[n + 1]? = some x) (hne:x≠z):j9 (xs.take (n + 2)):=by
 have e:=Jh hs h1 h2 hne
 rw [qp h] at e
 have e2:xs.take (n + 2) = xs.take (n + 1) ++ [x]:=by rw [UI (i:=n + 1),h2]; rfl
 rw [e2,<- e]
 exact j_ _
end Go.V
namespace Go.Proofs.YtndaepmjkbmjmaaGreatDoor
variable {w:Ws} {L:List au}
theorem Ct (w:Ws) (x y:ai):(Op.equalIn (9998 + 1 + 1) bt (.agg ⟨cV x⟩) (.agg ⟨cV y⟩)).run Tryz.prog w = .ok (decide (x = y)) w:=by
 have ht:Tryz.prog.underlying bt = some (.struct (Tryz.prog.fieldsOf bt)):=by kernel_rfl
 have hi:Tryz.prog.underlying cT = some (.int .i64):=bp
 have hf : (Tryz.prog.fieldsOf bt).toList = [{ name := "Prod", type := cT, offset := 0, embedded := false, tag := "", pkgPath := "", byteOffset := 0 }, { name := "Dot", type := cT, offset := 1, embedded := false, tag := "", pkgPath := "", byteOffset := 8 }] := by kernel_rfl
 have p0:∀ (v u:Value) (w:Ws),(part cT #[v,u] 0).run Tryz.prog w = .ok v w:=λv u w=>by simp [part,dw hi,dQ,Kd.isAgg]
 have p1:∀ (v u:Value) (w:Ws),(part cT #[v,u] 1).run Tryz.prog w = .ok u w:=λv u w=>by simp [part,dw hi,dQ,Kd.isAgg]
 have eqI:∀ n m d w,(Op.equalIn (d + 1) cT (.int .i64 n) (.int .i64 m)).run Tryz.prog w = .ok (n == m) w:=λn m d w=>run_equalIn_int w d _ _ _ _ _ hi
 have e:decide (x = y) = (x.prod == y.prod && x.dot == y.dot):=by
  rw [Vn]; simp only [UO,UT,beq_iff_eq]
  exact ⟨λh=>by subst h; exact ⟨rfl,rfl⟩,λ⟨h1,h2⟩=>ai.ext' h1 h2⟩
 unfold cV
 rw [run_equalIn_agg w (9998 + 1) bt _ _ ht DF,hf,e]
 unfold Op.eqFields
 simp only [ne_eq,String.reduceEq,not_false_eq_true,if_true,Sem.run_bind,p0,Result.andThen_ok,eqI]
 cases hq:(x.prod == y.prod)
 ·simp
 ·unfold Op.eqFields
  simp only [ne_eq,String.reduceEq,not_false_eq_true,if_true,Sem.run_bind,p1,Result.andThen_ok,eqI,Bool.not_true,Wa,if_false]
  cases hn:(x.dot == y.dot)
  ·simp
  ·unfold Op.eqFields; simp
theorem HM (w:Ws) (xo yo:Operand) (x y:ai):Sem.run Tryz.prog (fu .eql bt xo yo (.agg ⟨cV x⟩) (.agg ⟨cV y⟩)) w = .ok (.bool (decide (x = y))) w:=by
 unfold fu
 rw [Sem.run_bind,run_eqGuard_agg w _ _ _ _ _ _ vf]
 simp only [Result.andThen_ok]
 rw [run_eql_struct]
 show ((Op.equalIn (9998 + 1 + 1) bt (.agg ⟨cV x⟩) (.agg ⟨cV y⟩)).run Tryz.prog w).andThen _ = _
 rw [Ct]
 rfl
theorem RI (w:Ws) (xo yo:Operand) (x y:ai):Sem.run Tryz.prog (fu .neq bt xo yo (.agg ⟨cV x⟩) (.agg ⟨cV y⟩)) w = .ok (.bool (!decide (x = y))) w:=by
 unfold fu
 rw [Sem.run_bind,run_eqGuard_agg w _ _ _ _ _ _ vf]
 simp only [Result.andThen_ok]
 rw [run_neq_struct]
 show ((Op.equalIn (9998 + 1 + 1) bt (.agg ⟨cV x⟩) (.agg ⟨cV y⟩)).run Tryz.prog w).andThen _ = _
 rw [Ct]
 rfl
end Go.Proofs.YtndaepmjkbmjmaaGreatDoor
namespace Go.V
theorem Ji {xs:List ai} {n:Nat} (h:n<=1):j9 (xs.take n):=by
 match n,h with
 | 0,_=>simp
 | 1,_=>cases xs <;> simp
theorem MP {xs ys:List ai} (h:ys.Perm xs):lay ys = lay xs:=HE (j_ _) λy=>by rw [jf,h.mem_iff]
end Go.V
namespace Go.Proofs.YtndaepmjkbmjmaaGreatDoor
variable {w:Ws} {L:List au} {a:Wr} {l c:Nat} {xs:List ai}
theorem KF (h:St w (own 2 a l c (tv xs) :: L)) (hs:SU xs) (hb:l < 4611686018427387904) :
  ay Tryz.prog gm [.slice a l c] w λv w'=>∃ a' c',v = .slice a' (lay xs).length c'/\St w' (own 2 a' (lay xs).length c' (tv (lay xs)) :: L):=by
 have hln:=ir h
 rw [fP] at hln
 have hlc:=dj h
 have hl:xs.length = l:=by omega
 refine fB (aa (λh1=>?_) λh1=>?_)
 ·have h1:l < 2:=by have:=Uz h1; omega
  have e:lay xs = xs:=qp (by have:=Ji (xs:=xs) (n:=l) (by omega); rwa [UX (by omega)] at this)
  rw [e,hl]; exact ⟨a,c,rfl,h⟩
 have h1:2<=l:=by have:=Uy h1; omega
 refine ⟨λz w'=>∃ n:Nat,z = ((n + 1:Nat):Int)/\n + 1<=l/\j9 (xs.take (n + 1))/\St w' (own 2 a l c (tv xs) :: L),λz _=>l - z.toNat,⟨0,rfl,by omega,Ji (US _),h⟩,?_⟩
 clear h
 rintro _ z w1 ⟨n,rfl,hn,hS,h⟩
 refine aa (λh2=>?_) λh2=>?_
 rotate_left
 ·have h2:l = n + 1:=by have:=Uy h2; omega
  have e:lay xs = xs:=qp (by rwa [UX (by omega)] at hS)
  rw [e,hl]; exact ⟨a,c,rfl,h⟩
 have h2:n + 1 < l:=by have:=Uz h2; omega
 intro w2 hd
 have h:=h.eq (aE hd)
 have hr:=vv h
 obtain ⟨x,ad,hx,rfl,cx⟩:=iB hr h2
 obtain ⟨z,ad2,hz,e2,cz⟩:=iB hr (by omega:n < l)
 cases e2
 have e1:((n + 1:Nat):Int) - 1 = (n:Int):=by omega
 rw [e1]
 refine ⟨λu=>Gr w2 u,Gr.refl _,ak rfl h2 ⟨_,_,cx,⟨by omega,by omega⟩,ak rfl (by omega) ⟨_,_,cz,_,λu _=>HM u _ _ x z,_,rfl,aa (λh3=>?_) λh3=>?_⟩⟩⟩
 rotate_left
 ·have h3:x≠z:=Uy h3
  exact ⟨⟨by omega,by omega⟩,⟨n + 1,by simp,h2,MO hs hS hz hx h3,h⟩,bK h2⟩
 have h3:x = z:=Uz h3
 subst h3
 refine cO (by omega) hlc ?_
 refine ⟨λz y w'=>∃ (k t:Nat) (us:List ai),z = (k:Int)/\y = ((t + 1:Nat):Int)/\n + 1<=k/\k<=n + 1 + t/\n + 1 + t + 1<=l/\us.length = l/\us.drop k = xs.drop k/\us.take k = lay (xs.take (n + 1 + t + 1))/\St w' (own 2 (some ad) l c (tv us) :: L),λ_ y _=>l - y.toNat,
  ⟨n + 1,0,xs,rfl,rfl,US _,US _,by omega,hl,rfl,?_,h⟩,?_⟩
 ·rw [show n + 1 + 0 + 1 = n + 2 by omega,Jg hz hx,qp hS]
 clear h hr cx cz
 rintro _ _ _ w3 ⟨k,t,us,rfl,rfl,hk1,hk2,ht,hul,hud,hut,h⟩
 have hul2:(tv us).length = l * 2:=by rw [fP,hul]
 refine aa (λh3=>?_) λh3=>?_
 rotate_left
 ·have h3:l = n + 1 + t + 1:=by have:=Uy h3; omega
  rw [<- h3,UX (show xs.length<=l by omega)] at hut
  have hkl:(lay xs).length = k:=by rw [<- hut,U0]; omega
  have hc:=Cr (ty:=0) (c2:=c - k) aL (rfl:ah Ty BB = .slice _) (rfl:Ty bt = some _) rfl rfl (λv hv=>by rcases UR.1 hv with rfl | hv; rfl; rw [U2] at hv; subst hv; rfl) (by show 0 < 2; decide) h (show k<=l by omega)
  refine cO (by omega) hlc (hc.mono ?_)
  rintro _ w4 ⟨vs,hv,h⟩
  refine l9 (by omega) ?_
  have h:=za h (k:=k) (by omega)
  have e:vs.take (k * 2) = tv (lay xs):=hv.trans (by rw [<- hut]; exact PB us k)
  rw [hkl]
  exact ⟨_,_,rfl,by rw [<- e]; exact h⟩
 have h3:t + 1 < l - (n + 1):=by have:=Uz h3; omega
 intro w4 hd
 have h:=h.eq (aE hd)
 have hr:=(vv h).drop (k:=n + 1) (m:=c) (by omega) hlc
 have same:∀ j,k<=j->us[j]? = xs[j]?:=λj hj=>by
  have:=congrArg (λl=>l[j - k]?) hud
  simp only [Vb] at this
  rwa [show k + (j - k) = j by omega] at this
 obtain ⟨x2,ad3,hx2,e3,cx⟩:=iB hr h3
 obtain ⟨z2,ad4,hz2,e4,cz⟩:=iB hr (by omega:t < l - (n + 1))
 rw [e3] at e4
 cases e4
 rw [Vb,same _ (by omega)] at hx2 hz2
 have e1:((t + 1:Nat):Int) - 1 = (t:Int):=by omega
 have hx3:xs[n + 1 + t + 1]? = some x2:=by rw [<- hx2]; congr 1
 have hz3:xs[n + 1 + t]? = some z2:=by rw [<- hz2]
 rw [e1]
 refine ⟨λu=>Gr w4 u,Gr.refl _,ak e3 h3 ⟨_,_,cx,⟨by omega,by omega⟩,ak e3 (by omega) ⟨_,_,cz,_,λu _=>RI u _ _ x2 z2,_,rfl,aa (λh4=>?_) λh4=>?_⟩⟩⟩
 rotate_left
 ·have h4:x2 = z2:=by simpa using h4
  subst h4
  refine ⟨⟨by omega,by omega⟩,⟨k,t + 1,us,rfl,by simp,hk1,by omega,by omega,hul,hud,?_,h⟩,bK (by omega)⟩
  rw [hut,show n + 1 + (t + 1) + 1 = n + 1 + t + 2 by omega,Jg hz3 hx3]
 have h4:x2≠z2:=by simpa using h4
 refine ak e3 h3 ⟨_,_,cx _ (Gr.refl _),ak rfl (by omega) ?_⟩
 rw [aF]
 refine vq (i:=k * 2) h rfl (by rw [hul2]; simp; omega) (by simp [aH]) (by simp) λw5 h=>?_
 rw [show (k * 2 + [Value.int .i64 x2.prod,Value.int .i64 x2.dot].length) = k * 2 + 2 from rfl,RH (by omega)] at h
 refine ⟨⟨by omega,by omega⟩,⟨by omega,by omega⟩,⟨k + 1,t + 1,us.set k x2,by simp,by simp,by omega,by omega,by omega,by rw [Vj,hul],?_,?_,h⟩,bK (by omega)⟩
 ·rw [List.drop_set_of_lt (by omega),<- List.drop_drop (i:=1),hud,List.drop_drop]
 ·have hku:k < us.length:=by omega
  rw [show n + 1 + (t + 1) + 1 = n + 1 + t + 2 by omega,Jh hs hz3 hx3 h4,<- hut,UI,List.getElem?_set_self hku,List.take_set_of_le (US _)]
  rfl
theorem MQ (h:St w (own 2 a l c (tv xs) :: L)) (hb:l < 4611686018427387904) :
  ay Tryz.prog HK [.slice a l c] w λv w'=>∃ a',v = .slice a' (lay xs).length (lay xs).length/\St w' (own 2 a' (lay xs).length (lay xs).length (tv (lay xs)) :: L):=by
 refine DP ((PA h hb).mono ?_)
 rintro _ w1 ⟨rfl,ys,hp,hn,h⟩
 refine ⟨rfl,(KF h hn hb).mono ?_⟩
 rintro _ w2 ⟨a2,c2,rfl,h⟩
 have hlc:=dj h
 refine ⟨_,_,_,rfl,gO (fh hlc ?_)⟩
 have h:=ff h
 rw [MP hp] at h ⊢
 exact ⟨_,_,_,rfl,_,rfl,h⟩
end Go.Proofs.YtndaepmjkbmjmaaGreatDoor
namespace Go.V
open MapKept
section
variable {κ : Type} [DecidableEq κ] [MVal κ] {P:Program} {Ty:TypeId->Option cB} {w:Ws} {L:List au} {b r:Nat} {m:List (κ × Value)} {ks:List κ}
structure PC (es:Array MapEntry) (seen:Array Nat) (m:List (κ × Value)) (ks:List κ):Prop where
 perm:(ks.map MVal.val ++ (leftOf es seen).toList.map (·.key)).Perm (m.map λx=>MVal.val x.1)
def Cu (b r:Nat) (m:List (κ × Value)) (ks:List κ):au:=ex λ(x:Array MapEntry × Nat × Array Nat)=>aT [pu (tp x.1 x.2.1 m/\PC x.1 x.2.2 m ks),blk b (.map x.1 x.2.1),blk r (.mapIter (some b) x.2.1 x.2.2 x.2.1)]
def DT (b r:Nat) (m:List (κ × Value)) (ks:List κ) (k:κ) (u:Value):au:=ex λ(x:Array MapEntry × Nat × Array Nat × MapEntry) =>
 aT [pu (tp x.1 x.2.1 m/\PC x.1 (x.2.2.1.push x.2.2.2.born) m ks/\x.2.2.2∈x.1.toList/\x.2.2.2.key = MVal.val k/\x.2.2.2.val = u),blk b (.map x.1 x.2.1),blk r (.mapIter (some b) x.2.1 (x.2.2.1.push x.2.2.2.born) x.2.1)]
theorem rG:St w (Cu b r m ks :: L)↔∃ es cl seen,tp es cl m/\PC es seen m ks/\St w (blk b (.map es cl) :: blk r (.mapIter (some b) cl seen cl) :: L):=by
 constructor
 ·intro h
  obtain ⟨⟨es,cl,seen⟩,h⟩:=St.ex.1 h
  obtain ⟨⟨h1,h2⟩,h3⟩:=St.pu.1 (St.flat.1 h)
  exact ⟨es,cl,seen,h1,h2,h3⟩
 ·rintro ⟨es,cl,seen,h1,h2,h3⟩
  exact St.ex.2 ⟨⟨es,cl,seen⟩,St.flat.2 (St.pu.2 ⟨⟨h1,h2⟩,h3⟩)⟩
theorem tW {k:κ} {u:Value}:St w (DT b r m ks k u :: L)↔∃ es cl,∃ (seen:Array Nat) (e:MapEntry),tp es cl m/\PC es (seen.push e.born) m ks/\e∈es.toList/\e.key = MVal.val k/\e.val = u/\St w (blk b (.map es cl) :: blk r (.mapIter (some b) cl (seen.push e.born) cl) :: L):=by
 constructor
 ·intro h
  obtain ⟨⟨es,cl,seen,e⟩,h⟩:=St.ex.1 h
  obtain ⟨⟨h1,h2,h3,h4,h5⟩,h6⟩:=St.pu.1 (St.flat.1 h)
  exact ⟨es,cl,seen,e,h1,h2,h3,h4,h5,h6⟩
 ·rintro ⟨es,cl,seen,e,h1,h2,h3,h4,h5,h6⟩
  exact St.ex.2 ⟨⟨es,cl,seen,e⟩,St.flat.2 (St.pu.2 ⟨⟨h1,h2,h3,h4,h5⟩,h6⟩)⟩
theorem KG {k:κ} {u:Value} (h:St w (DT b r m ks k u :: L)):St w (Cu b r m ks :: L):=by
 obtain ⟨es,cl,seen,e,h1,h2,_,_,_,h6⟩:=tW.1 h
 exact rG.2 ⟨es,cl,_,h1,h2,h6⟩
theorem KH (h:St w (Cu b r m ks :: L)):St w (mapA b m :: L):=by
 obtain ⟨es,cl,seen,h1,h2,h3⟩:=rG.1 h
 exact je.2 ⟨es,cl,h1,h3.swap.tail⟩
theorem KI (hT:di P Ty) {t kt et:TypeId} (hk:ah Ty t = .map kt et) (h:St w (mapA b m :: L)) :
  aU P (Instr.range t (.map (some b))) w λv w'=>∃ r,v = .pointer (some ⟨r,0,none⟩)/\St w' (Cu b r m ([] : List κ) :: L):=by
 obtain ⟨d,hd,hd'⟩:=cD hT hk (by simp)
 rw [vd hd'] at hd
 obtain ⟨es,cl,he,h⟩:=je.1 h
 refine ⟨_,_,run_range_map w t kt et b es cl hd h.get,Ev.push w _,_,rfl,rG.2 ⟨es,cl,#[],he,⟨?_⟩,?_⟩⟩
 ·have e1:leftOf es #[] = es:=by unfold leftOf; simp
  rw [e1]
  have:=congrArg (List.map Prod.fst) he.eq
  simp only [V_] at this
  have e2:es.toList.map (·.key) = m.map λx=>MVal.val x.1:=this
  rw [e2]; exact .refl _
 ·exact (h.push (.mapIter (some b) cl #[] cl)).swap
theorem FF (e:MapEntry):∀ (l:List MapEntry),(l.map (·.born)).Nodup->e∈l->l.Perm (e :: l.filter λx=>decide (x.born≠e.born))
 | x :: l,hn,he=>by
  have hn' : x.born∉l.map (·.born)/\(l.map (·.born)).Nodup:=Vy.1 hn
  rcases UR.1 he with rfl | h
  ·have:l.filter (λx=>decide (x.born≠e.born)) = l:=List.filter_eq_self.2 λx hx=>by
    rw [UO]
    intro e'; exact hn'.1 (UU.2 ⟨x,hx,e'⟩)
   rw [List.filter_cons,UE (by simp),this]
  ·have hx:x.born≠e.born:=λe'=>hn'.1 (by rw [e']; exact UU.2 ⟨e,h,rfl⟩)
   rw [List.filter_cons,UJ (by simpa using hx)]
   exact (List.Perm.cons x (FF e l hn'.2 h)).trans (.swap _ _ _)
theorem St.setIter {b' : Option Nat} {s c:Nat} {seen:Array Nat} (h:St w (blk r (.mapIter b' s seen c) :: L)) {w1:Ws} (hw:w1 = w\/w1 = w.drew) (o:Obj) (ho:ED o = true:=by rfl):Ev w (ChangeMaps.setBlock w1 r o)/\St (ChangeMaps.setBlock w1 r o) (blk r o :: L):=by
 have h1:St w1 (blk r (.mapIter b' s seen c) :: L):=by
  rcases hw with rfl | rfl
  ·exact h
  ·exact h.same rfl
 have e1:Ev w w1:=by
  rcases hw with rfl | rfl
  ·exact Ev.refl _
  ·exact Ev.drew _ _
 refine ⟨e1.trans ⟨rfl,rfl,rfl,by simp [ChangeMaps.setBlock],?_,?_⟩,h1.setObj o ho⟩ <;>
 ·intro x d hx
  unfold ChangeMaps.setBlock
  rw [VJ]; exact hx
  intro e; subst e; rw [h1.get] at hx; cases hx
theorem RJ {es:Array MapEntry} {cl:Nat} {e:MapEntry} (h:tp es cl m) (he:e∈es.toList):∃ k,(k,e.val)∈m/\e.key = MVal.val k:=by
 have:(e.key,e.val)∈es.toList.map λe=>(e.key,e.val):=UU.2 ⟨e,he,rfl⟩
 rw [h.eq] at this
 obtain ⟨x,hx,e2⟩:=UU.1 this
 injection e2 with e3 e4
 refine ⟨x.1,?_,e3.symm⟩
 rw [<- e4]; exact hx
theorem val_inj {a c:κ} (h:MVal.val a = MVal.val c):a = c:=MVal.inj a c h
theorem FG {α β : Type} {f:α->β} (hf:∀ a c,f a = f c->a = c):∀ {l l' : List α},(l.map f).Perm (l'.map f)->l.Perm l'
 | [],[],_=>.refl _
 | [],_ :: _,h=>by have:=h.length_eq; simp at this
 | a :: l,l',h=>by
  have hm:f a∈l'.map f:=h.subset (by simp)
  obtain ⟨x,hx,e⟩:=UU.1 hm
  have:=hf _ _ e
  subst this
  obtain ⟨s,t,rfl⟩:=Wk hx
  have h2:(f x :: l.map f).Perm (f x :: (s ++ t).map f):=h.trans (by
   rw [U1,Vh,U1]; exact Vt)
  exact (List.Perm.cons x (FG hf ((List.perm_cons _).1 h2))).trans Vt.symm
theorem MR {ty:TypeId} (h:St w (Cu b r m ks :: L)):aU P (Instr.next (.pointer (some ⟨r,0,none⟩)) false ty) w λv w' =>
  (v = .tuple #[.bool false]/\ks.Perm (m.map Prod.fst)/\St w' (mapA b m :: L)) \/
  ∃ (k:κ) (u:Value),(k,u)∈m/\v = .tuple #[.bool true,MVal.val k,u]/\ks.length < m.length/\St w' (DT b r m (ks ++ [k]) k u :: L):=by
 have hmap:=KH h
 obtain ⟨es,cl,seen,h1,h2,h3⟩:=rG.1 h
 rcases run_next_at (P:=P) w ty r b cl cl seen es cl h3.swap.get h3.get h1.lt (US _) with ⟨h4,h5⟩ | ⟨e,he,w1,hw,h5⟩
 ·refine ⟨_,_,h5,Ev.refl _,.inl ⟨rfl,?_,hmap⟩⟩
  have h6:=h2.perm
  have e1:(leftOf es seen).toList = []:=UL (by simpa using h4)
  rw [e1,List.map_nil,U3] at h6
  have e2:(m.map λx=>MVal.val (κ:=κ) x.1) = (m.map Prod.fst).map MVal.val:=by rw [V_]; rfl
  rw [e2] at h6
  exact FG (λa c=>val_inj) h6
 ·have hes:e∈es.toList:=by unfold leftOf at he; simp at he ⊢; exact he.1
  obtain ⟨k,hkm,hk⟩:=RJ h1 hes
  obtain ⟨hev,hst⟩:=St.setIter (h3.swap) hw (.mapIter (some b) cl (seen.push e.born) cl)
  have hnd:((leftOf es seen).toList.map (·.born)).Nodup:=by
   refine h1.nd.sublist ?_
   unfold leftOf
   rw [Array.toList_filter]
   exact List.Sublist.map _ List.filter_sublist
  have hout:=FF e _ hnd he
  have e3:(leftOf es seen).toList.filter (λx=>decide (x.born≠e.born)) = (leftOf es (seen.push e.born)).toList:=by
   unfold leftOf
   rw [Array.toList_filter,Array.toList_filter,List.filter_filter]
   congr 1
   funext x
   simp only [Array.contains_push,ne_eq]
   rw [Vn]
   simp only [UT,UO,VQ,Bool.or_eq_false_iff,Wi,ne_eq]
   constructor
   ·rintro ⟨a,c⟩; exact ⟨c,λe'=>a e'⟩
   ·rintro ⟨a,c⟩; exact ⟨λe'=>c e',a⟩
  rw [e3] at hout
  have hp:=h2.perm
  have hp2:(MVal.val k :: (leftOf es (seen.push e.born)).toList.map (·.key)).Perm ((leftOf es seen).toList.map (·.key)):=by
   have:=(hout.map (·.key)).symm
   rw [Vh,hk] at this
   exact this
  refine ⟨_,_,h5,hev,.inr ⟨k,e.val,hkm,by rw [hk],?_,tW.2 ⟨es,cl,seen,e,h1,⟨?_⟩,hes,hk,rfl,hst.swap⟩⟩⟩
  ·have:=hp.length_eq
   have l2:=hp2.length_eq
   simp at this l2; omega
  ·refine List.Perm.trans ?_ hp
   rw [U1,Vh,List.map_nil,UK]
   exact V9 _ hp2
theorem KJ {k:κ} {u:Value} (h:St w (DT b r m ks k u :: L)):aU P (Instr.entry (.pointer (some ⟨r,0,none⟩))) w λv w'=>v = .tuple #[MVal.val k,u]/\w' = w:=by
 obtain ⟨es,cl,seen,e,h1,h2,hes,hk,hu,h3⟩:=tW.1 h
 have:=run_entry_at (P:=P) w r b cl seen es cl e h3.swap.get h3.get hes h1.nd
 rw [hk,hu] at this
 exact ⟨_,_,this,Ev.refl _,rfl,rfl⟩
end
section
variable {κ α : Type} [DecidableEq κ] {w:Ws} {L:List au} {b sz:Nat} {f:List α->List Value} {s t:κ}
abbrev Lq (α : Type):=(Wr × Nat) × List α
def cF (q:Lq α):Value:=.slice q.1.1 q.2.length q.1.2
def b_ (sz:Nat) (f:List α->List Value) (q:Lq α):au:=own sz q.1.1 q.2.length q.1.2 (f q.2)
def mV (ps:List (κ × Lq α)):List (κ × Value):=ps.map λq=>(q.1,cF q.2)
def mO (sz:Nat) (f:List α->List Value) (ps:List (κ × Lq α)):List au:=ps.map λq=>b_ sz f q.2
def cW (s:κ):List (κ × Lq α)->Option (Lq α)
 | []=>none
 | (a,q) :: m=>if s = a then some q else cW s m
def gq (s:κ) (ps:List (κ × Lq α)):List α:=match cW s ps with | some q=>q.2 | none=>[]
def jN (s:κ) (q:Lq α):List (κ × Lq α)->List (κ × Lq α)
 | []=>[(s,q)]
 | (a,u) :: m=>if s = a then (s,q) :: m else (a,u) :: jN s q m
theorem gA:∀ ps:List (κ × Lq α),assoc s (mV ps) = (cW s ps).map cF
 | []=>rfl
 | (a,q) :: m=>by
  show (if s = a then some (cF q) else assoc s (mV m)) = _
  unfold cW
  split
  ·rfl
  ·exact gA m
theorem MS (q:Lq α):∀ ps:List (κ × Lq α),mV (jN s q ps) = bA s (cF q) (mV ps)
 | []=>rfl
 | (a,u) :: m=>by
  unfold jN
  show _ = (if s = a then (s,cF q) :: mV m else (a,cF u) :: bA s (cF q) (mV m))
  split
  ·rfl
  ·rw [<- MS q m]; rfl
theorem FH (q:Lq α):∀ ps:List (κ × Lq α),cW t (jN s q ps) = if t = s then some q else cW t ps
 | []=>by simp [jN,cW]
 | (a,u) :: m=>by
  unfold jN
  by_cases h:s = a
  ·subst h
   by_cases ht:t = s <;> simp [cW,ht]
  ·rw [UE h]
   unfold cW
   rw [FH q m]
   by_cases ht:t = a
   ·subst ht; simp [Ne.symm h]
   ·simp [ht]
theorem js (q:Lq α) (ps:List (κ × Lq α)):gq t (jN s q ps) = if t = s then q.2 else gq t ps:=by
 unfold gq; rw [FH]; by_cases h:t = s <;> simp [h]
theorem wU (q:Lq α):∀ ps:List (κ × Lq α),(jN s q ps).map Prod.fst = if s∈ps.map Prod.fst then ps.map Prod.fst else ps.map Prod.fst ++ [s]
 | []=>by simp [jN]
 | (a,u) :: m=>by
  unfold jN
  by_cases h:s = a
  ·subst h; simp
  ·rw [UE h,Vh,wU q m]
   by_cases h2:s∈m.map Prod.fst
   ·simp [h,h2]
   ·simp [h,h2]
theorem DU (q:Lq α) {ps:List (κ × Lq α)} (h:(ps.map Prod.fst).Nodup):((jN s q ps).map Prod.fst).Nodup:=by
 rw [wU]
 split
 ·exact h
 ·rename_i hn
  rw [Vg]
  exact ⟨h,by simp,λa ha c hc e=>by simp at hc; subst hc; subst e; exact hn ha⟩
theorem Ag {q:Lq α}:∀ {ps:List (κ × Lq α)},cW s ps = some q->(s,q)∈ps
 | [],h=>by cases h
 | (a,u) :: m,h=>by
  unfold cW at h
  split at h
  ·rename_i e; subst e; cases h; simp
  ·exact Wd _ (Ag h)
theorem MT {ps:List (κ × Lq α)}:(cW s ps).isSome = true↔s∈ps.map Prod.fst:=by
 induction ps with
 | nil=>simp [cW]
 | cons x m ih =>
  obtain ⟨a,u⟩:=x
  unfold cW
  by_cases h:s = a
  ·simp [h]
  ·rw [UE h,ih]; simp [h]
theorem FI (sz:Nat) (f:List α->List Value) (s:κ):∀ ps:List (κ × Lq α),
  (∃ q M,cW s ps = some q/\(mO sz f ps).Perm (b_ sz f q :: M)/\∀ q',(mO sz f (jN s q' ps)).Perm (b_ sz f q' :: M))\/(cW s ps = none/\∀ q',(mO sz f (jN s q' ps)).Perm (b_ sz f q' :: mO sz f ps))
 | []=>.inr ⟨rfl,λq'=>.refl _⟩
 | (a,u) :: m=>by
  by_cases h:s = a
  ·refine .inl ⟨u,mO sz f m,by simp [cW,h],.refl _,λq'=>?_⟩
   simp only [jN,h,if_true]; exact .refl _
  ·rcases FI sz f s m with ⟨q,M,h1,h2,h3⟩ | ⟨h1,h2⟩
   ·refine .inl ⟨q,b_ sz f u :: M,by simp [cW,h,h1],(List.Perm.cons _ h2).trans (.swap _ _ _),λq'=>?_⟩
    simp only [jN,h,if_false]
    exact (List.Perm.cons _ (h3 q')).trans (.swap _ _ _)
   ·refine .inr ⟨by simp [cW,h,h1],λq'=>?_⟩
    simp only [jN,h,if_false]
    exact (List.Perm.cons _ (h2 q')).trans (.swap _ _ _)
theorem ob (hf:f [] = []) {ps:List (κ × Lq α)} (h:St w (aT (mO sz f ps) :: L)) (s:κ):∃ (q:Lq α) (M:List au),(assoc s (mV ps)).getD (.slice none 0 0) = cF q/\q.2 = gq s ps/\St w (b_ sz f q :: aT M :: L) /\
  ∀ (w' : Ws) (L' : List au) (q' : Lq α),St w' (b_ sz f q' :: aT M :: L')->St w' (aT (mO sz f (jN s q' ps)) :: L'):=by
 have back:∀ (M:List au) (q' : Lq α),(mO sz f (jN s q' ps)).Perm (b_ sz f q' :: M)->∀ (w' : Ws) (L' : List au),St w' (b_ sz f q' :: aT M :: L')->St w' (aT (mO sz f (jN s q' ps)) :: L'):=λM q' hp w' L' h=>by
  have h1:=St.flat.1 h.swap
  have h2:St w' ((b_ sz f q' :: M) ++ L'):=h1.perm Vt
  exact St.flat.2 (h2.perm (hp.symm.append_right _))
 rcases FI sz f s ps with ⟨q,M,h1,h2,h3⟩ | ⟨h1,h2⟩
 ·refine ⟨q,M,by rw [gA,h1]; rfl,by unfold gq; rw [h1],?_,λw' L' q'=>back M q' (h3 q') w' L'⟩
  have h4:=(St.flat.1 h).perm (h2.append_right _)
  have h5:St w (M ++ (b_ sz f q :: L)):=h4.perm Vt.symm
  exact (St.flat.2 h5).swap
 ·refine ⟨((none,0),[]),mO sz f ps,by rw [gA,h1]; rfl,by unfold gq; rw [h1],?_,λw' L' q'=>back _ q' (h2 q') w' L'⟩
  unfold b_; rw [hf]; exact az sz h
theorem Ah:∀ {L:List au} {i:Nat} (h:i < L.length),sc L i = L[i]
 | [],i,h=>by simp at h
 | A :: L,0,_=>rfl
 | A :: L,i + 1,h=>by
  show sc L i = _
  rw [Ah (L:=L) (by simpa using h)]; rfl
theorem Jj {ps:List (κ × Lq α)} {h:Hp} (hs:aG (aT (mO sz f ps) :: L) h) {q:Lq α} (hq:cW s ps = some q):∃ h1,sub h1 h/\b_ sz f q h1:=by
 have h2:=kG.1 hs
 have hm:b_ sz f q∈mO sz f ps:=UU.2 ⟨(s,q),Ag hq,rfl⟩
 obtain ⟨i,hi⟩:=Vf hm
 have hlt:=(UA.1 hi).1
 obtain ⟨h1,s1,ha⟩:=dV i (by rw [UG]; omega) h2
 have e:sc (mO sz f ps ++ L) i = b_ sz f q:=by
  rw [Ah (by rw [UG]; omega),List.getElem_append_left hlt]
  exact (UA.1 hi).2
 rw [e] at ha
 exact ⟨h1,s1,ha⟩
end
section
variable {κ : Type} [DecidableEq κ] [MVal κ] {P:Program} {Ty:TypeId->Option cB} {w:Ws} {b:Nat} {m:List (κ × Value)} {h:Hp}
theorem tX {α : Type} {sz:Nat} {f:List α->List Value} {L:List au} {s:κ} {ps:List (κ × Lq α)} {M:List au} (back:∀ (w' : Ws) (L' : List au) (q' : Lq α),St w' (b_ sz f q' :: aT M :: L')->St w' (aT (mO sz f (jN s q' ps)) :: L'))
  {o:Wr} {n c:Nat} (us:List α) {vs:List Value} (hn:n = us.length) (hv:vs = f us) (h:St w (mapA b (bA s (.slice o n c) (mV ps)) :: own sz o n c vs :: aT M :: L)) :
  St w (mapA b (mV (jN s ((o,c),us) ps)) :: aT (mO sz f (jN s ((o,c),us) ps)) :: L):=by
 subst hn; subst hv
 have e:mV (jN s ((o,c),us) ps) = bA s (.slice o us.length c) (mV ps):=MS _ _
 rw [e]
 exact (back w _ ((o,c),us) (h.pick 3 [1,2,0])).swap
theorem rH {A:au} (hA:A h):aG [A] h:=⟨h,λ_=>none,λ_=>.inr rfl,sub.refl _,λ_ _ h=>(nomatch h),hA,trivial⟩
theorem dB {h' : Hp} (s:sub h h') (hm:mapA b m h):mapA b m h':=by
 obtain ⟨es,cl,h1,h2⟩:=hm
 exact ⟨es,cl,s _ _ h1,h2⟩
theorem df (hm:mapA b m h) (s:sub h (hp w)) (hT:di P Ty) {t kt et:TypeId} {i:cB} {z:Value} (hk:ah Ty t = .map kt et) (hkt:qi P kt κ) (hi:Ty et = some i) (hz:i.zero = some z) (k:κ) :
  aU P (Instr.lookup t (.map (some b)) (MVal.val k) false) w λv w'=>v = (assoc k m).getD z/\w' = w :=
 l5 (L:=[]) hT hk hkt hi hz (rH (dB s hm)) k
end
section
variable {κ : Type} [DecidableEq κ] [vc κ] {P:Program} {Ty:TypeId->Option cB} {w:Ws} {b:Nat} {m:List (κ × Value)} {h:Hp}
theorem FJ (hm:mapA b m h) (s:sub h (hp w)) (hT:di P Ty) {t kt et:TypeId} {i:cB} {z:Value} (hk:ah Ty t = .map kt et) (hkt:P.underlying kt = some (vc.kd κ)) (hi:Ty et = some i) (hz:i.zero = some z) (k:κ) :
  aU P (Instr.lookup t (.map (some b)) (MVal.val k) false) w λv w'=>v = (assoc k m).getD z/\w' = w:=df hm s hT hk (qi.zY hkt) hi hz k
end
def ON (g:ae) (j:Nat) (s:Int):List Nat:=(List.range j).filter λi=>decide ((g.prods[i]?.map aO.left) = some s)
abbrev Bi (g:ae) (s:Int):List Nat:=ON g g.prods.length s
theorem Ai {g:ae} {j:Nat} {p:aO} (h:g.prods[j]? = some p) (s:Int):ON g (j + 1) s = ON g j s ++ if s = p.left then [j] else []:=by
 unfold ON
 rw [VX,Vi]
 congr 1
 by_cases e:s = p.left
 ·subst e; simp [h]
 ·simp [h,e,Ne.symm e]
theorem DV (g:ae) (j:Nat) (s:Int):(ON g j s).length<=j:=by
 have:=Vm (λi=>decide ((g.prods[i]?.map aO.left) = some s)) (List.range j)
 rwa [Vw] at this
theorem rJ {g:ae} {s:Int} {i:Nat}:i∈Bi g s↔∃ p,g.prods[i]? = some p/\p.left = s:=by
 unfold Bi ON
 rw [Vo,U8,UO]
 constructor
 ·rintro ⟨h1,h2⟩
  refine ⟨g.prods[i],UB h1,?_⟩
  rw [UB h1] at h2
  exact Option.some.inj h2
 ·rintro ⟨p,h1,rfl⟩
  exact ⟨(UA.1 h1).1,by rw [h1]; rfl⟩
structure QL (h:Hp) (g:ae) (k:Nat):Prop where
 ex:∃ (x:GA) (kb:Nat) (m:List (Int × Value)),av h (aM k) (x.cells ++ [.map (some kb)])/\gR h g x/\mapA kb m h /\
  ∀ s:Int,∃ (a:Wr) (c:Nat),(assoc s m).getD (.slice none 0 0) = .slice a (Bi g s).length c/\aX h ((Bi g s).map Int.ofNat) a (Bi g s).length
theorem QL.mono {h h' : Hp} {g:ae} {k:Nat} (s:sub h h') (r:QL h g k):QL h' g k:=by
 obtain ⟨x,kb,m,h1,h2,h3,h4⟩:=r.ex
 exact ⟨x,kb,m,h1.mono s,h2.mono s,dB s h3,λz=>by obtain ⟨a,c,e,r⟩:=h4 z; exact ⟨a,c,e,r.mono s⟩⟩
end Go.V
namespace Go.Proofs.YtndaepmjkbmjmaaGreatDoor
variable {w:Ws} {L:List au} {a:Wr} {l c:Nat} {xs:List ai} {g:ae} {x:GA}
theorem SV (hg:gR (hp w) g x) (hb:iK g):ay Tryz.prog MJ [.agg ⟨x.cells⟩] w λv w'=>∃ (k kb:Nat) (ps:List (Int × Lq Int)),v = .pointer (some (aM k))/\(∀ s,gq s ps = (Bi g s).map Int.ofNat)/\St w' (aS k (x.cells ++ [.map (some kb)]) :: mapA kb (mV ps) :: aT (mO 1 iv ps) :: all w):=by
 refine HJ ?_
 refine cQ hg λk1 w1 gw hg B=>?_
 have pl:=hg.p.1
 obtain ⟨_,_,_,b4,_,_,_⟩:=hb
 refine ⟨_,_,_,_,_,_,_,_,_,_,_,_,_,B.row (sub.refl _),?_⟩
 refine lY (St.all w1) λkb w2 h=>?_
 have h:=dz (κ:=Int) h
 refine af (vs:=x.cells ++ [.map (some kb)]) h λkm w3 h=>?_
 refine ⟨_,_,_,B.c4 (bj 2 h.l),λz w'=>∃ (j:Nat) (ps:List (Int × Lq Int)),z = j/\j<=x.pl/\(∀ s,gq s ps = (ON g j s).map Int.ofNat)/\St w' (aS km (x.cells ++ [.map (some kb)]) :: mapA kb (mV ps) :: aT (mO 1 iv ps) :: all w1),λz _=>x.pl - z.toNat,
  ⟨0,[],rfl,UM _,λs=>rfl,(show St w3 (aS km (x.cells ++ [.map (some kb)]) :: mapA kb ([] : List (Int × Value)) :: aT [] :: all w1) from by
   have h:=h.pick 2 [1,0]
   exact ((St.flat (M:=[])).2 h).pick 3 [2,1,0])⟩,?_⟩
 clear h
 rintro _ _ w4 ⟨j,ps,rfl,hj,hps,h⟩
 have s4:sub (hp w1) (hp w4):=bj 3 h.l
 refine aa (λh1=>?_) λh1=>?_
 rotate_left
 ·have h1:j = x.pl:=by have:=Uy h1; omega
  subst h1
  rw [<- pl] at hps
  exact ⟨km,kb,ps,rfl,hps,St.on (N:=[_,_,_]) h (bY gw)⟩
 have h1:j < x.pl:=by have:=Uz h1; omega
 obtain ⟨p,ad,vs,hp1,hpa,hp2,ra,rl,rc,rfl,hrc,hp3⟩:=hg.p.get h1
 refine ak hpa h1 ⟨_,_,_,_,_,hp2.at s4 rfl,af h λk16 w5 h=>aI h rfl (by simp [aH]) λw6 h=>?_⟩
 intro w7 hd
 have h:=h.eq (aE hd)
 have cm:∀ {u:Ws} {L' : List au},St u (aS km (x.cells ++ [.map (some kb)]) :: L')->u.cell? ((aM km).add 5) = some (.map (some kb)):=λh=>(ag 0 h.l).cell (sub.refl _) (j:=5) rfl
 have cp:∀ {u:Ws} {L' : List au},St u (aS k16 [.int .i64 p.left,.slice ra rl rc,.int .i64 p.level] :: L')->u.cell? (aM k16) = some (.int .i64 p.left):=λh=>(ag 0 h.l).cell0 (sub.refl _)
 refine ⟨λu=>u.cell? ((aM km).add 5) = some (.map (some kb))/\u.cell? (aM k16) = some (.int .i64 p.left),⟨cm (h.pick 2 [1]),cp h⟩,_,λu hu=>hu.1,_,λu hu=>hu.2,_,λu hu=>hu.1,_,λu hu=>hu.2,?_,?_⟩
 ·refine (bU (κ:=Int) aL (rfl:ah Ty _ = .map _ _) bp rfl rfl (h.pick 3 [2]) p.left).mono ?_
  rintro _ _ ⟨rfl,rfl⟩
  obtain ⟨q,M,e1,e2,hq,back⟩:=ob rfl (h.pick 4 [3,0,1,2]) p.left
  have hql:q.2.length<=j:=by rw [e2,hps,UH]; exact DV _ _ _
  refine ⟨_,_,_,e1,⟨cm (hq.pick 4 [3]),cp (hq.pick 3 [2])⟩,af hq λk19 w13 h=>⟨⟨cm (h.pick 5 [4]),cp (h.pick 4 [3])⟩,?_⟩⟩
  refine (aW (us:=iv q.2) aL (rfl:ah Ty _ = .slice _) (rfl:ah Ty _ = .slice _) rfl rfl rfl h rfl (by simp [aH]) (by show (q.2.length + 1) * 8<=_; omega) (by omega)).mono ?_
  rintro _ w14 ⟨o,c',rfl,h⟩
  refine ⟨_,_,_,rfl,⟨cm (h.pick 5 [4]),cp (h.pick 4 [3])⟩,(cN (κ:=Int) aL (rfl:ah Ty _ = .map _ _) bp (h.pick 7 [5,0,2,4,6]) p.left _).mono ?_⟩
  rintro _ w15 h
  have h:=tX back (q.2 ++ [(j:Int)]) (by simp) (by simp [iv]) h
  exact ⟨⟨by omega,by omega⟩,⟨j + 1,_,by simp,h1,λs=>by rw [js,Ai hp1,e2,hps]; by_cases e:s = p.left <;> simp [e,hps],h.pick 4 [2,0,1,3]⟩,bK h1⟩
 ·refine af h λk22 w16 h=>⟨⟨cm (h.pick 3 [2]),cp (h.pick 2 [1])⟩,(bU (κ:=Int) aL (rfl:ah Ty _ = .map _ _) bp rfl rfl (h.pick 4 [3]) p.left).mono ?_⟩
  rintro _ _ ⟨rfl,rfl⟩
  obtain ⟨q,M,e1,e2,hq,back⟩:=ob rfl (h.pick 5 [4,0,1,2,3]) p.left
  have hql:q.2.length<=j:=by rw [e2,hps,UH]; exact DV _ _ _
  refine ⟨_,_,_,e1,⟨cm (hq.pick 5 [4]),cp (hq.pick 4 [3])⟩,?_⟩
  refine (aW (us:=iv q.2) aL (rfl:ah Ty _ = .slice _) (rfl:ah Ty _ = .slice _) rfl rfl rfl (hq.pick 3 [2,0,1]) rfl (by simp [aH]) (by show (q.2.length + 1) * 8<=_; omega) (by omega)).mono ?_
  rintro _ w14 ⟨o,c',rfl,h⟩
  refine ⟨_,_,_,rfl,⟨cm (h.pick 5 [4]),cp (h.pick 4 [3])⟩,(cN (κ:=Int) aL (rfl:ah Ty _ = .map _ _) bp (h.pick 7 [5,0,2,4,6]) p.left _).mono ?_⟩
  rintro _ w15 h
  have h:=tX back (q.2 ++ [(j:Int)]) (by simp) (by simp [iv]) h
  exact ⟨⟨by omega,by omega⟩,⟨j + 1,_,by simp,h1,λs=>by rw [js,Ai hp1,e2,hps]; by_cases e:s = p.left <;> simp [e,hps],h.pick 4 [2,0,1,3]⟩,bK h1⟩
theorem SX {h:Hp} {k kb:Nat} {ps:List (Int × Lq Int)} (hg:gR h g x) (hps:∀ s,gq s ps = (Bi g s).map Int.ofNat) (hs:aG (aS k (x.cells ++ [.map (some kb)]) :: mapA kb (mV ps) :: aT (mO 1 iv ps) :: L) h):QL h g k:=by
 obtain ⟨hm,sm,hA⟩:=OM 1 hs
 refine ⟨x,kb,mV ps,ag 0 hs,hg,dB sm hA,λs=>?_⟩
 have e:=hps s
 cases hq:cW s ps with
 | none =>
  have e0:gq s ps = []:=by unfold gq; rw [hq]
  rw [e0] at e
  have e1:Bi g s = []:=List.map_eq_nil_iff.1 e.symm
  rw [gA,hq,e1]
  exact ⟨none,0,rfl,aX.nil⟩
 | some q =>
  have e0:gq s ps = q.2:=by unfold gq; rw [hq]
  rw [e0] at e
  obtain ⟨hq1,sq,ho⟩:=Jj (aQ (aQ hs)) hq
  have hl:q.2.length = (Bi g s).length:=by rw [e,UH]
  refine ⟨q.1.1,q.1.2,by rw [gA,hq]; show cF q = _; unfold cF; rw [hl],?_⟩
  rw [<- e,<- hl]
  exact (dO rfl (cE ho)).mono sq
def QM (g:ae) (I:List ai):Prop:=∀ x∈I,tT g x
theorem FK {k:Nat} {y:ai} (hm:QL (hp w) g k) (hf:tT g y) :
  ay Tryz.prog tV [.pointer (some (aM k)),.agg (cV y).toArray] w λv w'=>v = .int .i64 (jV g y)/\Gr w w':=by
 obtain ⟨x,kb,m,h1,hg,_,_⟩:=hm.ex
 obtain ⟨h2,h3,p,hpr,h4⟩:=hf
 refine qw (af (St.all w) λk1 w1 h=>?_)
 intro w2 hd
 have h:=h.eq (aE hd)
 have g2:Gr w w2:=h.aR
 have r2:av (hp w2) (aM k1) [.int .i64 y.prod,.int .i64 y.dot]:=ag 0 h.l
 obtain ⟨n,hn⟩ : ∃ n:Nat,y.prod = n:=⟨y.prod.toNat,by omega⟩
 obtain ⟨d,hdn⟩ : ∃ d:Nat,y.dot = d:=⟨y.dot.toNat,by omega⟩
 have hpn:g.prods[n]? = some p:=by rw [hn] at hpr; exact hpr
 have hnl:n < x.pl:=by have:=(UA.1 hpn).1; have:=hg.p.1; omega
 obtain ⟨p',pad,vs,hp1,hpa,hp2,ra,rl,rc,rfl,hrc,hp3⟩:=hg.p.get hnl
 rw [hpn] at hp1; cases hp1
 have hrl:=hp3.1
 refine ⟨λu=>Gr w2 u,Gr.refl _,x.pa,x.pl,x.pc,λu s=>h1.cell (sub.trans g2 s) (j:=4) rfl,_,λu s=>r2.cell0 s,?_⟩
 rw [hn]
 refine ak hpa hnl ⟨_,_,_,λu s=>hp2.cell (sub.trans g2 s) (j:=1) rfl,_,r2.cell (sub.refl _) (j:=1) rfl,?_⟩
 rw [Ac hpr,hdn,U9]
 refine aa (λh5=>?_) λh5=>?_
 ·have h5:d = rl:=by have:=eq_of_beq h5; omega
  rw [UN,UW (by omega)]
  exact ⟨rfl,g2⟩
 ·have h5:d≠rl:=λe=>by subst e; simp at h5
  obtain ⟨v,ad,hv,hva,cv⟩:=hp3.dM (i:=d) (by omega)
  refine ⟨_,(r2.cell (sub.refl _) (j:=1) rfl),?_⟩
  show idx ra rl y.dot 1 _
  rw [hdn]
  refine aB hva (by omega) ⟨v,cv _ g2,?_⟩
  rw [UN,hv]
  exact ⟨rfl,g2⟩
end Go.Proofs.YtndaepmjkbmjmaaGreatDoor
namespace Go.V
theorem SY {n:Nat} (h:(n + 1) * 16<=140737488355328):n < 9223372036854775807:=by omega
theorem nw {α : Type}:∀ {l m:List α},l.Nodup->(∀ x∈l,x∈m)->l.length<=m.length
 | [],m,_,_=>UM _
 | a :: l,m,h,hs=>by
  obtain ⟨m1,m2,rfl⟩:=Wk (hs a (by simp))
  rw [Vy] at h
  have:=nw (l:=l) (m:=m1 ++ m2) h.2 λx hx=>by
   have h1:=hs x (by simp [hx])
   rw [UF,UR] at h1
   rw [UF]
   rcases h1 with h1 | rfl | h1
   ·exact .inl h1
   ·exact absurd hx h.1
   ·exact .inr h1
  simp at this ⊢; omega
def QO (i:Nat):ai:=⟨(i:Int),0⟩
theorem BE.or {g:ae} {I:List ai} {x:ai} (h:BE g I x):x∈I\/∃ i,i < g.prods.length/\x = QO i:=by
 cases h with
 | base h=>exact .inl h
 | step _ _ hp _=>exact .inr ⟨_,(UA.1 hp).1,rfl⟩
theorem Jk (g:ae) (I:List ai):(cls g I).length<=I.length + g.prods.length:=by
 have:=nw (m:=I ++ (List.range g.prods.length).map QO) (DM (g:=g) (I:=I)).nodup λx hx=>by
  rw [UF]
  rcases (vr.1 hx).or with h | ⟨i,hi,rfl⟩
  ·exact .inl h
  ·exact .inr (UU.2 ⟨i,U8.2 hi,rfl⟩)
 simpa using this
theorem MU {h:Hp} {xs:List ai} {a:Wr} {l:Nat} (r:aX h xs a l):fp a (tv xs) h:=by
 cases xs with
 | nil=>exact .inl rfl
 | cons x0 xs' =>
  obtain ⟨ad,vs,rfl,_⟩:=r.2 0 x0 rfl
  refine .inr ⟨ad,rfl,rr (n:=2) (λ_=>rfl) _ ad λi x hx=>?_⟩
  obtain ⟨ad',vs,e,h2,h3⟩:=r.2 i x hx
  cases e
  rw [show vs = cV x from h3] at h2
  exact h2
theorem RK (xs:List ai):∀ v∈tv xs,aH v = true:=λv hv=>by
 obtain ⟨x,_,hv⟩:=VP.1 hv
 rcases UR.1 hv with rfl | hv
 ·rfl
 ·rw [U2] at hv; subst hv; rfl
theorem zc {P:Program} {Ty:TypeId->Option cB} {w:Ws} {L:List au} {e e' : TypeId} (hT:di P Ty) {t tx ty:TypeId} {i:cB} {z:Value} (hk:ah Ty t = .slice e) (hkx:ah Ty tx = .slice e') (hi:Ty e = some i) (hz:i.zero = some z) (hzs:(cellsOf z).length = i.size)
  {a a2:Wr} {l c n c2:Nat} {us news:List Value} (h:St w (own i.size a l c us :: L)) (hn:news.length = n * i.size) (h0:0 < i.size) (hx:fp a2 news (hp w)) (h1:∀ u∈news,aH u = true) (hb:(l + n) * i.bytes<=140737488355328) (h63:l + n<=9223372036854775807) :
  aU P (Builtin.append_ (Array.mk [t,tx]) ty (Array.mk [.slice a l c,.slice a2 n c2])) w λv w'=>∃ a' c',v = .slice a' (l + n) c'/\St w' (own i.size a' (l + n) c' (us ++ news) :: L):=by
 refine iu hT hk hi hz hzs h (n:=n) (news:=news) (fx hT hkx hn ?_ h1) hb h63
 rcases hx with rfl | ⟨ad,rfl,hc⟩
 ·left
  rcases Nat.eq_zero_or_pos n with h | h
  ·exact h
  ·have:=Nat.mul_pos h h0; simp at hn; omega
 ·exact .inr ⟨ad,rfl,λj u hj=>j5 (hc j u hj)⟩
structure tY (g:ae) (I:List ai) (m:List (Int × Value)) (H:List Int) (i:Nat) (ls:List ai):Prop where
 nd:H.Nodup
 eq:ls = I ++ (H.flatMap (Bi g)).map QO
 of:∀ s∈H,0<=s/\∃ y,BE g I y/\jV g y = s
 mp:∀ s,(assoc s m).getD (.int .i64 0) = .int .i64 (if s∈H then 1 else 0)
 dn:∀ (j:Nat) y,j < i->ls[j]? = some y->0<=jV g y->jV g y∈H
section
variable {g:ae} {I ls:List ai} {m:List (Int × Value)} {H:List Int} {i:Nat}
theorem Jl:∀ {H:List Int},H.Nodup->(H.flatMap (Bi g)).Nodup
 | [],_=>by simp
 | s :: H,h=>by
  rw [Vy] at h
  rw [U6,Vg]
  refine ⟨List.nodup_range.filter _,Jl h.2,λa ha b hb e=>?_⟩
  subst e
  obtain ⟨t,ht,hb⟩:=VP.1 hb
  obtain ⟨p,h1,rfl⟩:=rJ.1 ha
  obtain ⟨q,h2,rfl⟩:=rJ.1 hb
  rw [h1] at h2; cases h2
  exact h.1 ht
theorem tY.len (h:tY g I m H i ls):ls.length<=I.length + g.prods.length:=by
 have:=nw (m:=List.range g.prods.length) (Jl (g:=g) h.nd) λx hx=>by
  obtain ⟨t,_,hb⟩:=VP.1 hx
  obtain ⟨p,h1,_⟩:=rJ.1 hb
  exact U8.2 (UA.1 h1).1
 rw [Vw] at this
 rw [h.eq,UG,UH]; omega
theorem tY.sound (h:tY g I m H i ls) {x:ai} (hx:x∈ls):BE g I x:=by
 rw [h.eq,UF] at hx
 rcases hx with hx | hx
 ·exact .base hx
 ·obtain ⟨n,hn,rfl⟩:=UU.1 hx
  obtain ⟨s,hs,hn⟩:=VP.1 hn
  obtain ⟨p,hp,e⟩:=rJ.1 hn
  obtain ⟨h0,y,hy,e2⟩:=h.of s hs
  exact .step hy (by omega) hp (by rw [e,e2])
theorem tY.start:tY g I [] [] 0 I:=⟨by simp,by simp,λs hs=>by simp at hs,λs=>by simp [assoc],λj y hj=>by omega⟩
theorem tY.skip (h:tY g I m H i ls) {y:ai} (hy:ls[i]? = some y) (hs:jV g y < 0\/jV g y∈H):tY g I m H (i + 1) ls :=
 ⟨h.nd,h.eq,h.of,h.mp,λj z hj hz h0=>by
  by_cases e:j = i
  ·subst e; rw [hy] at hz; cases hz
   rcases hs with hs | hs
   ·omega
   ·exact hs
  ·exact h.dn j z (by omega) hz h0⟩
theorem tY.more (h:tY g I m H i ls) {y:ai} (hy:ls[i]? = some y) (h0:0<=jV g y) (hs:jV g y∉H):tY g I (bA (jV g y) (.int .i64 1) m) (H ++ [jV g y]) (i + 1) (ls ++ (Bi g (jV g y)).map QO):=by
 have hm:=UC hy
 refine ⟨?_,?_,λs hs2=>?_,λs=>?_,λj z hj hz h1=>?_⟩
 ·rw [Vg]
  exact ⟨h.nd,by simp,λa ha b hb e=>by simp at hb; subst hb; subst e; exact hs ha⟩
 ·rw [U_,U1,<- UK,<- h.eq]; simp
 ·rw [UF,U2] at hs2
  rcases hs2 with hs2 | rfl
  ·exact h.of s hs2
  ·exact ⟨h0,y,h.sound hm,rfl⟩
 ·rw [dy]
  by_cases e:s = jV g y
  ·simp [e]
  ·rw [UE e,h.mp s]; simp [e]
 ·rw [UF,U2]
  have hjl:j < ls.length:=by have:=(UA.1 hy).1; omega
  rw [UQ hjl] at hz
  by_cases e:j = i
  ·subst e; rw [hy] at hz; cases hz; exact .inr rfl
  ·exact .inl (h.dn j z (by omega) hz h1)
theorem tY.fin (h:tY g I m H i ls) (hi:i = ls.length):lay ls = cls g I:=by
 refine Px (j_ _) λx=>?_
 rw [jf]
 refine ⟨h.sound,λhx=>?_⟩
 induction hx with
 | base hx=>rw [h.eq]; exact List.mem_append_left _ hx
 | @step y k p _ h1 h2 h3 ih =>
  obtain ⟨j,hj⟩:=Vf ih
  have:=h.dn j y (by have:=(UA.1 hj).1; omega) hj h1
  rw [h.eq,UF]
  exact .inr (UU.2 ⟨k,VP.2 ⟨_,this,rJ.2 ⟨p,h2,h3⟩⟩,rfl⟩)
end
end Go.V
namespace Go.Proofs.YtndaepmjkbmjmaaGreatDoor
variable {w:Ws} {L:List au} {a:Wr} {l c:Nat} {I:List ai} {g:ae}
theorem PD (hr:aX (hp w) I a l) (hb:l * 16<=140737488355328):ay Tryz.prog il [.slice a l c] w λv w'=>∃ o c',v = .slice o l c'/\St w' (own 2 o l c' (tv I) :: all w):=by
 have hl:=hr.1
 refine gp (aa (λh=>?_) λh=>?_)
 ·have ha:a = none:=by simpa using h
  subst ha
  have hI:I = []:=by
   cases I with
   | nil=>rfl
   | cons x _=>obtain ⟨ad,_,e,_⟩:=hr.2 0 x rfl; cases e
  subst hI
  have:l = 0:=hl.symm
  subst this
  exact ⟨_,_,rfl,az 2 (St.all w)⟩
 ·refine af (St.all w) λk w1 h=>?_
  have g1:Gr w w1:=h.aR
  have h:St w1 (own 2 (some (aM k)) 0 0 [] :: all w):=dR (cs:=[]) h rfl rfl (US _)
  refine (zc (us:=[]) (news:=tv I) aL (rfl:ah Ty _ = .slice _) (rfl:ah Ty _ = .slice _) rfl rfl rfl h (by rw [fP,hl]) (by show 0 < 2; decide) (MU (hr.mono g1)) (RK I) (by show (0 + l) * 16<=_; omega) (by omega)).mono ?_
  rintro _ w2 ⟨o,c',rfl,h⟩
  refine ⟨_,_,_,rfl,o,c',by simp,?_⟩
  have h2:St w2 (own 2 o (0 + l) c' (tv I) :: all w):=h
  rwa [Vr] at h2
theorem KK {k:Nat} (hm:QL (hp w) g k) (hr:aX (hp w) I a l) (hf:QM g I) (hb:(l + g.prods.length + 1) * 16<=140737488355328) :
  ay Tryz.prog sy [.pointer (some (aM k)),.slice a l c] w λv w'=>∃ o,v = .slice o (cls g I).length (cls g I).length/\St w' (own 2 o (cls g I).length (cls g I).length (tv (cls g I)) :: all w):=by
 have hl:=hr.1
 refine pn ((PD hr (by omega)).mono ?_)
 rintro _ w1 ⟨o,c',rfl,h⟩
 refine ⟨_,_,_,rfl,lY h λkh w2 h=>?_⟩
 have h:=dz (κ:=Int) h
 refine ⟨λo n c z w'=>∃ (i:Nat) (ls:List ai) (m:List (Int × Value)) (H:List Int),z = i/\n = ls.length/\i<=ls.length/\tY g I m H i ls/\St w' (own 2 o n c (tv ls) :: mapA kh m :: all w),λ_ _ _ z _=>(l + g.prods.length) - z.toNat,
  ⟨0,I,[],[],rfl,hl.symm,UM _,.start,h.pick 2 [1,0]⟩,?_⟩
 clear h
 rintro _ o _ c2 _ w3 ⟨i,ls,m,H,rfl,rfl,hi,hC,h⟩
 have hlen:=hC.len
 rw [hl] at hlen
 refine aa (λh1=>?_) λh1=>?_
 rotate_left
 ·have h1:i = ls.length:=by have:=Uy h1; omega
  refine (MQ h (by omega)).mono ?_
  rintro _ w12 ⟨a',rfl,h⟩
  rw [hC.fin h1] at h ⊢
  exact ⟨_,_,_,rfl,_,rfl,h.pick 3 [0,2]⟩
 have h1:i < ls.length:=by have:=Uz h1; omega
 obtain ⟨y,ad,hy,rfl,cy⟩:=iB (vv h) h1
 have hym:=UC hy
 have hyf:tT g y:=(hC.sound hym).fit hf
 have s3:sub (hp w) (hp w3):=bj 2 h.l
 refine ak rfl h1 ⟨_,_,cy _ (sub.refl _),(FK (hm.mono s3) hyf).mono ?_⟩
 rintro _ w4 ⟨rfl,g4⟩
 have h:=h.gr g4
 refine ⟨_,rfl,aa (λh2=>?_) λh2=>?_⟩
 ·have h2:=Uz h2
  exact ⟨⟨by omega,by omega⟩,⟨i + 1,ls,m,H,by simp,rfl,h1,hC.skip hy (.inl h2),h⟩,bK (by omega)⟩
 have h2:0<=jV g y:=by have:=Uy h2; omega
 refine (bU (κ:=Int) aL (rfl:ah Ty _ = .map _ _) bp rfl rfl (h.pick 3 [1,0,2]) _).mono ?_
 rintro _ _ ⟨rfl,rfl⟩
 refine ⟨_,hC.mp _,aa (λh3=>?_) λh3=>?_⟩
 ·have h3:jV g y∈H:=by
   have:=Uz h3
   refine VI λhn=>?_
   rw [UE hn] at this; omega
  exact ⟨⟨by omega,by omega⟩,⟨i + 1,ls,m,H,by simp,rfl,h1,hC.skip hy (.inr h3),h⟩,bK (by omega)⟩
 have h3:jV g y∉H:=λhn=>by
  have:=Uy h3
  rw [UJ hn] at this; omega
 refine (bU (κ:=Int) aL (rfl:ah Ty _ = .map _ _) bp rfl rfl (h.pick 3 [1,0,2]) _).mono ?_
 rintro _ _ ⟨rfl,rfl⟩
 refine ⟨_,hC.mp _,⟨by split <;> omega,by split <;> omega⟩,(cN (κ:=Int) aL (rfl:ah Ty _ = .map _ _) bp (h.pick 3 [1,0,2]) _ _).mono ?_⟩
 rintro _ w7 h
 rw [UE h3,show (0:Int) + 1 = 1 from rfl] at h
 have hC2:=hC.more hy h2 h3
 have hlen2:=hC2.len
 rw [hl,UG,UH] at hlen2
 have s7:sub (hp w) (hp w7):=bj 2 h.l
 obtain ⟨x,kb,mb,r1,hg,hmb,hby⟩:=hm.ex
 obtain ⟨ab,cb,eb,rb⟩:=hby (jV g y)
 refine ⟨_,r1.cell s7 (j:=5) rfl,(FJ (κ:=Int) hmb s7 aL (rfl:ah Ty _ = .map _ _) bp rfl rfl _).mono ?_⟩
 rintro _ w8 ⟨rfl,e8⟩
 rw [e8]
 refine ⟨_,_,_,eb,?_⟩
 refine ⟨λo n c z w'=>∃ j:Nat,z = j/\j<=(Bi g (jV g y)).length/\n = ls.length + j/\St w' (own 2 o n c (tv (ls ++ ((Bi g (jV g y)).take j).map QO)) :: mapA kh (bA (jV g y) (.int .i64 1) m) :: all w),λ_ _ _ z _=>(Bi g (jV g y)).length - z.toNat,
  ⟨0,rfl,UM _,rfl,?_⟩,?_⟩
 ·rw [List.take_zero,List.map_nil,U3]; exact h.pick 3 [1,0,2]
 clear h
 rintro _ o _ c9 _ w9 ⟨j,rfl,hj,rfl,h⟩
 have s9:sub (hp w) (hp w9):=bj 2 h.l
 refine aa (λh4=>?_) λh4=>?_
 rotate_left
 ·have h4:j = (Bi g (jV g y)).length:=by have:=Uy h4; omega
  subst h4
  rw [UZ] at h
  exact ⟨⟨by omega,by omega⟩,⟨i + 1,_,_,_,by simp,by simp,by rw [UG]; exact Nat.le_add_right_of_le h1,hC2,h⟩,bK (Nat.lt_of_lt_of_le h1 hlen)⟩
 have h4:j < (Bi g (jV g y)).length:=by have:=Uz h4; omega
 obtain ⟨n,hn⟩ : ∃ n,(Bi g (jV g y))[j]? = some n:=⟨_,UB h4⟩
 obtain ⟨v,adb,hv,hab,cb⟩:=rb.dM h4
 have hv2:v = (n:Int):=by rw [UD,hn] at hv; exact (Option.some.inj hv).symm
 subst hv2
 have hz1:(ls.length + j + 1) * 16<=140737488355328:=U7 (VW 16 (Nat.succ_le_succ (U7 (Nat.add_le_add_left (Nat.le_of_lt h4) _) hlen2))) hb
 have hz2:=SY hz1
 clear hlen hlen2 hC2 hby hmb
 refine aB hab h4 ⟨_,cb _ s9,af h λk10 w10 h=>?_⟩
 refine (aW (us:=tv (ls ++ ((Bi g (jV g y)).take j).map QO)) aL (rfl:ah Ty _ = .slice _) (rfl:ah Ty _ = .slice _) rfl rfl rfl h rfl (by simp [aH]) hz1 hz2).mono ?_
 rintro _ w11 ⟨o6,c11,rfl,h⟩
 refine ⟨_,_,_,rfl,⟨by omega,by omega⟩,⟨j + 1,by simp,h4,rfl,?_⟩,bK h4⟩
 have e:tv (ls ++ ((Bi g (jV g y)).take (j + 1)).map QO) = tv (ls ++ ((Bi g (jV g y)).take j).map QO) ++ [.int .i64 (n:Int),.int .i64 0]:=by
  rw [UI,hn,VT,U1,<- UK,wT]; rfl
 rw [e]
 exact h.pick 4 [0,2,3]
def nx (g:ae) (K:List ai) (s:Int):List ai:=(K.filter λx=>decide (jV g x = s)).map λx=>⟨x.prod,x.dot + 1⟩
theorem HN {g:ae} {K:List ai} {x:ai} {s:Int}:nx g (K ++ [x]) s = if s = jV g x then nx g K s ++ [⟨x.prod,x.dot + 1⟩] else nx g K s:=by
 unfold nx
 rw [Vi,U1]
 by_cases e:s = jV g x
 ·simp [e]
 ·simp [e,Ne.symm e]
theorem Cv (g:ae) (K:List ai) (s:Int):(nx g K s).length<=K.length:=by
 unfold nx; rw [UH]; exact Vm _ _
theorem KL {k:Nat} (hm:QL (hp w) g k) (hr:aX (hp w) I a l) (hf:QM g I) (hb:(l + g.prods.length + 1) * 16<=140737488355328) (hbr:∀ p∈g.prods,p.right.length<=17592186043904) :
  ay Tryz.prog sx [.pointer (some (aM k)),.slice a l c] w λv w'=>∃ (kk:Nat) (ps:List (Int × Lq ai)),v = .map (some kk)/\(∀ s,0<=s->gq s ps = bx g I s)/\(ps.map Prod.fst).Nodup/\(∀ s,s∈ps.map Prod.fst↔0<=s/\bx g I s≠[])/\St w' (mapA kk (mV ps) :: aT (mO 2 tv ps) :: all w):=by
 have hl:=hr.1
 refine ph (lY (St.all w) λkk w1 h=>?_)
 have h:=dz (κ:=Int) h
 have g1:Gr w w1:=bj 1 h.l
 refine ((KK (hm.mono g1) (hr.mono g1) hf hb).mono ?_)
 rintro _ w2 ⟨o,rfl,h2⟩
 have h:=h2.u6 h.l
 have hcl:=Jk g I
 rw [hl] at hcl
 refine ⟨_,_,_,rfl,?_⟩
 refine ⟨λz w'=>∃ (j:Nat) (ps:List (Int × Lq ai)),z = j/\j<=(cls g I).length/\(∀ s,0<=s->gq s ps = nx g ((cls g I).take j) s)/\(ps.map Prod.fst).Nodup/\(∀ s,s∈ps.map Prod.fst↔0<=s/\nx g ((cls g I).take j) s≠[]) /\
   St w' (mapA kk (mV ps) :: aT (mO 2 tv ps) :: own 2 o (cls g I).length (cls g I).length (tv (cls g I)) :: all w),λz _=>(cls g I).length - z.toNat,
  ⟨0,[],rfl,UM _,λs _=>by simp [nx]; rfl,by simp,λs=>by simp [nx],?_⟩,?_⟩
 ·have h3:St w2 (mapA kk ([] : List (Int × Value)) :: own 2 o (cls g I).length (cls g I).length (tv (cls g I)) :: all w):=h.pick 3 [1,0,2]
  exact ((St.flat (M:=[])).2 h3).swap
 clear h h2
 rintro _ _ w3 ⟨j,ps,rfl,hj,hps,hnd,hks,h⟩
 refine aa (λh1=>?_) λh1=>?_
 rotate_left
 ·have h1:j = (cls g I).length:=by have:=Uy h1; omega
  rw [h1,UZ] at hps hks
  exact ⟨kk,ps,rfl,hps,hnd,hks,h.pick 4 [0,1,3]⟩
 have h1:j < (cls g I).length:=by have:=Uz h1; omega
 obtain ⟨y,ad,hy,rfl,cy⟩:=iB (vv (h.pick 3 [2])) h1
 have hyf:tT g y:=(vr.1 (UC hy)).fit hf
 have hyd:y.dot + 1<=9223372036854775807:=by
  obtain ⟨_,_,p,hp,h5⟩:=hyf
  have:=hbr p (UC hp); omega
 have hyd0:=hyf.2.1
 have s3:sub (hp w) (hp w3):=bj 3 h.l
 have hkt:∀ s,nx g ((cls g I).take (j + 1)) s = if s = jV g y then nx g ((cls g I).take j) s ++ [⟨y.prod,y.dot + 1⟩] else nx g ((cls g I).take j) s:=λs=>by
  rw [UI,hy,VT,HN]
 refine ak rfl h1 ⟨_,_,cy _ (sub.refl _),af h λk4 w4 h=>aI h rfl (by simp [aH]) λw5 h=>⟨_,_,(ag 0 h.l).at (sub.refl _) rfl,(FK (hm.mono (bj 4 h.l)) hyf).mono ?_⟩⟩
 rintro _ w6 ⟨rfl,g6⟩
 have h:=h.gr g6
 refine ⟨_,rfl,aa (λh2=>?_) λh2=>?_⟩
 rotate_left
 ·have h2:jV g y < 0:=by have:=Uy h2; omega
  refine ⟨⟨by omega,by omega⟩,⟨j + 1,ps,by simp,h1,λs hs=>?_,hnd,λs=>?_,h.pick 5 [1,2,3,4]⟩,bK h1⟩
  ·rw [hkt,UE (by omega)]; exact hps s hs
  ·rw [hks,hkt]
   by_cases e:s = jV g y
   ·constructor <;> (rintro ⟨e2,_⟩; omega)
   ·rw [UE e]
 have h2:0<=jV g y:=Uz h2
 refine (bU (κ:=Int) aL (rfl:ah Ty _ = .map _ _) bp rfl rfl (h.pick 5 [1,0,2,3,4]) _).mono ?_
 rintro _ w7 ⟨rfl,e7⟩
 rw [e7]
 obtain ⟨q,M,e1,e2,hq,back⟩:=ob rfl (h.pick 5 [2,0,1,3,4]) (jV g y)
 have hql:q.2.length<=(cls g I).length:=by
  rw [e2,hps _ h2]
  refine U7 (Cv _ _ _) (by rw [U0]; omega)
 have r4:av (hp w6) (aM k4) [.int .i64 y.prod,.int .i64 y.dot]:=ag 2 hq.l
 have hz1:(q.2.length + 1) * 16<=140737488355328:=U7 (VW 16 (Nat.succ_le_succ (U7 hql hcl))) hb
 have hz2:=SY hz1
 refine ⟨_,_,_,e1,_,r4.cell0 (sub.refl _),_,r4.cell (sub.refl _) (j:=1) rfl,⟨by omega,by omega⟩,af hq λk7 w8 h=>?_⟩
 refine (aW (us:=tv q.2) aL (rfl:ah Ty _ = .slice _) (rfl:ah Ty _ = .slice _) rfl rfl rfl h rfl (by simp [aH]) hz1 hz2).mono ?_
 rintro _ w9 ⟨o3,c3,rfl,h⟩
 refine ⟨_,_,_,rfl,(cN (κ:=Int) aL (rfl:ah Ty _ = .map _ _) bp (h.pick 7 [4,0,2,5,6]) (jV g y) _).mono ?_⟩
 rintro _ w10 h
 have h:=tX back (q.2 ++ [⟨y.prod,y.dot + 1⟩]) (by simp) (by rw [wT]; rfl) h
 refine ⟨⟨by omega,by omega⟩,⟨j + 1,_,by simp,h1,λs hs=>?_,DU _ hnd,λs=>?_,h⟩,bK h1⟩
 ·rw [js,hkt,e2]
  by_cases e:s = jV g y
  ·subst e; rw [UJ rfl,UJ rfl,hps _ hs]
  ·rw [UE e,UE e,hps _ hs]
 ·rw [wU,hkt]
  have:=hks s
  by_cases e:s = jV g y
  ·subst e
   rw [UJ rfl]
   refine ⟨λ_=>⟨h2,by simp⟩,λ_=>?_⟩
   split
   ·assumption
   ·simp
  ·rw [UE e,<- this]
   split
   ·exact Iff.rfl
   ·rw [UF,U2]; simp [e]
end Go.Proofs.YtndaepmjkbmjmaaGreatDoor
namespace Go.V
section
variable {α : Type} {f:α->List Value} {n:Nat}
theorem kQ (hf:∀ x,(f x).length = n):∀ xs:List α,(xs.flatMap f).length = xs.length * n
 | []=>by simp
 | x :: xs=>by rw [U6,UG,hf,kQ hf xs,Vc,V0,Nat.add_comm]
theorem DW (hf:∀ x,(f x).length = n):∀ (xs:List α) (i j:Nat) (x y:α) (v:Value),xs[i]? = some x->j < n->f y = (f x).set j v->(xs.flatMap f).set (i * n + j) v = (xs.set i y).flatMap f
 | [],i,j,x,y,v,h,_,_=>by simp at h
 | z :: xs,0,j,x,y,v,h,hj,he=>by
  simp at h; subst h
  rw [Nat.zero_mul,Vr,Wb,U6,U6,List.set_append_left _ _ (by rw [hf]; exact hj),he]
 | z :: xs,i + 1,j,x,y,v,h,hj,he=>by
  rw [Wl,U6,U6,VE _ _ (by rw [hf,V0]; omega),hf,show (i + 1) * n + j - n = i * n + j by rw [V0]; omega]
  rw [DW hf xs i j x y v (by simpa using h) hj he]
end
theorem od {M L:List au} {h:Hp} {i:Nat} {A:au} (hs:aG (aT M :: L) h) (hi:M[i]? = some A):∃ h1,sub h1 h/\A h1:=by
 have h2:=kG.1 hs
 obtain ⟨hlt,e⟩:=UA.1 hi
 obtain ⟨h1,s1,ha⟩:=dV i (by rw [UG]; omega) h2
 rw [Ah (by rw [UG]; omega),List.getElem_append_left hlt,e] at ha
 exact ⟨h1,s1,ha⟩
def MV (x:aN):List Value:=[.int .i64 x.sym,.int .i64 x.to]
def MW (xs:List aN):List Value:=xs.flatMap MV
theorem PE (xs:List aN):(MW xs).length = xs.length * 2:=kQ (f:=MV) (n:=2) (λ_=>rfl) xs
abbrev SQ:=Lq ai × Lq aN
def KM (q:SQ):List Value:=[cF q.1,cF q.2]
def GX (ss:List SQ):List Value:=ss.flatMap KM
def Jm (ss:List SQ):List au:=ss.map λq=>b_ 2 tv q.1
def HO (ss:List SQ):List au:=ss.map λq=>b_ 2 MW q.2
def dg (ss:List SQ):List dp:=ss.map λq=>q.1.2
def bm (ss:List SQ):List (List aN):=ss.map λq=>q.2.2
theorem Jn (ss:List SQ):(GX ss).length = ss.length * 2:=kQ (f:=KM) (n:=2) (λ_=>rfl) ss
theorem MX (ss:List SQ) (q:SQ):GX (ss ++ [q]) = GX ss ++ KM q:=by unfold GX; rw [U_]; simp
def iC (x:ai):Prop:=0<=x.prod/\x.prod < 256/\0<=x.dot/\x.dot < 65536
def yJ (x:ai):List UInt8:=[UInt8.ofNat x.prod.toNat,UInt8.ofNat (x.dot.toNat % 256),UInt8.ofNat (x.dot.toNat / 256)]
def oe (K:List ai):List UInt8:=K.flatMap yJ
def iX (K:List ai):ByteArray:=⟨(oe K).toArray⟩
def SB (b:UInt8):Value:=.int .u8 (b.toNat:Int)
theorem MY {x y:ai} (hx:iC x) (hy:iC y) (h:yJ x = yJ y):x = y:=by
 obtain ⟨a1,a2,a3,a4⟩:=hx
 obtain ⟨b1,b2,b3,b4⟩:=hy
 unfold yJ at h
 simp only [List.cons.injEq,and_true] at h
 obtain ⟨h1,h2,h3⟩:=h
 have e1:=congrArg UInt8.toNat h1
 have e2:=congrArg UInt8.toNat h2
 have e3:=congrArg UInt8.toNat h3
 simp only [UInt8.toNat_ofNat'] at e1 e2 e3
 exact ai.ext' (by omega) (by omega)
theorem FL:∀ {K M:List ai},(∀ x∈K,iC x)->(∀ x∈M,iC x)->oe K = oe M->K = M
 | [],[],_,_,_=>rfl
 | [],y :: M,_,_,h=>by simp [oe,yJ] at h
 | x :: K,[],_,_,h=>by simp [oe,yJ] at h
 | x :: K,y :: M,hk,hm,h=>by
  unfold oe at h
  rw [U6,U6] at h
  obtain ⟨h1,h2⟩:=List.append_inj h rfl
  rw [MY (hk x (by simp)) (hm y (by simp)) h1,FL (λz hz=>hk z (by simp [hz])) (λz hz=>hm z (by simp [hz])) h2]
theorem HP {K M:List ai} (hk:∀ x∈K,iC x) (hm:∀ x∈M,iC x) (h:iX K = iX M):K = M:=by
 refine FL hk hm ?_
 have:=congrArg (λb:ByteArray=>b.data.toList) h
 simpa [iX] using this
theorem KN (K:List ai) (x:ai):oe (K ++ [x]) = oe K ++ yJ x:=by unfold oe; rw [U_]; simp
theorem FM (K:List ai):(oe K).length = K.length * 3:=by
 induction K with
 | nil=>rfl
 | cons x K ih=>unfold oe at *; rw [U6,UG,ih,Vc]; simp [yJ]; omega
theorem TP {x:ai} (h:iC x):[Value.int .u8 (IntKind.u8.wrap x.prod),Value.int .u8 (IntKind.u8.wrap x.dot),Value.int .u8 (IntKind.u8.wrap (bw .i64 x.dot 8))] = (yJ x).map SB:=by
 obtain ⟨a1,a2,a3,a4⟩:=h
 have e:bw .i64 x.dot 8 = x.dot / 256:=by
  simp only [bw,IntKind.bits]
  rw [show min (Int.toNat 8) 64 = 8 from rfl,Int.fdiv_eq_ediv_of_nonneg _ (by decide)]
  rfl
 rw [e]
 simp only [yJ,Vh,List.map_nil,SB,UInt8.toNat_ofNat',IntKind.wrap,IntKind.signed,IntKind.bits]
 have w1:∀ z:Int,0<=z->z < 256->z % 256 = z:=λz h1 h2=>Int.emod_eq_of_lt h1 h2
 simp
 refine ⟨?_,?_,?_⟩ <;> omega
def yK (m:List (ByteArray × Value)) (st:List dp):Prop:=∀ K,(∀ x∈K,iC x)->(assoc (iX K) m).getD (.int .i64 0) = .int .i64 (if K∈st then ((st.idxOf K:Nat):Int) + 1 else 0)
theorem yK.start:yK [] []:=λK _=>by simp [assoc]
theorem yK.put {m:List (ByteArray × Value)} {st:List dp} {K:dp} (h:yK m st) (hK:∀ x∈K,iC x) (hn:K∉st):yK (bA (iX K) (.int .i64 ((st.length + 1:Nat):Int)) m) (st ++ [K]):=λM hM=>by
 rw [dy]
 by_cases e:iX M = iX K
 ·have:=HP hM hK e
  subst this
  rw [UJ rfl,UJ (by simp),List.idxOf_append,UE hn]
  simp
 ·rw [UE e,h M hM]
  have hne:M≠K:=λh=>e (by rw [h])
  by_cases e2:M∈st
  ·rw [UJ e2,UJ (by simp [e2]),List.idxOf_append,UJ e2]
  ·rw [UE e2,UE (by simp [e2,hne])]
end Go.V
namespace Go.Proofs.YtndaepmjkbmjmaaGreatDoor
variable {w:Ws} {L:List au} {a:Wr} {l c:Nat} {K:List ai}
theorem SZ (hr:aX (hp w) K a l) (hK:∀ x∈K,iC x) (hne:K≠[]) (hb:l * 16<=140737488355328) :
  ay Tryz.prog KE [.slice a l c] w λv w'=>v = .string (iX K)/\Gr w w':=by
 have hl:=hr.1
 refine FE ⟨λo n c z w'=>∃ j:Nat,z = j/\j<=l/\n = (oe (K.take j)).length/\St w' (own 1 o n c ((oe (K.take j)).map SB) :: all w),λ_ _ _ z _=>l - z.toNat,⟨0,rfl,UM _,rfl,az 1 (St.all w)⟩,?_⟩
 rintro _ o _ c1 _ w1 ⟨j,rfl,hj,rfl,h⟩
 have s1:sub (hp w) (hp w1):=bj 1 h.l
 refine aa (λh1=>?_) λh1=>?_
 ·have h1:j < l:=by have:=Uz h1; omega
  obtain ⟨x,ad,hx,rfl,cx⟩:=iB hr h1
  have hxs:=hK x (UC hx)
  refine ak rfl h1 ⟨_,_,cx _ s1,af h λk3 w2 h=>aI h rfl (by simp [aH]) λw3 h=>?_⟩
  have r3:av (hp w3) (aM k3) [.int .i64 x.prod,.int .i64 x.dot]:=ag 0 h.l
  refine ⟨_,r3.cell0 (sub.refl _),_,r3.cell (sub.refl _) (j:=1) rfl,_,r3.cell (sub.refl _) (j:=1) rfl,by show (0:Int)<=8; decide,?_⟩
  refine af h λk4 w4 h=>?_
  rw [TP hxs] at h
  have hkl:=FM (K.take j)
  rw [U0] at hkl
  refine (zc (n:=3) (us:=(oe (K.take j)).map SB) (news:=(yJ x).map SB) aL (rfl:ah Ty _ = .slice _) (rfl:ah Ty _ = .slice _) rfl rfl rfl (h.pick 3 [2,0]) rfl (by show 0 < 1; decide) (.inr ⟨_,rfl,ag 0 h.l⟩) (λu hu=>by obtain ⟨b,_,rfl⟩:=UU.1 hu; rfl) (by show ((oe (K.take j)).length + 3) * 1<=_; omega) (by omega)).mono ?_
  rintro _ w5 ⟨o2,c2,rfl,h⟩
  have e:oe (K.take (j + 1)) = oe (K.take j) ++ yJ x:=by rw [UI,hx,VT,KN]
  refine ⟨_,_,_,rfl,⟨by omega,by omega⟩,⟨j + 1,by simp,h1,by rw [e,UG]; rfl,?_⟩,bK h1⟩
  rw [e,U1]
  exact h.pick 3 [0,2]
 ·have h1:j = l:=by have:=Uy h1; omega
  subst h1
  rw [<- hl,UZ] at h ⊢
  have hlen:0 < ((oe K).map SB).length:=by
   rw [UH,FM]
   have:=VY.2 hne; omega
  obtain ⟨ad,rfl⟩:=e_ h hlen
  have hcv:=run_convert_bytes_back (P:=Tryz.prog) w1 Hu np Mr ad c1 (oe K) Fk Kz kO λj hj=>y7 h rfl (by rw [UD,UB hj]; rfl)
  exact ⟨_,_,hcv,Ev.refl _,_,rfl,rfl,h.aR⟩
end Go.Proofs.YtndaepmjkbmjmaaGreatDoor
namespace Go.V
abbrev HQ (kt ka:Nat) (o:Wr) (c:Nat) (asked int:Int) (m:List (ByteArray × Value)) (ss:List SQ) (L:List au):List au :=
 aS kt [.slice o ss.length c,.int .i64 asked,.int .i64 int,.map (some ka)] :: own 2 o ss.length c (GX ss) :: mapA ka m :: aT (Jm ss) :: aT (HO ss) :: L
def kf (ss:List SQ) (b:Wr) (d:Nat) (K:dp):List SQ:=if K∈dg ss then ss else ss ++ [(((b,d),K),((none,0),[]))]
theorem DX (ss:List SQ) (b:Wr) (d:Nat) (K:dp):dg (kf ss b d K) = ya (dg ss) K:=by
 unfold kf ya; split <;> simp [dg]
theorem jt (ss:List SQ):(dg ss).length = ss.length:=UH _
theorem RL {ss:List SQ} {K:dp} (h:K∈dg ss):∃ q,ss[(dg ss).idxOf K]? = some q/\q.1.2 = K:=by
 have h1:=List.idxOf_lt_length_of_mem h
 rw [jt] at h1
 refine ⟨ss[(dg ss).idxOf K],UB h1,?_⟩
 have h2:(dg ss)[(dg ss).idxOf K]'(by rw [jt]; exact h1) = K:=List.getElem_idxOf _
 unfold dg at h2 ⊢
 rw [List.getElem_map] at h2
 exact h2
theorem DY {h:Hp} {o:Wr} {ss:List SQ} {i:Nat} {q:SQ} (r:fp o (GX ss) h) (hq:ss[i]? = some q):∃ ad,o = some ad/\av h (ad.add (cR i 2)) (KM q):=by
 rcases r with e | ⟨ad,rfl,r⟩
 ·have h1:=congrArg List.length e
  rw [Jn,VB] at h1
  have:=(UA.1 hq).1; omega
 ·exact ⟨ad,rfl,bZ (n:=2) (λ_=>rfl) ss ad r i q hq⟩
theorem DZ {ss:List SQ} {i:Nat} {q:SQ} (hq:ss[i]? = some q):(Jm ss)[i]? = some (b_ 2 tv q.1):=by unfold Jm; rw [UD,hq]; rfl
theorem PF {ss:List SQ} {i:Nat} {q:SQ} (hq:ss[i]? = some q):(HO ss)[i]? = some (b_ 2 MW q.2):=by unfold HO; rw [UD,hq]; rfl
theorem D0 {q:Lq ai} {h:Hp} (ha:b_ 2 tv q h):aX h q.2 q.1.1 q.2.length:=DS rfl (cE ha)
end Go.V
namespace Go.Proofs.YtndaepmjkbmjmaaGreatDoor
variable {w:Ws} {L:List au}
theorem FN {kt ka c l d:Nat} {o b:Wr} {asked int:Int} {m:List (ByteArray × Value)} {ss:List SQ} {K:dp} (h:St w (HQ kt ka o c asked int m ss (own 2 b l d (tv K) :: L)))
  (hK:yK m (dg ss)) (hne:K≠[]) (hsm:∀ x∈K,iC x) (ha:0<=asked/\asked < 4611686018427387904) (hi:0<=int/\int < 4611686018427387904) (hn:ss.length<=300) (hl:l * 16<=140737488355328) :
  ay Tryz.prog tU [.pointer (some (aM kt)),.slice b l d] w λv w'=>v = .int .i64 ((dg ss).idxOf K:Nat)/\∃ o' c' m',yK m' (ya (dg ss) K) /\
   St w' (HQ kt ka o' c' (asked + 1) (int + ((kf ss b d K).length - ss.length:Nat)) m' (kf ss b d K) L):=by
 have hKl:l = K.length:=by have:=ir (h.pick 6 [5]); rw [fP] at this; omega
 have hl0:0 < l:=by rw [hKl]; exact VY.2 hne
 have hz:K[0]? = some K[0]:=UB (by omega)
 refine qu ⟨_,(ag 0 h.l).cell (sub.refl _) (j:=1) rfl,⟨by omega,by omega⟩,?_⟩
 show st1 w ((aM kt).add 1) _ _
 rw [aV]
 refine bC h (by simp) λw1 h=>?_
 obtain ⟨h5,s5,ho5⟩:=OM 5 h.l
 have hrK:aX (hp w1) K b l:=(DS hKl.symm (cE ho5)).mono s5
 refine (SZ hrK hsm hne hl).mono ?_
 rintro _ w2 ⟨rfl,g2⟩
 have h:=h.gr g2
 have hrK:=hrK.mono g2
 clear s5 ho5
 refine ⟨_,rfl,λu=>K∉dg ss/\St u (HQ kt ka o c (asked + 1) int m ss (own 2 b l d (tv K) :: L)),?_,?_⟩
 ·intro w3 hd
  have h:=h.eq (aE hd)
  have hrK:aX (hp w3) K b l:=hrK.mono (Gr.drawn hd)
  have rt:av (hp w3) (aM kt) [.slice o ss.length c,.int .i64 (asked + 1),.int .i64 int,.map (some ka)]:=ag 0 h.l
  have lk:aU Tryz.prog (Instr.lookup yC (.map (some ka)) (.string (iX K)) false) w3 λv w'=>v = .int .i64 (if K∈dg ss then (((dg ss).idxOf K:Nat):Int) + 1 else 0)/\w' = w3:=by
   refine (bU (κ:=ByteArray) aL (rfl:ah Ty _ = .map _ _) kO rfl rfl (h.pick 3 [2]) (iX K)).mono ?_
   rintro _ _ ⟨rfl,rfl⟩
   exact ⟨hK K hsm,rfl⟩
  refine ⟨λu=>Gr w3 u,Gr.refl _,_,λu s=>rt.cell s (j:=3) rfl,lk.mono ?_⟩
  rintro _ w5 ⟨rfl,e5⟩
  rw [e5]
  refine ⟨_,rfl,λu=>Gr w3 u,Gr.refl _,λ_ h=>h,aa (λh1=>?_) λh1=>?_⟩
  rotate_left
  ·refine ⟨λhm=>?_,h⟩
   rw [UJ hm] at h1
   have:=Uy h1; omega
  have hm:K∈dg ss:=VI λhn=>by rw [UE hn] at h1; exact absurd (Uz h1) (by omega)
  obtain ⟨q,hq,hqK⟩:=RL hm
  have hil:=(UA.1 hq).1
  obtain ⟨ad,rfl,rs⟩:=DY (ee 1 h.l) hq
  obtain ⟨h6,s6,ho6⟩:=od (h.pick 4 [3]).l (DZ hq)
  have hrq:aX (hp w3) K q.1.1.1 q.1.2.length:=by have:=(D0 ho6).mono s6; rwa [hqK] at this ⊢
  have hql:q.1.2.length = l:=by rw [hqK,hKl]
  obtain ⟨x,ad2,hx,hb2,cx⟩:=iB hrK hl0
  obtain ⟨y,ad3,hy,hb3,cy⟩:=iB hrq (by omega:0 < q.1.2.length)
  rw [hx] at hy; cases hy
  rw [RB] at cx cy
  refine ⟨_,_,_,λu s=>rt.cell0 s,_,λu s=>rt.cell s (j:=3) rfl,gk hb2 hl0 ⟨_,_,cx,lk.mono ?_⟩⟩
  rintro _ w10 ⟨rfl,e10⟩
  rw [e10,UJ hm]
  have e1:(((dg ss).idxOf K:Nat):Int) + 1 - 1 = (((dg ss).idxOf K:Nat):Int):=by omega
  refine ⟨_,rfl,λu=>Gr w3 u,Gr.refl _,λ_ h=>h,⟨by omega,by omega⟩,?_⟩
  rw [e1]
  refine ak rfl hil ⟨_,_,_,λu s=>rs.cell0 s,gk hb3 (by omega) ⟨_,_,cy,_,λu _=>HM u _ _ x x,_,rfl,fb (by simp) ⟨_,rt.cell (sub.refl _) (j:=3) rfl,lk.mono ?_⟩⟩⟩
  rintro _ w15 ⟨rfl,e15⟩
  rw [e15,UJ hm]
  refine ⟨_,rfl,⟨by omega,by omega⟩,by rw [e1],some ad,c,m,?_,?_⟩
  ·unfold ya; rw [UJ hm]; exact hK
  ·unfold kf; rw [UJ hm,Vu]
   rw [show int + ((0:Nat):Int) = int by omega]
   exact h.pick 6 [0,1,2,3,4]
 clear h hrK
 rintro _ w16 ⟨hm,h⟩
 refine ⟨_,(ag 0 h.l).cell (sub.refl _) (j:=2) rfl,⟨by omega,by omega⟩,?_⟩
 show st1 w16 ((aM kt).add 2) _ _
 rw [aV]
 refine bC h (by simp) λw17 h=>?_
 refine ⟨_,_,_,(ag 0 h.l).cell0 (sub.refl _),af h λk7 w18 h=>?_⟩
 refine (aW (us:=GX ss) aL (rfl:ah Ty _ = .slice _) (rfl:ah Ty _ = .slice _) rfl rfl rfl (h.pick 3 [0,2,1]) rfl (by simp [aH]) (by show (ss.length + 1) * 48<=_; omega) (by omega)).mono ?_
 rintro _ w19 ⟨o7,c7,rfl,h⟩
 refine ⟨_,_,_,rfl,bC (h.pick 3 [2,0]) (by simp) λw20 h=>?_⟩
 intro w21 hd
 have h:=h.eq (aE hd)
 have h:St w21 (aS kt [.slice o7 (ss.length + 1) c7,.int .i64 (asked + 1),.int .i64 (int + 1),.map (some ka)] :: own 2 o7 (ss.length + 1) c7 (GX ss ++ [.slice b l d,.slice none 0 0]) :: mapA ka m :: aT (Jm ss) :: aT (HO ss) :: own 2 b l d (tv K) :: L):=h
 have rt:av (hp w21) (aM kt) [.slice o7 (ss.length + 1) c7,.int .i64 (asked + 1),.int .i64 (int + 1),.map (some ka)]:=ag 0 h.l
 refine ⟨λu=>Gr w21 u,Gr.refl _,_,λu s=>rt.cell s (j:=3) rfl,_,_,_,λu s=>rt.cell0 s,(cN (κ:=ByteArray) aL (rfl:ah Ty _ = .map _ _) kO (h.pick 3 [2,0,1]) (iX K) _).mono ?_⟩
 rintro _ w24 h
 have hK2:=hK.put hsm hm
 rw [jt] at hK2
 refine ⟨_,(ag 1 h.l).cell (sub.refl _) (j:=3) rfl,(bU (κ:=ByteArray) aL (rfl:ah Ty _ = .map _ _) kO rfl rfl h (iX K)).mono ?_⟩
 rintro _ w25 ⟨rfl,e25⟩
 rw [e25]
 have e1:=hK2 K hsm
 have e2:[K].idxOf K = 0:=by simp
 rw [UJ (by simp),List.idxOf_append,UE hm,e2,Vr,jt] at e1
 have hnS:kf ss b d K = ss ++ [(((b,d),K),((none,0),[]))]:=by unfold kf; rw [UE hm]
 have hiK:ya (dg ss) K = dg ss ++ [K]:=by unfold ya; rw [UE hm]
 refine ⟨_,e1,⟨by omega,by omega⟩,?_,o7,c7,bA (iX K) (.int .i64 ((ss.length + 1:Nat):Int)) m,?_,?_⟩
 ·rw [List.idxOf_eq_length hm,jt]
  show Value.int .i64 _ = _
  rw [show ((ss.length:Nat):Int) + 1 - 1 = (ss.length:Int) by omega]
 ·rw [hiK]; exact hK2
 ·rw [hnS]
  have h:=St.snoc ((az 2 h).pick 7 [0,5,1,2,3,4,6])
  have h:=(St.snoc (h.pick 6 [5,4,0,1,2,3])).pick 5 [3,4,2,0,1]
  have e3:GX (ss ++ [(((b,d),K),((none,0),[]))]) = GX ss ++ [.slice b l d,.slice none 0 0]:=by rw [MX,hKl]; rfl
  have e4:Jm (ss ++ [(((b,d),K),((none,0),[]))]) = Jm ss ++ [own 2 b l d (tv K)]:=by rw [hKl]; simp [Jm,b_]
  have e5:HO (ss ++ [(((b,d),K),((none,0),[]))]) = HO ss ++ [own 2 none 0 0 []]:=by simp [HO,b_,MW]
  have e6:(ss ++ [(((b,d),K),(((none,0),[]):Lq aN))]).length = ss.length + 1:=by simp
  show St w24 (aS kt [.slice o7 _ c7,_,.int .i64 (int + _),_] :: own 2 o7 _ c7 _ :: _ :: _ :: _ :: L)
  rw [e3,e4,e5,e6,show ((ss.length + 1 - ss.length:Nat):Int) = 1 by omega]
  exact h
end Go.Proofs.YtndaepmjkbmjmaaGreatDoor
namespace Go.V
section
variable {g:ae} {K:dp} {x:ai} {s:Int} {i:Nat}
theorem aq.gB (h:aq g):g.T<=65/\g.N<=65/\g.prods.length<=97/\2<=g.prods.length/\1<=g.T/\2<=g.N:=by
 obtain ⟨_,h1,h2,_⟩:=h
 have ht:0 < g.terms.length:=by have:=(UA.1 h1.1).1; exact this
 exact ⟨h1.2.2.1,h1.2.2.2.1,h2.2.1,h2.1,ht,h1.2.1⟩
theorem aq.sym (h:aq g) {p:aO} (hp:p∈g.prods) (hs:s∈p.right):1<=s/\s < g.T + g.N:=by
 obtain ⟨_,h1,h2,p0,hp0,_,hr,_⟩:=h
 obtain ⟨n,hn⟩:=Vf hp
 cases n with
 | zero =>
  rw [hp0] at hn; cases hn
  rw [hr,U2] at hs
  have:=h2.2.2.2
  have ht:0 < g.terms.length:=by have:=(UA.1 h1.1).1; exact this
  have hT:g.T = g.terms.length:=rfl
  omega
 | succ n =>
  have hm:p∈g.prods.drop 1:=by
   refine UC (i:=n) ?_
   rw [Vb,Nat.add_comm]; exact hn
  have:=(h2.2.2.1 p hm).2 s hs
  exact ⟨this.1,this.2.1⟩
theorem qz (hc:aq g) (hf:∀ x∈K,tT g x) (h0:0<=s) (hne:bx g K s≠[]):1<=s/\s < g.T + g.N:=by
 obtain ⟨x,hx⟩:=List.exists_mem_of_ne_nil _ hne
 obtain ⟨y,h1,h2,_⟩:=kP.1 hx
 obtain ⟨p,hp,_,h3⟩:=MG (h1.fit hf) h2 h0
 exact hc.sym (UC hp) (UC h3)
theorem FO (hp:g.prods.length<=97) (hs:j9 K) (hf:∀ x∈K,tT g x) (hd:∀ x∈K,x.dot<=299):K.length<=29100:=by
 have:=nw (m:=(List.range 29100).map λn=>(⟨((n / 300:Nat):Int),((n % 300:Nat):Int)⟩ : ai)) hs.nodup λx hx=>by
  obtain ⟨h1,h2,p,h3,_⟩:=hf x hx
  have h4:=(UA.1 h3).1
  have h5:=hd x hx
  refine UU.2 ⟨x.prod.toNat * 300 + x.dot.toNat,U8.2 (by omega),?_⟩
  exact ai.ext' (by show (((x.prod.toNat * 300 + x.dot.toNat) / 300:Nat):Int) = _; omega) (by show (((x.prod.toNat * 300 + x.dot.toNat) % 300:Nat):Int) = _; omega)
 rwa [UH,Vw] at this
theorem MZ (hp:g.prods.length<=97) (hf:tT g x) (hd:x.dot < 65536):iC x:=by
 obtain ⟨h1,h2,p,h3,_⟩:=hf
 have h4:=(UA.1 h3).1
 exact ⟨h1,by omega,h2,hd⟩
theorem tZ (g:ae) (K:dp):(bS g K).Pairwise (· < ·):=(List.pairwise_lt_range (n:=g.T + g.N)).filter _
theorem PG {ks:List Int} (hc:aq g) (hf:∀ x∈K,tT g x) (hn:ks.Nodup) (hk:∀ s,s∈ks↔0<=s/\bx g K s≠[]):ks.mergeSort (λx y=>decide (x<=y)) = (bS g K).map Int.ofNat:=by
 have hp:=List.mergeSort_perm ks (λx y=>decide (x<=y))
 have h1:(ks.mergeSort λx y=>decide (x<=y)).Pairwise (·<=·):=by
  have:=List.pairwise_mergeSort (le:=λx y:Int=>decide (x<=y)) (λa b c h1 h2=>by simp at *; omega) (λa b=>by simp; omega) ks
  exact this.imp λh=>by simpa using h
 have h2:((bS g K).map Int.ofNat).Pairwise (·<=·):=by
  rw [Vx]
  exact (tZ g K).imp λh=>by simp; omega
 have n2:((bS g K).map Int.ofNat).Nodup:=by
  rw [Vz,Vx]
  exact (tZ g K).imp λh e=>by simp at e; omega
 have p2:ks.Perm ((bS g K).map Int.ofNat):=(List.perm_ext_iff_of_nodup hn n2).2 λs=>by
  rw [hk,UU]
  constructor
  ·rintro ⟨h0,hne⟩
   obtain ⟨_,h4⟩:=qz hc hf h0 hne
   refine ⟨s.toNat,Vo.2 ⟨U8.2 (by omega),?_⟩,by simp; omega⟩
   rw [UO,Int.toNat_of_nonneg h0]; exact hne
  ·rintro ⟨n,hm,rfl⟩
   exact ⟨by simp,Uz (Vo.1 hm).2⟩
 exact List.Perm.eq_of_pairwise (λa b _ _ h3 h4=>Int.le_antisymm h3 h4) h1 h2 (hp.trans p2)
end
section
variable {κ α : Type} [DecidableEq κ]
def Aj (s:κ) (ps:List (κ × Lq α)):Lq α:=(cW s ps).getD ((none,0),[])
theorem HR {ps:List (κ × Lq α)} (hn:(ps.map Prod.fst).Nodup) {s:κ} {q:Lq α} (hm:(s,q)∈ps):cW s ps = some q:=by
 induction ps with
 | nil=>simp at hm
 | cons x m ih =>
  obtain ⟨a,u⟩:=x
  rw [Vh,Vy] at hn
  unfold cW
  rcases UR.1 hm with e | hm2
  ·cases e; rw [UJ rfl]
  ·have:s≠a:=λe=>hn.1 (by subst e; exact UU.2 ⟨_,hm2,rfl⟩)
   rw [UE this]; exact ih hn.2 hm2
theorem M0 {sz:Nat} {f:List α->List Value} {ps:List (κ × Lq α)} (hn:(ps.map Prod.fst).Nodup) {ks:List κ} (hp:ks.Perm (ps.map Prod.fst)):(mO sz f ps).Perm (ks.map λs=>b_ sz f (Aj s ps)):=by
 have e:mO sz f ps = (ps.map Prod.fst).map λs=>b_ sz f (Aj s ps):=by
  unfold mO
  rw [V_]
  refine VO λx hx=>?_
  show b_ sz f x.2 = b_ sz f (Aj x.1 ps)
  unfold Aj
  rw [HR hn hx]; rfl
 rw [e]
 exact (hp.map _).symm
end
theorem M1 {w:Ws} {L M N:List au} (h:St w (aT M :: L)) (hp:M.Perm N):St w (aT N :: L):=St.flat.2 ((St.flat.1 h).perm (hp.append_right _))
theorem PH {w:Ws} {L M:List au} {A:au} (h:St w (aT (A :: M) :: L)):St w (A :: aT M :: L):=by
 have h1:St w (A :: (M ++ L)):=St.flat.1 h
 have h2:St w (M ++ (A :: L)):=h1.perm Vt.symm
 exact (St.flat.2 h2).swap
def D3 (es:List (List aN)):Nat:=(es.map List.length).sum
theorem Cw (es:List (List aN)) (x:List aN):D3 (es ++ [x]) = D3 es + x.length:=by unfold D3; simp
theorem ny {g:ae} {K:dp}:∀ (l:List Nat) (acc:List dp × List aN),(n_ g K l acc).2.length = acc.2.length + l.length
 | [],_=>rfl
 | s :: l,acc=>by
  show (n_ g K l _).2.length = _
  rw [ny l]; simp; omega
theorem M3 {ss:List SQ} {i:Nat} {q:SQ} (hq:ss[i]? = some q) (e:Lq aN):dg (ss.set i (q.1,e)) = dg ss/\Jm (ss.set i (q.1,e)) = Jm ss/\bm (ss.set i (q.1,e)) = (bm ss).set i e.2/\HO (ss.set i (q.1,e)) = (HO ss).set i (b_ 2 MW e):=by
 refine ⟨?_,?_,?_,?_⟩
 ·unfold dg; rw [VL]
  exact qo (by rw [UD,hq]; rfl)
 ·unfold Jm; rw [VL]
  exact qo (by rw [UD,hq]; rfl)
 ·unfold bm; rw [VL]
 ·unfold HO; rw [VL]
theorem PI {ss:List SQ} {i:Nat} {q:SQ} (hq:ss[i]? = some q) (e:Lq aN):(GX ss).set (i * 2 + 1) (cF e) = GX (ss.set i (q.1,e)) :=
 DW (f:=KM) (n:=2) (λ_=>rfl) ss i 1 q (q.1,e) _ hq (by decide) rfl
structure dh (g:ae) (ss:List SQ):Prop where
 dn:FA g ss.length
 ks:dg ss = (dI g ss.length).1
 es:bm ss = (dI g ss.length).2
structure KO (g:ae) (ss:List SQ) (m:List (ByteArray × Value)) (asked:Int) (i:Nat):Prop where
 ks:dg ss = (dI g i).1
 es:bm ss = (dI g i).2 ++ List.replicate (ss.length - i) []
 lt:∀ j,j < i->j < (dI g j).1.length
 le:ss.length<=256
 key:yK m (dg ss)
 ask:asked = 1 + (D3 (dI g i).2:Int)
structure FP (g:ae) (K:dp) (ss:List SQ) (m:List (ByteArray × Value)) (asked:Int) (i t:Nat) (es:List aN):Prop where
 ks:dg ss = (n_ g K ((bS g K).take t) ((dI g i).1,[])).1
 ed:es = (n_ g K ((bS g K).take t) ((dI g i).1,[])).2
 es:bm ss = (dI g i).2 ++ List.replicate (ss.length - i) []
 le:ss.length<=256
 key:yK m (dg ss)
 ask:asked = 1 + (D3 (dI g i).2:Int) + t
section
variable {g:ae} {K:dp} {ss:List SQ} {m m' : List (ByteArray × Value)} {asked:Int} {i t:Nat} {es:List aN}
theorem KO.start {b:Wr} {d:Nat} (h:yK m (ya [] [⟨0,0⟩])):KO g (kf [] b d [⟨0,0⟩]) m 1 0:=by
 have e:kf [] b d [⟨0,0⟩] = [(((b,d),[⟨0,0⟩]),((none,0),[]))]:=by simp [kf,dg]
 have e2:ya [] [(⟨0,0⟩ : ai)] = [[⟨0,0⟩]]:=by simp [ya]
 rw [e2] at h
 rw [e]
 exact ⟨rfl,rfl,λj hj=>by omega,by simp,h,rfl⟩
theorem KO.inner (h:KO g ss m asked i) (hK:(dI g i).1[i]? = some K):FP g K ss m asked i 0 [] :=
 ⟨h.ks,rfl,h.es,h.le,h.key,by rw [h.ask]; omega⟩
theorem FP.next (h:FP g K ss m asked i t es) {s:Nat} (hs:(bS g K)[t]? = some s) (hi:i<=ss.length) {b:Wr} {d:Nat} (hk:yK m' (ya (dg ss) (bx g K s))) (hle:(kf ss b d (bx g K s)).length<=256) :
  FP g K (kf ss b d (bx g K s)) m' (asked + 1) i (t + 1) (es ++ [⟨(s:Int),(((dg ss).idxOf (bx g K s):Nat):Int)⟩]):=by
 have e:=Fy (g:=g) (K:=K) (acc:=((dI g i).1,[])) hs
 refine ⟨?_,?_,?_,hle,by rw [DX]; exact hk,by rw [h.ask]; omega⟩
 ·rw [DX,e,h.ks]
 ·rw [e,h.ed,h.ks]
 ·unfold kf
  split
  ·exact h.es
  ·have:bm (ss ++ [(((b,d),bx g K s),(((none,0),[]):Lq aN))]) = bm ss ++ [[]]:=by simp [bm]
   rw [this,h.es,UG,List.length_singleton,show ss.length + 1 - i = (ss.length - i) + 1 by omega,List.replicate_succ',UK]
theorem FP.done (h:FP g K ss m asked i (bS g K).length es) (hb:∀ j,j < i->j < (dI g j).1.length) (hK:(dI g i).1[i]? = some K) (hes:(dI g i).2.length = i) (hi:i < ss.length) {q:SQ} (hq:ss[i]? = some q) (e:Lq aN) (he:e.2 = es) :
  KO g (ss.set i (q.1,e)) m asked (i + 1):=by
 have hs:=M3 hq e
 have hk:=h.ks
 have hd:=h.ed
 rw [UZ] at hk hd
 have hb1:=gl hK
 refine ⟨by rw [hs.1,hb1,hk],?_,λj hj=>?_,by rw [Vj]; exact h.le,by rw [hs.1]; exact h.key,?_⟩
 ·rw [hs.2.2.1,h.es,hb1,he,<- hd,Vj,VE _ _ (by omega),hes,Vu,show ss.length - i = (ss.length - (i + 1)) + 1 by omega,V6,Wb,UK]
  rfl
 ·by_cases e2:j = i
  ·subst e2; exact (UA.1 hK).1
  ·exact hb j (by omega)
 ·rw [hb1,Cw,h.ask,ny]
  simp; omega
end
theorem D4 {g:ae}:∀ i,D3 (dI g i).2<=i * (g.T + g.N)
 | 0=>UM _
 | i + 1=>by
  cases h:(dI g i).1[i]? with
  | none=>rw [nu h,V0]; exact U7 (D4 i) (Nat.le_add_right _ _)
  | some K =>
   rw [gl h,Cw,ny,V0]
   have h1:(bS g K).length<=g.T + g.N:=by
    have:=Vm (λs=>decide (bx g K (s:Nat)≠[])) (List.range (g.T + g.N))
    rwa [Vw] at this
   have:=D4 (g:=g) i
   simp; omega
theorem M4 (ss:List SQ) (b:Wr) (d:Nat) (K:dp):ss.length<=(kf ss b d K).length/\(kf ss b d K).length<=ss.length + 1:=by
 unfold kf; split <;> simp
theorem PJ {κ α : Type} (ps:List (κ × Lq α)):(mV ps).map Prod.fst = ps.map Prod.fst:=by unfold mV; rw [V_]; rfl
theorem RM {κ α : Type} (ps:List (κ × Lq α)):(mV ps).length = ps.length:=UH _
abbrev z3:List Value:=[.slice none 0 0,.int .i64 0,.int .i64 0]
end Go.V
namespace Go.Proofs.YtndaepmjkbmjmaaGreatDoor
variable {w:Ws} {L:List au} {g:ae} {x:GA}
theorem PK (hg:gR (hp w) g x) (hb:iK g):ay Tryz.prog yb [.agg ⟨x.cells⟩] w λv w' =>
  (¬aq g/\v = .tuple #[.agg #[.slice none 0 0,.int .i64 0,.int .i64 0],.int .i64 1]/\Gr w w') \/
  (aq g/\RF g/\v = .tuple #[.agg #[.slice none 0 0,.int .i64 0,.int .i64 0],.int .i64 11]/\Gr w w') \/
  (aq g/\∃ (o:Wr) (ss:List SQ),dh g ss/\v = .tuple #[.agg #[.slice o ss.length ss.length,.int .i64 (1 + (D3 (bm ss):Int)),.int .i64 (ss.length:Int)],.int .i64 0] /\
   St w' (own 2 o ss.length ss.length (GX ss) :: aT (Jm ss) :: aT (HO ss) :: all w)):=by
 refine BH (cQ hg λk1 w1 gw hg B=>?_)
 refine af (St.all w1) λk2 w2 h=>?_
 refine ⟨_,_,_,_,_,_,_,_,_,_,_,_,_,B.row h.aR,(vj (hg.mono h.aR) hb).mono ?_⟩
 rintro _ w3 ⟨⟨rb,rfl,hrb⟩,g3⟩
 have h:=h.gr g3
 have s3:sub (hp w1) (hp w3):=h.aR
 refine ⟨_,rfl,aa (λh1=>?_) λh1=>?_⟩
 ·have hn:¬aq g:=λhc=>by rw [hrb.2 hc] at h1; simp at h1
  exact aI h rfl (by simp [aH]) λw4 h=>⟨_,_,_,_,_,(ag 0 h.l).at (sub.refl _) rfl,.inl ⟨hn,rfl,gw.trans h.aR⟩⟩
 have hc:aq g:=hrb.1 (by simpa using h1)
 obtain ⟨hT,hN,hP,hP2,hT1,hN2⟩:=hc.gB
 obtain ⟨_,_,_,_,_,_,hbr⟩:=id hb
 refine ⟨_,_,_,_,_,_,_,_,_,_,_,_,_,B.row s3,(SV (hg.mono s3) hb).mono ?_⟩
 rintro _ w5 ⟨km,kb,pb,rfl,hpb,h5⟩
 have h:=(St.on (N:=[_,_,_]) h5 h.l).pick 5 [3,0,1,2,4]
 obtain ⟨H,hlH,sH,h⟩:=St.freeze h
 have s1H:sub (hp w1) H:=bj 3 hlH
 have hm:QL H g km:=SX (hg.mono s1H) hpb hlH
 have sw:sub (hp w) H:=sub.trans gw s1H
 clear hlH h5 sH B s3 g3
 refine ⟨_,rfl,lY h λka w6 h=>?_⟩
 have h:=dz (κ:=ByteArray) h
 refine af h λkt w7 h=>af h λk3 w8 h=>?_
 have h:St w8 (own 2 (some (aM k3)) 1 1 (tv [⟨0,0⟩]) :: aS kt [.slice none 0 0,.int .i64 0,.int .i64 0,.map (some ka)] :: mapA ka ([] : List (ByteArray × Value)) :: aS k2 z3 :: [has H]):=dR (cs:=[]) h rfl rfl (US _)
 have h:=az 2 ((St.flat (M:=[])).2 ((St.flat (M:=[])).2 h))
 refine (FN (ss:=[]) (h.pick 8 [4,0,5,1,2,3,6,7]) yK.start (by simp) (by simp [iC]) ⟨by decide,by decide⟩ ⟨by decide,by decide⟩ (by simp) (by decide)).mono ?_
 rintro _ w9 ⟨rfl,o1,c1,m1,hk1,h⟩
 refine ⟨_,rfl,λz w'=>∃ (i:Nat) (ss:List SQ) (o:Wr) (c:Nat) (m:List (ByteArray × Value)) (asked:Int),z = i/\i<=ss.length/\KO g ss m asked i/\St w' (HQ kt ka o c asked ss.length m ss (aS k2 z3 :: [has H])),λz _=>300 - z.toNat,
  ⟨0,kf [] (some (aM k3)) 1 [⟨0,0⟩],o1,c1,m1,1,rfl,UM _,.start hk1,?_⟩,?_⟩
 ·have e:(0:Int) + (((kf [] (some (aM k3)) 1 [⟨0,0⟩]).length - ([] : List SQ).length:Nat):Int) = ((kf [] (some (aM k3)) 1 [⟨0,0⟩]).length:Int):=by simp
  rw [e] at h
  exact h
 clear h hk1
 rintro _ _ w10 ⟨i,ss,o,c,m,asked,rfl,hi,hB,h⟩
 have hlen:ss.length<=256:=hB.le
 refine ⟨_,_,_,(ag 0 h.l).cell0 (sub.refl _),aa (λh1=>?_) λh1=>?_⟩
 rotate_left
 ·have h1:i = ss.length:=by have:=Uy h1; omega
  subst h1
  have hkl:=jt ss
  have hes:=hB.es
  rw [Vu,List.replicate_zero,U3] at hes
  have hA:dh g ss:=⟨⟨by rw [<- hB.ks,hkl],hlen,hB.lt⟩,hB.ks,hes⟩
  refine ⟨_,_,_,(ag 0 h.l).cell0 (sub.refl _),fO (fh (dj (h.pick 2 [1])) ⟨_,_,_,rfl,?_⟩)⟩
  have h:=ff (h.pick 7 [1,0,3,4,5,6])
  refine bC (h.pick 2 [1,0]) (by simp) λw31 h=>?_
  have r31:av (hp w31) (aM kt) ([.slice (eJ o 0 ss.length 2) ss.length ss.length,.int .i64 asked,.int .i64 (ss.length:Int)] ++ [.map (some ka)]):=ag 0 h.l
  refine ⟨_,_,_,_,_,r31.take.at (sub.refl _) rfl,aI (h.pick 6 [4,1,2,3,5]) rfl (by simp [aH]) λw32 h=>⟨_,_,_,_,_,(ag 0 h.l).at (sub.refl _) rfl,.inr (.inr ⟨hc,eJ o 0 ss.length 2,ss,hA,?_,?_⟩)⟩⟩
  ·rw [hes,<- hB.ask]
  ·exact St.on (N:=[_,_,_]) (h.pick 5 [1,2,3,4]) (bY sw)
 have h1:i < ss.length:=by have:=Uz h1; omega
 obtain ⟨q,hq⟩ : ∃ q,ss[i]? = some q:=⟨_,UB h1⟩
 obtain ⟨K,hKq⟩ : ∃ K,K = q.1.2:=⟨_,rfl⟩
 have hK:(dI g i).1[i]? = some K:=by rw [<- hB.ks]; unfold dg; rw [UD,hq,hKq]; rfl
 have hI:=l_ (g:=g) (by omega) i
 have hKm:=UC hK
 have hKf:=hI.fit K hKm
 have hKd:∀ x∈K,x.dot<=i:=hI.dots i K hK
 have hKl:=FO hP (hI.QV K hKm) hKf λx hx=>by have:=hKd x hx; omega
 have htot:=D4 (g:=g) i
 have htot2:D3 (dI g i).2<=33280:=U7 htot (Nat.mul_le_mul (show i<=256 by omega) (show g.T + g.N<=130 by omega))
 have hes:=HH (g:=g) i (by rw [<- hB.ks,jt]; omega)
 obtain ⟨ad,rfl,rs⟩:=DY (ee 1 h.l) hq
 obtain ⟨h6,s6,ho6⟩:=od (h.pick 4 [3]).l (DZ hq)
 have hrK:aX (hp w10) K q.1.1.1 q.1.2.length:=by have:=(D0 ho6).mono s6; rwa [hKq]
 have hql:q.1.2.length = K.length:=by rw [hKq]
 clear ho6 s6
 have s10:sub H (hp w10):=bj 6 h.l
 refine ⟨_,_,_,(ag 0 h.l).cell0 (sub.refl _),ak rfl h1 ⟨_,_,_,rs.cell0 (sub.refl _),(KL (hm.mono s10) hrK hKf (by rw [hql]; omega) hbr).mono ?_⟩⟩
 rintro _ w11 ⟨kk,ps,rfl,hps,hnd,hks,h2⟩
 have h:=h2.IV h.l
 clear rs hrK h2 s10
 have hkeys:ps.length<=130:=by
  have:=nw (m:=(List.range 130).map Int.ofNat) hnd λs hs=>by
   obtain ⟨h0,hne⟩:=(hks s).1 hs
   obtain ⟨_,h4⟩:=qz hc hKf h0 hne
   exact UU.2 ⟨s.toNat,U8.2 (by omega),by simp; omega⟩
  rwa [UH,UH,Vw] at this
 refine ⟨_,rfl,(KI aL (rfl:ah Ty _ = .map _ _) h).mono ?_⟩
 rintro _ w12 ⟨r,rfl,h⟩
 refine ⟨_,rfl,λo n c' w'=>∃ ks:List Int,n = ks.length/\St w' (own 1 o n c' (iv ks) :: Cu kk r (mV ps) ks :: aT (mO 2 tv ps) :: HQ kt ka (some ad) c asked ss.length m ss (aS k2 z3 :: [has H])),λ_ n _ _=>ps.length - n,⟨[],rfl,az 1 h⟩,?_⟩
 clear h
 rintro _ o16 _ c16 w13 ⟨ks,rfl,h⟩
 refine (MR (h.pick 2 [1,0])).mono ?_
 rintro _ w14 (⟨rfl,hperm,h⟩ | ⟨s,u,hsm,rfl,hkl,h⟩)
 rotate_left
 ·rw [RM] at hkl
  refine .inr ⟨s,u,rfl,(KJ h).mono ?_⟩
  rintro _ w27 ⟨rfl,e27⟩
  rw [e27]
  refine ⟨s,u,rfl,af (KG h) λk49 w28 h=>?_⟩
  refine (aW (us:=iv ks) aL (rfl:ah Ty _ = .slice _) (rfl:ah Ty _ = .slice _) rfl rfl rfl (h.pick 3 [0,2,1]) rfl (by simp [aH]) (by show (ks.length + 1) * 8<=_; omega) (by omega)).mono ?_
  rintro _ w29 ⟨o29,c29,rfl,h⟩
  refine ⟨_,_,_,rfl,⟨ks ++ [s],by simp,?_⟩,by dsimp only; omega⟩
  have e:iv (ks ++ [s]) = iv ks ++ [.int .i64 s]:=by simp [iv]
  rw [e]
  exact h.pick 3 [0,2]
 rw [PJ] at hperm
 obtain ⟨S,hS⟩ : ∃ S,S = bS g K:=⟨_,rfl⟩
 have hksS:=PG (ks:=ks) hc hKf (hperm.nodup_iff.2 hnd) λs=>by rw [hperm.mem_iff]; exact hks s
 rw [<- hS] at hksS
 have hpS:(S.map Int.ofNat).Perm (ps.map Prod.fst):=by rw [<- hksS]; exact (List.mergeSort_perm ks _).trans hperm
 have hksl:ks.length = S.length:=by rw [hperm.length_eq,<- hpS.length_eq,UH]
 have hSl:S.length<=130:=by have:=hpS.length_eq; rw [UH,UH] at this; omega
 refine .inl ⟨rfl,(Jf (h.pick 2 [1,0]) (by omega)).mono ?_⟩
 rintro _ w15 ⟨rfl,h⟩
 rw [hksS] at h
 have h:=M1 (h.pick 3 [2,0,1]) (M0 hnd hpS)
 refine ⟨rfl,λo n c' z w'=>∃ (t:Nat) (es:List aN) (ss' : List SQ) (o' : Wr) (c'' : Nat) (m' : List (ByteArray × Value)) (asked' : Int),z = t/\t<=S.length/\n = es.length/\FP g K ss' m' asked' i t es/\ss.length<=ss'.length /\
   St w' (own 2 o n c' (MW es) :: own 1 o16 ks.length c16 (iv (S.map Int.ofNat)) :: mapA kk (mV ps) :: aT (((S.map Int.ofNat).drop t).map λs=>b_ 2 tv (Aj s ps)) :: HQ kt ka o' c'' asked' ss'.length m' ss' (aS k2 z3 :: [has H])),λ_ _ _ z _=>S.length - z.toNat,
  ⟨0,[],ss,some ad,c,m,asked,rfl,UM _,rfl,hB.inner hK,US _,az 2 (h.pick 3 [1,2,0])⟩,?_⟩
 clear h hq hKq hql
 rintro _ o17 _ c17 _ w16 ⟨t,es,ss',o',c'',m',asked',rfl,ht,rfl,hT2,hle,h⟩
 have hle2:ss'.length<=256:=hT2.le
 have hesl:es.length = t:=by
  rw [hT2.ed,ny,U0,<- hS,V2 ht]; simp
 refine aa (λh3=>?_) λh3=>?_
 ·have h3:t < S.length:=by have:=Uz h3; omega
  obtain ⟨s,hs⟩ : ∃ s,S[t]? = some s:=⟨_,UB h3⟩
  have hsI:(S.map Int.ofNat)[t]? = some (s:Int):=by rw [UD,hs]; rfl
  obtain ⟨oad,hoa,hoc⟩:=bX (h.pick 2 [1]) (j:=t) (v:=.int .i64 (s:Int)) (by unfold iv; rw [UD,hsI]; rfl)
  have hkn:bx g K (s:Int)≠[]:=rD s (by rw [<- hS]; exact UC hs)
  have hsk:(s:Int)∈ps.map Prod.fst:=(hks s).2 ⟨by omega,hkn⟩
  obtain ⟨Q,hQ⟩ : ∃ Q,cW (s:Int) ps = some Q:=Option.isSome_iff_exists.1 (MT.2 hsk)
  have hQD:Aj (s:Int) ps = Q:=by unfold Aj; rw [hQ]; rfl
  have hQ2:Q.2 = bx g K (s:Int):=by rw [<- hps s (by omega)]; unfold gq; rw [hQ]
  have hdrop:(S.map Int.ofNat).drop t = (s:Int) :: (S.map Int.ofNat).drop (t + 1):=by
   rw [Vk (by rw [UH]; exact h3)]
   congr 1
   exact (UA.1 hsI).2
  have hkl:=Jk g K
  have hkl2:(bx g K (s:Int)).length<=(cls g K).length:=Cv g _ _
  have hQl:Q.2.length<=29300:=by rw [hQ2]; exact U7 hkl2 (U7 hkl (by omega))
  refine aB hoa (by omega) ⟨_,hoc,(bU (κ:=Int) aL (rfl:ah Ty _ = .map _ _) bp rfl rfl (h.pick 3 [2]) (s:Int)).mono ?_⟩
  rintro _ w17 ⟨rfl,e17⟩
  rw [e17]
  rw [hdrop,Vh,hQD] at h
  have h:=PH (h.pick 4 [3,0,1,2])
  refine ⟨Q.1.1,Q.2.length,Q.1.2,by rw [gA,hQ]; rfl,(MQ h (by omega)).mono ?_⟩
  rintro _ w18 ⟨o18,rfl,h⟩
  rw [hQ2,qp Fw] at h ⊢
  have hsmall:∀ x∈bx g K (s:Int),iC x:=λx hx=>by
   refine MZ hP (Fx hKf (Vs _) x hx) ?_
   obtain ⟨y,h1,_,rfl⟩:=kP.1 hx
   have:=h1.dot hKd (Vs _)
   show y.dot + 1 < 65536
   omega
  have hask:=hT2.ask
  refine ⟨_,_,_,rfl,(FN (h.pick 10 [5,6,7,8,9,0,1,2,3,4]) hT2.key hkn hsmall ⟨by omega,by omega⟩ ⟨by omega,by omega⟩ (by omega) (by rw [<- hQ2]; omega)).mono ?_⟩
  rintro _ w19 ⟨rfl,o2',c2',m2',hk2,h⟩
  have hnl:=M4 ss' o18 (bx g K (s:Int)).length (bx g K (s:Int))
  have eint:(ss'.length:Int) + (((kf ss' o18 (bx g K (s:Int)).length (bx g K (s:Int))).length - ss'.length:Nat):Int) = ((kf ss' o18 (bx g K (s:Int)).length (bx g K (s:Int))).length:Int):=by omega
  rw [eint] at h
  refine ⟨_,rfl,af h λk38 w20 h=>?_⟩
  refine (aW (us:=MW es) aL (rfl:ah Ty _ = .slice _) (rfl:ah Ty _ = .slice _) rfl rfl rfl (h.pick 8 [0,7,1,2,3,4,5,6]) rfl (by simp [aH]) (by show (es.length + 1) * 16<=_; omega) (by omega)).mono ?_
  rintro _ w21 ⟨o20,c20,rfl,h⟩
  refine ⟨_,_,_,rfl,_,_,_,(ag 2 h.l).cell0 (sub.refl _),aa (λh4=>?_) λh4=>?_⟩
  ·have h4:256 < (kf ss' o18 (bx g K (s:Int)).length (bx g K (s:Int))).length:=by have:=Uz h4; omega
   refine aI (h.pick 12 [10,11]) rfl (by simp [aH]) λw22 h=>⟨_,_,_,_,_,(ag 0 h.l).at (sub.refl _) rfl,.inr (.inl ⟨hc,⟨i,K,t + 1,hK,λj hj=>?_,?_⟩,rfl,sub.trans sw (bj 1 h.l)⟩)⟩
   ·by_cases e:j = i
    ·subst e; exact (UA.1 hK).1
    ·exact hB.lt j (by omega)
   ·rw [hS] at hs
    rw [Fy hs,<- hT2.ks]
    have:=jt (kf ss' o18 (bx g K (s:Int)).length (bx g K (s:Int)))
    rw [DX] at this
    show 256 < (ya _ _).length
    omega
  ·have h4:(kf ss' o18 (bx g K (s:Int)).length (bx g K (s:Int))).length<=256:=by have:=Uy h4; omega
   refine ⟨⟨by omega,by omega⟩,⟨t + 1,es ++ [⟨(s:Int),(((dg ss').idxOf (bx g K (s:Int)):Nat):Int)⟩],_,o2',c2',m2',_,by simp,h3,by simp,hT2.next (by rw [<- hS]; exact hs) (by omega) hk2 h4,by omega,?_⟩,bK h3⟩
   have e:MW (es ++ [⟨(s:Int),(((dg ss').idxOf (bx g K (s:Int)):Nat):Int)⟩]) = MW es ++ [.int .i64 (s:Int),.int .i64 (((dg ss').idxOf (bx g K (s:Int)):Nat):Int)]:=by unfold MW; rw [U_]; rfl
   rw [e]
   exact h.pick 10 [0,8,9,7,2,3,4,5,6]
 ·have h3:t = S.length:=by have:=Uy h3; omega
  intro w23 hd
  have h:=h.eq (aE hd)
  obtain ⟨q',hq'⟩ : ∃ q',ss'[i]? = some q':=⟨_,UB (by omega)⟩
  have rt:av (hp w23) (aM kt) [.slice o' ss'.length c'',.int .i64 asked',.int .i64 (ss'.length:Int),.map (some ka)]:=ag 4 h.l
  obtain ⟨ad',rfl,_⟩:=DY (ee 5 h.l) hq'
  refine ⟨λu=>Gr w23 u,Gr.refl _,_,_,_,λu s=>rt.cell0 s,gM (fh (dj h) ⟨_,_,_,rfl,Gr.refl _,ak rfl (by omega) ?_⟩)⟩
  have h:=ff h
  rw [add_add,aF]
  refine j4 (h.pick 6 [5,0,4]) rfl (by rw [Jn]; omega) λw26 h=>?_
  rw [h3] at hT2
  have hen:(eJ o17 0 es.length 2,es.length,es).2.2 = es:=rfl
  have e1:=PI hq' ((eJ o17 0 es.length 2,es.length),es)
  have e2:=M3 hq' ((eJ o17 0 es.length 2,es.length),es)
  have h:=(St.MB (n:=i) (h.pick 6 [1,5,0,2,3,4]) (by unfold HO; rw [UH]; omega)).pick 5 [2,1,3,4,0]
  refine ⟨⟨by omega,by omega⟩,⟨i + 1,ss'.set i (q'.1,((eJ o17 0 es.length 2,es.length),es)),some ad',c'',m',asked',by simp,by rw [Vj]; omega,(by rw [<- hS]; exact hT2:FP g K ss' m' asked' i (bS g K).length es).done hB.lt hK hes (by omega) hq' _ rfl,?_⟩,by dsimp only; omega⟩
  unfold HQ
  rw [Vj,e2.2.1,e2.2.2.2,<- e1]
  exact h
end Go.Proofs.YtndaepmjkbmjmaaGreatDoor


namespace Go.V
theorem PL (a:Wr) (m sz:Nat):eJ a 0 m sz = a:=by
 unfold eJ; split
 ·rfl
 ·rw [aF,Nat.zero_mul]
  cases a <;> simp [Addr.add]
def FQ (h:Hp) (ss:List SQ) (o:Wr):Prop:=∀ (i:Nat) q,ss[i]? = some q->∃ ad,o = some ad/\av h (ad.add (cR i 2)) (KM q)/\aX h q.1.2 q.1.1.1 q.1.2.length/\aX h q.2.2 q.2.1.1 q.2.2.length
theorem FQ.mono {h h' : Hp} {ss:List SQ} {o:Wr} (s:sub h h') (r:FQ h ss o):FQ h' ss o:=λi q hq=>by
 obtain ⟨ad,h1,h2,h3,h4⟩:=r i q hq
 exact ⟨ad,h1,h2.mono s,h3.mono s,h4.mono s⟩
theorem PM {h:Hp} {xs:List aN} {a:Wr} {l:Nat} (hl:xs.length = l) (r:fp a (MW xs) h):aX h xs a l:=by
 refine ⟨hl,λi x hx=>?_⟩
 rcases r with e | ⟨ad,rfl,hc⟩
 ·have h1:=congrArg List.length e
  rw [PE,VB] at h1
  have:=(UA.1 hx).1; omega
 ·exact ⟨ad,MV x,rfl,bZ (n:=2) (λ_=>rfl) xs ad hc i x hx,rfl⟩
theorem kR {h:Hp} {xs:List aN} {a:Wr} {l:Nat} (r:aX h xs a l) {i:Nat} (hi:i < l):∃ x ad,xs[i]? = some x/\a = some ad/\av h (ad.add (cR i 2)) (MV x):=by
 obtain ⟨x,ad,vs,hx,ha,hr,e⟩:=r.get hi
 rw [show vs = MV x from e] at hr
 exact ⟨x,ad,hx,ha,hr⟩
theorem zd {h:Hp} {L:List au} {ss:List SQ} {o:Wr} {n c:Nat} (hs:aG (own 2 o n c (GX ss) :: aT (Jm ss) :: aT (HO ss) :: L) h):FQ h ss o:=λi q hq=>by
 obtain ⟨ad,e,r⟩:=DY (ee 0 hs) hq
 obtain ⟨h1,s1,a1⟩:=od (aQ hs) (DZ hq)
 obtain ⟨h2,s2,a2⟩:=od (aQ (aQ hs)) (PF hq)
 exact ⟨ad,e,r,(D0 a1).mono s1,(PM rfl (cE a2)).mono s2⟩
section
variable {g:ae} {K:dp} {ss:List SQ} {asked:Int} {i s:Nat} {es:List aN}
theorem RN (hc:aq g) (hf:∀ x∈K,tT g x):bx g K 0 = []:=by
 refine VI λh=>?_
 have:=qz (s:=0) hc hf (Int.le_refl _) h
 omega
end
theorem FR {α : Type} [nQ α] {h:Hp} {xs:List α} {b:Nat} {vs:List Value} (r:av h ⟨b,0,none⟩ vs) (hx:∀ (i:Nat) x,xs[i]? = some x->rd h x ((vs.drop (i * nQ.n α)).take (nQ.n α))):aX h xs (some ⟨b,0,none⟩) xs.length :=
 ⟨rfl,λi x hi=>by
  refine ⟨_,_,rfl,λj v hj=>?_,hx i x hi⟩
  rw [VK] at hj
  split at hj
  ·rw [Vb] at hj
   rw [add_add,aF]
   exact r _ v hj
  ·cases hj⟩
def rK (g:ae) (ss:List SQ) (ask int f:Int):Prop :=
 (¬aq g/\ss = []/\ask = 0/\int = 0/\f = 1)\/(aq g/\RF g/\ss = []/\ask = 0/\int = 0/\f = 11)\/(aq g/\dh g ss/\ask = 1 + (D3 (bm ss):Int)/\int = (ss.length:Int)/\f = 0)
theorem rK.one {g:ae} {ss ss' : List SQ} {a i f a' i' f' : Int} (h:rK g ss a i f) (h' : rK g ss' a' i' f'):dg ss = dg ss'/\bm ss = bm ss'/\a = a'/\i = i'/\f = f'/\ss.length = ss'.length:=by
 rcases h with ⟨h1,rfl,rfl,rfl,rfl⟩ | ⟨h1,hb,rfl,rfl,rfl,rfl⟩ | ⟨h1,hA,rfl,rfl,rfl⟩
 ·rcases h' with ⟨h2,rfl,rfl,rfl,rfl⟩ | ⟨h2,_⟩ | ⟨h2,_⟩
  ·exact ⟨rfl,rfl,rfl,rfl,rfl,rfl⟩
  ·exact absurd h2 h1
  ·exact absurd h2 h1
 ·rcases h' with ⟨h2,_⟩ | ⟨h2,_,rfl,rfl,rfl,rfl⟩ | ⟨h2,hA,_⟩
  ·exact absurd h1 h2
  ·exact ⟨rfl,rfl,rfl,rfl,rfl,rfl⟩
  ·exact (Af hA.dn hb).elim
 ·rcases h' with ⟨h2,_⟩ | ⟨h2,hb,_⟩ | ⟨h2,hA',rfl,rfl,rfl⟩
  ·exact absurd h1 h2
  ·exact (Af hA.dn hb).elim
  ·have e:=FB hA.dn hA'.dn
   have e2:bm ss = bm ss':=by rw [hA.es,hA'.es,e]
   refine ⟨by rw [hA.ks,hA'.ks,e],e2,by rw [e2],by rw [e],rfl,e⟩
theorem dh.BI {g:ae} {ss:List SQ} (hc:aq g) (h:dh g ss):∀ q∈ss,q.1.2.length<=29100/\q.2.2.length<=130:=λq hq=>by
 obtain ⟨hT,hN,hP,hP2,_,_⟩:=hc.gB
 have hI:=l_ (g:=g) (by omega) ss.length
 obtain ⟨j,hj⟩:=Vf hq
 have e:(dI g ss.length).1[j]? = some q.1.2:=by rw [<- h.ks]; unfold dg; rw [UD,hj]; rfl
 have e2:(dI g ss.length).2[j]? = some q.2.2:=by rw [<- h.es]; unfold bm; rw [UD,hj]; rfl
 have hm:=UC e
 have hjl:=(UA.1 hj).1
 have h256:=h.dn.2.1
 refine ⟨FO hP (hI.QV _ hm) (hI.fit _ hm) λx hx=>by have:=hI.dots j _ e x hx; omega,?_⟩
 have key:∀ i,∀ es∈(dI g i).2,es.length<=g.T + g.N:=by
  intro i
  induction i with
  | zero=>intro es hes; simp [dI] at hes
  | succ i ih =>
   intro es hes
   cases hi:(dI g i).1[i]? with
   | none=>rw [nu hi] at hes; exact ih es hes
   | some K =>
    rw [gl hi] at hes
    rcases UF.1 hes with hes | hes
    ·exact ih es hes
    ·rw [U2] at hes
     subst hes
     rw [ny]
     have:=Vm (λs=>decide (bx g K (s:Nat)≠[])) (List.range (g.T + g.N))
     rw [Vw] at this
     simpa [bS] using this
 have:=key _ _ (UC e2)
 omega
end Go.V
namespace Go.Proofs.YtndaepmjkbmjmaaGreatDoor
section
variable {w:Ws} {L:List au} {g:ae} {x:GA}
theorem nA (hg:gR (hp w) g x) (hb:iK g):ay Tryz.prog yb [.agg ⟨x.cells⟩] w λv w'=>∃ (o:Wr) (c:Nat) (ss:List SQ) (ask int f:Int),v = .tuple #[.agg #[.slice o ss.length c,.int .i64 ask,.int .i64 int],.int .i64 f]/\rK g ss ask int f/\St w' (own 2 o ss.length c (GX ss) :: aT (Jm ss) :: aT (HO ss) :: all w):=by
 refine (PK hg hb).mono ?_
 have z:∀ {w' : Ws},Gr w w'->St w' (own 2 none 0 0 (GX []) :: aT (Jm []) :: aT (HO []) :: all w):=λgr=>az 2 ((St.flat (M:=[])).2 ((St.flat (M:=[])).2 (St.here gr)))
 rintro _ w' (⟨hn,rfl,gr⟩ | ⟨hc,hbig,rfl,gr⟩ | ⟨hc,o,ss,hA,rfl,h⟩)
 ·exact ⟨none,0,[],0,0,1,rfl,.inl ⟨hn,rfl,rfl,rfl,rfl⟩,z gr⟩
 ·exact ⟨none,0,[],0,0,11,rfl,.inr (.inl ⟨hc,hbig,rfl,rfl,rfl,rfl⟩),z gr⟩
 ·exact ⟨o,_,ss,_,_,0,rfl,.inr (.inr ⟨hc,hA,rfl,rfl,rfl⟩),h⟩
end
end Go.Proofs.YtndaepmjkbmjmaaGreatDoor


namespace Go.V
section
variable {g:ae} {K:dp} {st:List dp} {n i j:Nat}
theorem PN {k:dp}:(ya st k)[st.idxOf k]? = some k:=by
 unfold ya
 split
 ·rename_i h
  rw [UB (List.idxOf_lt_length_of_mem h),List.getElem_idxOf]
 ·rename_i h
  rw [List.idxOf_eq_length h,UP (US _),Vu]; rfl
theorem FT:∀ (l:List Nat) (st:List dp) (es:List aN) (k s:Nat),l[k]? = some s->∃ to:Nat,(n_ g K l (st,es)).2[es.length + k]? = some ⟨(s:Int),(to:Int)⟩/\(n_ g K l (st,es)).1[to]? = some (bx g K (s:Int))
 | [],_,_,_,_,h=>by simp at h
 | a :: l,st,es,0,s,h=>by
  simp at h; subst h
  refine ⟨st.idxOf (bx g K (a:Int)),?_,?_⟩
  ·show (n_ g K l (ya st (bx g K (a:Int)),es ++ [⟨(a:Int),_⟩])).2[es.length + 0]? = _
   have pre:∀ (l:List Nat) (st:List dp) (es:List aN) (k:Nat) e,es[k]? = some e->(n_ g K l (st,es)).2[k]? = some e:=by
    intro l
    induction l with
    | nil=>exact λst es k e h=>h
    | cons b l ih =>
     intro st es k e h
     exact ih _ _ k e (by rw [UQ (UA.1 h).1]; exact h)
   exact pre l _ _ _ _ (by rw [Wo,UP (US _),Vu]; rfl)
  ·show (n_ g K l (ya st (bx g K (a:Int)),es ++ [⟨(a:Int),_⟩])).1[_]? = _
   exact vt l _ _ _ _ PN
 | a :: l,st,es,k + 1,s,h=>by
  obtain ⟨to,h1,h2⟩:=FT l (ya st (bx g K (a:Int))) (es ++ [⟨(a:Int),((st.idxOf (bx g K (a:Int)):Nat):Int)⟩]) k s (by simpa using h)
  refine ⟨to,?_,h2⟩
  rw [UG,List.length_singleton] at h1
  rw [show es.length + (k + 1) = es.length + 1 + k by omega]
  exact h1
theorem KP {i n:Nat} (h:i<=n) (j:Nat) (e:List aN) (he:(dI g i).2[j]? = some e):(dI g n).2[j]? = some e:=by
 induction h with
 | refl=>exact he
 | @step m _ ih =>
  cases hi:(dI g m).1[m]? with
  | none=>rw [nu hi]; exact ih
  | some K=>rw [gl hi,UQ (UA.1 ih).1]; exact ih
theorem Ak {ss:List SQ} (h:dh g ss) {i:Nat} {q:SQ} (hq:ss[i]? = some q):(dI g i).1[i]? = some q.1.2/\q.2.2 = (n_ g q.1.2 (bS g q.1.2) ((dI g i).1,[])).2/\∀ (j:Nat) K,(dI g (i + 1)).1[j]? = some K->∃ r,ss[j]? = some r/\r.1.2 = K:=by
 have hil:=(UA.1 hq).1
 have hlt:=h.dn.2.2 i hil
 have e1:(dI g ss.length).1[i]? = some q.1.2:=by rw [<- h.ks]; unfold dg; rw [UD,hq]; rfl
 obtain ⟨K,hK⟩ : ∃ K,(dI g i).1[i]? = some K:=⟨_,UB hlt⟩
 have e2:=vu (Nat.le_of_lt hil) i K hK
 rw [e1] at e2
 cases e2
 refine ⟨hK,?_,λj K' hj=>?_⟩
 ·have hb:=gl hK
  have hes:=HH (g:=g) i (by omega)
  have e3:(dI g (i + 1)).2[i]? = some (n_ g q.1.2 (bS g q.1.2) ((dI g i).1,[])).2:=by
   rw [hb,UP (by omega),hes,Vu]; rfl
  have e4:=KP hil i _ e3
  rw [<- h.es] at e4
  unfold bm at e4
  rw [UD,hq] at e4
  exact Option.some.inj e4
 ·have e5:=vu hil j K' hj
  rw [<- h.ks] at e5
  unfold dg at e5
  rw [UD] at e5
  cases hr:ss[j]? with
  | none=>rw [hr] at e5; cases e5
  | some r=>rw [hr] at e5; exact ⟨r,rfl,Option.some.inj e5⟩
end
section
variable {g:ae} {K K' : dp} {s s' : Int} {ss:List SQ}
theorem kS (hc:aq g) (h:dh g ss) {i:Nat} {q:SQ} (hq:ss[i]? = some q) {m:Nat} {e:aN} (he:q.2.2[m]? = some e):1<=e.sym/\e.sym < g.T + g.N/\∃ (j:Nat) (r:SQ),e.to = j/\1<=j/\ss[j]? = some r/\r.1.2 = bx g q.1.2 e.sym/\bx g q.1.2 e.sym≠[]:=by
 obtain ⟨hK,hE,hto⟩:=Ak h hq
 obtain ⟨_,_,_,hP2,_,_⟩:=hc.gB
 have hI:=l_ (g:=g) (by omega) i
 have hKf:=hI.fit _ (UC hK)
 have hml:m < (bS g q.1.2).length:=by
  have:=(UA.1 he).1
  rw [hE,ny] at this
  simpa using this
 obtain ⟨to,h1,h2⟩:=FT (g:=g) (K:=q.1.2) (bS g q.1.2) (dI g i).1 [] m _ (UB hml)
 rw [<- hE] at h1
 have h1:q.2.2[m]? = some ⟨(((bS g q.1.2)[m] : Nat):Int),(to:Int)⟩:=by simpa using h1
 rw [he] at h1
 have h1:=Option.some.inj h1
 have hne:=rD (g:=g) (K:=q.1.2) _ (List.getElem_mem hml)
 obtain ⟨r,hr,hrK⟩:=hto to _ (by rw [gl hK]; exact h2)
 have hsy:=qz hc hKf (Vs _) hne
 rw [h1]
 refine ⟨hsy.1,hsy.2,to,r,rfl,Nat.pos_of_ne_zero λh0=>?_,hr,hrK,hne⟩
 subst h0
 have e0:(dI g ss.length).1[0]? = some [⟨0,0⟩]:=vu (UM _) 0 _ rfl
 rw [<- h.ks] at e0
 unfold dg at e0
 rw [UD,hr] at e0
 have e0:r.1.2 = [⟨0,0⟩]:=Option.some.inj e0
 rw [hrK] at e0
 have hm:(⟨0,0⟩ : ai)∈bx g q.1.2 (((bS g q.1.2)[m] : Nat):Int):=by rw [e0]; simp
 obtain ⟨y,hy,_,e⟩:=kP.1 hm
 injection e with _ e2
 have:=(hy.fit hKf).2.1
 omega
end
class jW (κ : Type) extends MVal κ where
 a:κ->Int
 b:κ->Int
 val2:∀ k,toMVal.val k = .agg ⟨[.int .i64 (a k),.int .i64 (b k)]⟩
 ext:∀ k l,a k = a l->b k = b l->k = l
section
variable {P:Program} {κ : Type} [DecidableEq κ] [jW κ] {kt ti:TypeId} {f0 f1:Field}
structure SC (P:Program) (kt ti:TypeId) (f0 f1:Field):Prop where
 ht:P.underlying kt = some (.struct (P.fieldsOf kt))
 hf:P.fieldsOf kt = #[f0,f1]
 hi:P.underlying ti = some (.int .i64)
 ht0:f0.type = ti
 ht1:f1.type = ti
 n0 : f0.name ≠ "_"
 n1 : f1.name ≠ "_"
 o0:f0.offset = 0
 o1:f1.offset = 1
 sih:P.stoodInHeld kt = false
theorem D5 (T:SC P kt ti f0 f1) (w:Ws) (x y u v:Int):(Op.equal kt (.agg #[.int .i64 x,.int .i64 y]) (.agg #[.int .i64 u,.int .i64 v])).run P w = .ok (decide (x = u/\y = v)) w:=by
 have p0:∀ (v u:Value) (w:Ws),(part ti #[v,u] 0).run P w = .ok v w:=λv u w=>by simp [part,dw T.hi,dQ,Kd.isAgg]
 have p1:∀ (v u:Value) (w:Ws),(part ti #[v,u] 1).run P w = .ok u w:=λv u w=>by simp [part,dw T.hi,dQ,Kd.isAgg]
 have eqI:∀ n m d w,(Op.equalIn (d + 1) ti (.int .i64 n) (.int .i64 m)).run P w = .ok (n == m) w:=λn m d w=>run_equalIn_int w d _ _ _ _ _ T.hi
 show (Op.equalIn (9998 + 1 + 1) kt _ _).run P w = _
 rw [run_equalIn_agg w (9998 + 1) kt _ _ T.ht T.sih,T.hf]
 have n0:=T.n0
 have n1:=T.n1
 have e:decide (x = u/\y = v) = (x == u && y == v):=by
  rw [Vn]; simp
 rw [e]
 unfold Op.eqFields
 simp only [ne_eq,n0,not_false_eq_true,if_true,Sem.run_bind,T.ht0,T.o0,p0,Result.andThen_ok,eqI]
 cases hq:(x == u)
 ·simp
 ·unfold Op.eqFields
  simp only [ne_eq,n1,not_false_eq_true,if_true,Sem.run_bind,T.ht1,T.o1,p1,Result.andThen_ok,eqI,Bool.not_true,Wa,if_false]
  cases hn:(y == v)
  ·simp
  ·unfold Op.eqFields; simp
theorem FU (T:SC P kt ti f0 f1) (w:Ws) (k:κ):∀ (es:List MapEntry) (m:List (κ × Value)) (i:Nat),es.map (λe=>(e.key,e.val)) = m.map (λx=>(MVal.val x.1,x.2)) ->
  ∃ r,(Instr.findAsking kt (MVal.val k) es i).run P w = .ok r w/\(r.map (·.2)) = assoc k m/\(∀ j v,r = some (j,v)->i<=j/\j < i + m.length/\(m[j - i]?).map (·.1) = some k/\∀ u,bA k u m = m.set (j - i) (k,u))/\(r = none->∀ u,bA k u m = m ++ [(k,u)])
 | [],[],i,_=>⟨none,rfl,rfl,λj v h=>(by cases h),λ_ u=>rfl⟩
 | [],_ :: _,i,h=>by simp at h
 | _ :: _,[],i,h=>by simp at h
 | e :: es,(a,v) :: m,i,h=>by
  simp only [Vh,List.cons.injEq,Prod.mk.injEq] at h
  obtain ⟨⟨h1,h2⟩,h3⟩:=h
  have he:(Op.equal kt (MVal.val k) e.key).run P w = .ok (decide (k = a)) w:=by
   rw [h1,jW.val2,jW.val2]
   have:=D5 T w (jW.a k) (jW.b k) (jW.a a) (jW.b a)
   have e2:decide (jW.a k = jW.a a/\jW.b k = jW.b a) = decide (k = a):=decide_eq_decide.2 ⟨λ⟨h1,h2⟩=>jW.ext k a h1 h2,λh=>by rw [h]; exact ⟨rfl,rfl⟩⟩
   rw [e2] at this
   exact this
  unfold Instr.findAsking
  simp only [Sem.run_bind,he,Result.andThen_ok]
  by_cases hk:k = a
  ·subst hk
   refine ⟨some (i,e.val),by simp,by simp [assoc,h2],λj u hj=>?_,λhn=>by cases hn⟩
   cases hj
   simp [bA]
  ·obtain ⟨r,q1,q2,q3,q4⟩:=FU T w k es m (i + 1) h3
   refine ⟨r,by simp [hk,q1],by simp [assoc,hk,q2],λj u hj=>?_,λhn u=>by simp [bA,hk,q4 hn u]⟩
   obtain ⟨p1,p2,p3,p4⟩:=q3 j u hj
   have e1:j - i = (j - (i + 1)) + 1:=by omega
   refine ⟨by omega,by simp; omega,by rw [e1]; simpa using p3,λu=>by rw [e1]; simp [bA,hk,p4 u]⟩
theorem qi.two (T:SC P kt ti f0 f1):qi P kt κ where
 check:=λw em k=>by
  rw [jW.val2]
  have hd:=T.ht
  rw [T.hf] at hd
  have p0:∀ (v u:Value) (w:Ws),(part ti #[v,u] 0).run P w = .ok v w:=λv u w=>by simp [part,dw T.hi,dQ,Kd.isAgg]
  have p1:∀ (v u:Value) (w:Ws),(part ti #[v,u] 1).run P w = .ok u w:=λv u w=>by simp [part,dw T.hi,dQ,Kd.isAgg]
  have ci:∀ (n:Nat) (z:Int) (w:Ws),(Instr.checkKey em (n + 1) ti (.int .i64 z)).run P w = .ok () w:=λn z w=>MapKept.run_checkKey (P:=P) (w:=w) T.hi (by exact rfl) em n
  show (Instr.checkKey em (9998 + 1 + 1) kt _).run P w = _
  unfold Instr.checkKey
  simp only [Sem.run_bind,run_underlying hd,Result.andThen_ok]
  have n0:=T.n0
  have n1:=T.n1
  simp [n0,n1,T.ht0,T.ht1,T.o0,T.o1,Sem.run_bind,p0,p1,ci]
 find:=λw k es m he=>by
  obtain ⟨r,q1,q2,q3,q4⟩:=FU T w k es m 0 he
  refine ⟨r,?_,q2,λj v hj=>?_,q4⟩
  ·have hd:=T.ht
   cases es with
   | nil =>
    cases m with
    | nil=>simp [Instr.findKey,run_underlying hd,Instr.findNow]; unfold Instr.findAsking at q1; simpa using q1
    | cons _ _=>simp at he
   | cons e es =>
    have hn:Instr.findNow (.struct (P.fieldsOf kt)) (MVal.val k) (e :: es) 0 = none:=by
     unfold Instr.findNow
     simp [Instr.sameNow]
    simp only [Instr.findKey,Sem.run_bind,run_underlying hd,Result.andThen_ok,hn]
    exact q1
  ·obtain ⟨_,p2,p3,p4⟩:=q3 j v hj
   rw [Nat.sub_zero] at p3 p4
   exact ⟨by omega,p3,p4⟩
 bits:=λk=>by rw [jW.val2]; simp [Instr.sameBits]
end
structure aj where
 st:Int
 sym:Int
deriving DecidableEq
instance:Inhabited aj:=⟨⟨0,0⟩⟩
instance:nQ aj:={ n:=2,rd:=λ_ x vs=>vs = [.int .i64 x.st,.int .i64 x.sym],mono:=λ_ h=>h,len:=λh=>by rw [h]; rfl }
instance:jW aj:={ val:=λk=>.agg ⟨[.int .i64 k.st,.int .i64 k.sym]⟩,inj:=λa b h=>by cases a; cases b; simp at h; obtain ⟨h1,h2⟩:=h; subst h1; subst h2; rfl,a:=aj.st,b:=aj.sym,val2:=λ_=>rfl,ext:=λk l h1 h2=>by cases k; cases l; cases h1; cases h2; rfl }
def Al (x:aj):List Value:=[.int .i64 x.st,.int .i64 x.sym]
def Cx (xs:List aj):List Value:=xs.flatMap Al
theorem PO (xs:List aj):(Cx xs).length = xs.length * 2:=kQ (f:=Al) (n:=2) (λ_=>rfl) xs
theorem PQ (xs ys:List aj):Cx (xs ++ ys) = Cx xs ++ Cx ys:=U_
theorem ze {h:Hp} {xs:List aj} {a:Wr} {l:Nat} (hl:xs.length = l) (r:fp a (Cx xs) h):aX h xs a l:=by
 refine ⟨hl,λi x hx=>?_⟩
 rcases r with e | ⟨ad,rfl,hc⟩
 ·have h1:=congrArg List.length e
  rw [PO,VB] at h1
  have:=(UA.1 hx).1; omega
 ·exact ⟨ad,Al x,rfl,bZ (n:=2) (λ_=>rfl) xs ad hc i x hx,rfl⟩
theorem qA {h:Hp} {xs:List aj} {a:Wr} {l:Nat} (r:aX h xs a l) {i:Nat} (hi:i < l):∃ x ad,xs[i]? = some x/\a = some ad/\av h (ad.add (cR i 2)) (Al x):=by
 obtain ⟨x,ad,vs,hx,ha,hr,e⟩:=r.get hi
 rw [show vs = Al x from e] at hr
 exact ⟨x,ad,hx,ha,hr⟩
def lC (ss:List SQ) (i:Nat) (s:Int):Option Int:=match ss[i]? with
 | none=>none
 | some q=>(q.2.2.find? λe=>decide (e.sym = s)).map (·.to)
def fi (g:ae) (i:Nat) (es:List aN):List aj:=(es.filter λe=>decide ((g.T:Int)<=e.sym)).map λe=>⟨(i:Int),e.sym⟩
def rM (g:ae) (ss:List SQ):Nat->List aj
 | 0=>[]
 | i + 1=>rM g ss i ++ (match ss[i]? with | some q=>fi g i q.2.2 | none=>[])
def bG (g:ae) (ss:List SQ):List aj:=rM g ss ss.length
def iD (g:ae) (ss:List SQ) (t:aj):List Int :=
 (if t = ⟨0,g.start⟩ then [0] else []) ++ (match lC ss t.st.toNat t.sym with
  | none=>[]
  | some j=>(match ss[j.toNat]? with | none=>[] | some q=>(q.2.2.filter λe=>decide (e.sym < (g.T:Int))).map (·.sym)))
def cX (ss:List SQ):Int->List Int->Int
 | q,[]=>q
 | q,s :: l=>match lC ss q.toNat s with
  | none=>-1
  | some j=>cX ss j l
section
variable {g:ae} {ss:List SQ}
theorem nB {i:Nat} {q:SQ} (hq:ss[i]? = some q):rM g ss (i + 1) = rM g ss i ++ fi g i q.2.2:=by
 show rM g ss i ++ (match ss[i]? with | some q=>fi g i q.2.2 | none=>[]) = _
 rw [hq]
theorem Cy {i:Nat} {es:List aN} {e:aN}:fi g i (es ++ [e]) = if (g.T:Int)<=e.sym then fi g i es ++ [⟨(i:Int),e.sym⟩] else fi g i es:=by
 unfold fi
 rw [Vi,U1]
 by_cases h:(g.T:Int)<=e.sym <;> simp [h]
theorem nC {i:Nat} {q:SQ} (hq:ss[i]? = some q) (s:Int):lC ss i s = (q.2.2.find? λe=>decide (e.sym = s)).map (·.to):=by unfold lC; rw [hq]
theorem Am (h:dh g ss) {i:Nat} {q:SQ} (hq:ss[i]? = some q):q.2.2.map (·.sym) = (bS g q.1.2).map Int.ofNat:=by
 obtain ⟨hK,hE,_⟩:=Ak h hq
 have key:∀ (l:List Nat) (st:List dp) (es:List aN),(n_ g q.1.2 l (st,es)).2.map (·.sym) = es.map (·.sym) ++ l.map Int.ofNat:=by
  intro l
  induction l with
  | nil=>intro st es; simp [n_]
  | cons a l ih =>
   intro st es
   show (n_ g q.1.2 l _).2.map _ = _
   rw [ih]; simp
 have:=key (bS g q.1.2) (dI g i).1 []
 rw [<- hE] at this
 simpa using this
theorem Jo:∀ {es:List aN} {k:Nat} {e:aN},(es.map (·.sym)).Nodup->es[k]? = some e->(es.find? λx=>decide (x.sym = e.sym)) = some e
 | [],k,e,_,h=>by simp at h
 | x :: es,0,e,_,h=>by simp at h; subst h; simp
 | x :: es,k + 1,e,hn,h=>by
  rw [Vh,Vy] at hn
  have h:es[k]? = some e:=by simpa using h
  have hne:x.sym≠e.sym:=λe2=>hn.1 (by rw [e2]; exact UU.2 ⟨e,UC h,rfl⟩)
  rw [List.find?_cons,U5 hne]
  exact Jo hn.2 h
theorem wV (h:dh g ss) {i:Nat} {q:SQ} (hq:ss[i]? = some q):(q.2.2.map (·.sym)).Nodup:=by
 rw [Am h hq,Vz,Vx]
 exact (tZ g q.1.2).imp λh e=>by simp at e; omega
theorem An (h:dh g ss) {i:Nat} {q:SQ} (hq:ss[i]? = some q) {k:Nat} {e:aN} (he:q.2.2[k]? = some e):lC ss i e.sym = some e.to:=by
 rw [nC hq,Jo (wV h hq) he]; rfl
theorem Jp {i:Nat} {s:Int} {j:Int} (h:lC ss i s = some j):∃ (q:SQ) (k:Nat) (e:aN),ss[i]? = some q/\q.2.2[k]? = some e/\e.sym = s/\e.to = j:=by
 unfold lC at h
 cases hq:ss[i]? with
 | none=>rw [hq] at h; cases h
 | some q =>
  rw [hq] at h
  simp only [Wj] at h
  obtain ⟨e,he,rfl⟩:=h
  obtain ⟨k,hk⟩:=Vf (List.mem_of_find?_eq_some he)
  have:=List.find?_some he
  exact ⟨q,k,e,rfl,hk,Uz this,rfl⟩
end
end Go.V
namespace Go.Proofs.YtndaepmjkbmjmaaGreatDoor
def mz:bh:={ rngs:=[],loops:=[],joins:=[],blocks:=[] }
theorem dq {a:Wr} {b c:Nat} {w:Ws} {R:Value->WP} (h:lV a b c none (some (b:Int)) (some (b:Int)) 1 λ(o1:Wr) (k1 k2:Nat)=>R (vS o1 k1 k2) w):ay Tryz.prog 107 [(.slice a b c)] w R:=rv Tryz.func107 mz (by kernel_rfl) h
def gP:bh:={ rngs:=[],loops:=[],joins:=[],blocks:=[] }
theorem gQ {a:Wr} {b c:Nat} {w:Ws} {R:Value->WP} (h:lV a b c none (some (b:Int)) (some (b:Int)) 3 λ(o1:Wr) (k1 k2:Nat)=>R (vS o1 k1 k2) w):ay Tryz.prog 108 [(.slice a b c)] w R:=rv Tryz.func108 gP (by kernel_rfl) h
abbrev kT:FuncId:=158
def wW:bh:={ rngs:=[],loops:=[(6,[(6,(.one .slice)),(23,(.one (.int .i64)))]),(12,[(9,(.one .slice)),(50,(.one (.int .i64)))])],joins:=[(11,[(9,(.one .slice))])],blocks:=[] }
theorem wX {a:Wr} {b c:Nat} {d:Wr} {e f:Nat} {g:Wr} {i j:Nat} {k:Int} {l:Wr} {m n:Nat} {w:Ws} {R:Value->WP} (h:new w (oC [vS a b c,vS d e f,vS g i j,iI k,vS l m n] 27) λk1 w1=>∃ o1 k2 k3 o2 k4 k5 o3 k6 k7 n1 o4 k8 k9,rA w1 (aM k1) 5 [vS o1 k2 k3,vS o2 k4 k5,vS o3 k6 k7,iI n1,vS o4 k8 k9]/\rE 200 [vG [vS o1 k2 k3,vS o2 k4 k5,vS o3 k6 k7,iI n1,vS o4 k8 k9]] w1 λv1 w2=>∃ o5 n2,v1 = vU [vP o5,iI n2]/\br (n2 != 0) (R (vU [vS none 0 0,iI n2]) w2) (rE 201 [vP o5] w2 λv2 w3=>∃ o6 k10 k11,v2 = vS o6 k10 k11/\∃ (x1:lP [(6,mL),(23,aD)]),∃ (x2:lN [(6,mL),(23,aD)]),x1 none 0 0 0 w3/\∀ (I1:Nat->Value) (o7:Wr) (k12 k13:Nat) (n3:Int) (w4:Ws),x1 o7 k12 k13 n3 w4->br (decide (n3 < (k10:Int))) (idx o6 k10 n3 2 λa1=>∃ n4 n5,rA w4 a1 2 [iI n4,iI n5]/\new w4 (oC [iI 0,iI 0] 184) λk14 w5=>cG w5 (aM k14) [iI n4,iI n5] λw6=>∃ (x3:lP [(9,mL)]),(∃ n6 n7,rA w6 (aM k14) 2 [iI n6,iI n7]/\∃ n8,cL w6 (Addr.add (aM k1) 3) (iI n8)/\∃ v3,Sem.run Proofs.Tryz.prog (fu BinOp.eql 184 (Operand.tmp 27) (Operand.tmp 30) (vG [iI n6,iI n7]) (vG [iI 0,iI n8])) w6 = Result.ok v3 w6/\∃ b1,v3 = vB b1/\br b1 (new w6 (oC [iI 0] 3) λk15 w7=>rS (jT 24 (Array.mk [vS none 0 0,vS (some (aM k15)) 1 1])) w7 λv4 w8=>∃ o8 k16 k17,v4 = vS o8 k16 k17/\x3 o8 k16 k17 w8) (x3 none 0 0 w6))/\∀ (I2:Nat->Value) (o9:Wr) (k18 k19:Nat) (w9:Ws),x3 o9 k18 k19 w9->∀ w10,drawn w9 w10->∃ (I3:WP),I3 w10/\nn o5 λa2=>∃ o10 k20 k21,(∀ w11,I3 w11->cL w11 (Addr.add a2 5) (vS o10 k20 k21))/\nn o5 λa3=>∃ o11,(∀ w12,I3 w12->cL w12 (Addr.add a3 8) (Value.map o11))/\∃ n9 n10,(∀ w13,I3 w13->rA w13 (aM k14) 2 [iI n9,iI n10])/\aU Proofs.Tryz.prog (Instr.lookup 180 (Value.map o11) (vG [iI n9,iI n10]) false) w10 λv5 w14=>∃ n11,v5 = iI n11/\∃ (I4:WP),I4 w14/\(∀ w15,I4 w15->I3 w15)/\idx o10 k20 n11 2 λa4=>∃ o12 k22 k23,(∀ w16,I4 w16->cL w16 (Addr.add a4 1) (vS o12 k22 k23))/\∃ (x4:lP [(9,mL),(50,aD)]),∃ (x5:lN [(9,mL),(50,aD)]),x4 o9 k18 k19 0 w14/\∀ (I5:Nat->Value) (o13:Wr) (k24 k25:Nat) (n12:Int) (w17:Ws),x4 o13 k24 k25 n12 w17->br (decide (n12 < (k22:Int))) (idx o12 k22 n12 2 λa5=>∃ n13 n14,rA w17 a5 2 [iI n13,iI n14]/\new w17 (oC [iI 0,iI 0] 56) λk26 w18=>cG w18 (aM k26) [iI n13,iI n14] λw19=>∃ n15,cL w19 (aM k26) (iI n15)/\∃ o14 k27 k28,cL w19 (aM k1) (vS o14 k27 k28)/\br (decide (n15 < (k27:Int))) (∃ n16,cL w19 (aM k26) (iI n16)/\new w19 (oC [iI n16] 3) λk29 w20=>rS (jT 24 (Array.mk [vS o13 k24 k25,vS (some (aM k29)) 1 1])) w20 λv6 w21=>∃ o15 k30 k31,v6 = vS o15 k30 k31/\aw (n12 + 1)/\x4 o15 k30 k31 (n12 + 1) w21/\x5 o15 k30 k31 (n12 + 1) w21 < x5 o13 k24 k25 n12 w17) (aw (n12 + 1)/\x4 o13 k24 k25 (n12 + 1) w19/\x5 o13 k24 k25 (n12 + 1) w19 < x5 o13 k24 k25 n12 w17)) (rE 107 [vS o13 k24 k25] w17 λv7 w22=>∃ o16 k32 k33,v7 = vS o16 k32 k33/\new w22 (oC [vS o16 k32 k33] 24) λk34 w23=>rS (jT 71 (Array.mk [vS o7 k12 k13,vS (some (aM k34)) 1 1])) w23 λv8 w24=>∃ o17 k35 k36,v8 = vS o17 k35 k36/\aw (n3 + 1)/\x1 o17 k35 k36 (n3 + 1) w24/\x2 o17 k35 k36 (n3 + 1) w24 < x2 o7 k12 k13 n3 w4)) (rE 202 [vS o7 k12 k13] w4 λv9 w25=>∃ o18 k37 k38,v9 = vS o18 k37 k38/\R (vU [vS o18 k37 k38,iI 0]) w25))):ay Tryz.prog 158 [(.agg #[(.slice a b c),(.slice d e f),(.slice g i j),(.int .i64 k),(.slice l m n)])] w R:=rv Tryz.func158 wW (by kernel_rfl) h
abbrev D6:FuncId:=163
def Ao:bh:={ rngs:=[],loops:=[],joins:=[],blocks:=[] }
theorem Ap {a:Wr} {b c:Nat} {d:Wr} {e f:Nat} {g:Wr} {i j:Nat} {k:Int} {l:Wr} {m n:Nat} {w:Ws} {R:Value->WP} (h:new w (oC [vS a b c,vS d e f,vS g i j,iI k,vS l m n] 27) λk1 w1=>∃ o1 k2 k3 o2 k4 k5 o3 k6 k7 n1 o4 k8 k9,rA w1 (aM k1) 5 [vS o1 k2 k3,vS o2 k4 k5,vS o3 k6 k7,iI n1,vS o4 k8 k9]/\rE 200 [vG [vS o1 k2 k3,vS o2 k4 k5,vS o3 k6 k7,iI n1,vS o4 k8 k9]] w1 λv1 w2=>∃ o5 n2,v1 = vU [vP o5,iI n2]/\br (n2 != 0) (R (vU [vS none 0 0,iI n2]) w2) (rE 201 [vP o5] w2 λv2 w3=>∃ o6 k10 k11,v2 = vS o6 k10 k11/\R (vU [vS o6 k10 k11,iI 0]) w3)):ay Tryz.prog 163 [(.agg #[(.slice a b c),(.slice d e f),(.slice g i j),(.int .i64 k),(.slice l m n)])] w R:=rv Tryz.func163 Ao (by kernel_rfl) h
abbrev HS:FuncId:=200
def D7:bh:={ rngs:=[],loops:=[(6,[(27,(.one (.int .i64)))]),(9,[(35,(.one (.int .i64)))])],joins:=[],blocks:=[] }
theorem D8 {a:Wr} {b c:Nat} {d:Wr} {e f:Nat} {g:Wr} {i j:Nat} {k:Int} {l:Wr} {m n:Nat} {w:Ws} {R:Value->WP} (h:new w (oC [vS a b c,vS d e f,vS g i j,iI k,vS l m n] 27) λk1 w1=>∃ o1 k2 k3 o2 k4 k5 o3 k6 k7 n1 o4 k8 k9,rA w1 (aM k1) 5 [vS o1 k2 k3,vS o2 k4 k5,vS o3 k6 k7,iI n1,vS o4 k8 k9]/\rE 26 [vG [vS o1 k2 k3,vS o2 k4 k5,vS o3 k6 k7,iI n1,vS o4 k8 k9]] w1 λv1 w2=>∃ o5 k10 k11 n2 n3 n4,v1 = vU [vG [vS o5 k10 k11,iI n2,iI n3],iI n4]/\new w2 (oC [vS none 0 0,iI 0,iI 0] 45) λk12 w3=>cG w3 (aM k12) [vS o5 k10 k11,iI n2,iI n3] λw4=>br (n4 != 0) (R (vU [vP none,iI n4]) w4) (∃ o6 k13 k14 o7 k15 k16 o8 k17 k18 n5 o9 k19 k20,rA w4 (aM k1) 5 [vS o6 k13 k14,vS o7 k15 k16,vS o8 k17 k18,iI n5,vS o9 k19 k20]/\∃ o10 k21 k22 n6 n7,rA w4 (aM k12) 3 [vS o10 k21 k22,iI n6,iI n7]/\new w4 (Obj.map (Array.mk []) 0) λk23 w5=>new w5 (oC [vS o6 k13 k14,vS o7 k15 k16,vS o8 k17 k18,iI n5,vS o9 k19 k20,vS o10 k21 k22,iI n6,iI n7,Value.map (some k23)] 279) λk24 w6=>∃ o11 k25 k26,cL w6 (aM k12) (vS o11 k25 k26)/\∃ (x1:lP [(27,aD)]),∃ (x2:lN [(27,aD)]),x1 0 w6/\∀ (I1:Nat->Value) (n8:Int) (w7:Ws),x1 n8 w7->br (decide (n8 < (k25:Int))) (idx o11 k25 n8 2 λa1=>∃ o12 k27 k28 o13 k29 k30,rA w7 a1 2 [vS o12 k27 k28,vS o13 k29 k30]/\new w7 (oC [vS none 0 0,vS none 0 0] 54) λk31 w8=>cG w8 (aM k31) [vS o12 k27 k28,vS o13 k29 k30] λw9=>∃ o14 k32 k33,cL w9 (Addr.add (aM k31) 1) (vS o14 k32 k33)/\∃ (x3:lP [(35,aD)]),∃ (x4:lN [(35,aD)]),x3 0 w9/\∀ (I2:Nat->Value) (n9:Int) (w10:Ws),x3 n9 w10->br (decide (n9 < (k32:Int))) (idx o14 k32 n9 2 λa2=>∃ n10 n11,rA w10 a2 2 [iI n10,iI n11]/\new w10 (oC [iI 0,iI 0] 56) λk34 w11=>cG w11 (aM k34) [iI n10,iI n11] λw12=>∀ w13,drawn w12 w13->∃ (I3:WP),I3 w13/\∃ o15,(∀ w14,I3 w14->cL w14 (Addr.add (aM k24) 8) (Value.map o15))/\∃ n12,(∀ w15,I3 w15->cL w15 (aM k34) (iI n12))/\∃ n13,(∀ w16,I3 w16->cL w16 (Addr.add (aM k34) 1) (iI n13))/\aU Proofs.Tryz.prog (Instr.mapUpdate 180 (Value.map o15) (vG [iI n8,iI n12]) (iI n13)) w13 λ(x5:Unit) (w17:Ws)=>aw (n9 + 1)/\x3 (n9 + 1) w17/\x4 (n9 + 1) w17 < x4 n9 w10) (aw (n8 + 1)/\x1 (n8 + 1) w10/\x2 (n8 + 1) w10 < x2 n8 w7)) (R (vU [vP (some (aM k24)),iI 0]) w7))):ay Tryz.prog 200 [(.agg #[(.slice a b c),(.slice d e f),(.slice g i j),(.int .i64 k),(.slice l m n)])] w R:=rv Tryz.func200 D7 (by kernel_rfl) h
abbrev vw:FuncId:=201
def sA:bh:={ rngs:=[],loops:=[(3,[(3,(.one .slice)),(14,(.one (.int .i64)))]),(6,[(3,(.one .slice)),(22,(.one (.int .i64)))])],joins:=[],blocks:=[] }
theorem sB {a:Wr} {w:Ws} {R:Value->WP} (h:nn a λa1=>∃ o1 k1 k2,cL w (Addr.add a1 5) (vS o1 k1 k2)/\∃ (x1:lP [(3,mL),(14,aD)]),∃ (x2:lN [(3,mL),(14,aD)]),x1 none 0 0 0 w/\∀ (I1:Nat->Value) (o2:Wr) (k3 k4:Nat) (n1:Int) (w1:Ws),x1 o2 k3 k4 n1 w1->br (decide (n1 < (k1:Int))) (idx o1 k1 n1 2 λa2=>∃ o3 k5 k6 o4 k7 k8,rA w1 a2 2 [vS o3 k5 k6,vS o4 k7 k8]/\new w1 (oC [vS none 0 0,vS none 0 0] 54) λk9 w2=>cG w2 (aM k9) [vS o3 k5 k6,vS o4 k7 k8] λw3=>∃ o5 k10 k11,cL w3 (Addr.add (aM k9) 1) (vS o5 k10 k11)/\∃ (x3:lP [(3,mL),(22,aD)]),∃ (x4:lN [(3,mL),(22,aD)]),x3 o2 k3 k4 0 w3/\∀ (I2:Nat->Value) (o6:Wr) (k12 k13:Nat) (n2:Int) (w4:Ws),x3 o6 k12 k13 n2 w4->br (decide (n2 < (k10:Int))) (idx o5 k10 n2 2 λa3=>∃ n3 n4,rA w4 a3 2 [iI n3,iI n4]/\new w4 (oC [iI 0,iI 0] 56) λk14 w5=>cG w5 (aM k14) [iI n3,iI n4] λw6=>∀ w7,drawn w6 w7->∃ (I3:WP),I3 w7/\∃ n5,(∀ w8,I3 w8->cL w8 (aM k14) (iI n5))/\nn a λa4=>∃ o7 k15 k16,(∀ w9,I3 w9->cL w9 a4 (vS o7 k15 k16))/\br (decide ((k15:Int)<=n5)) (∃ n6,cL w7 (aM k14) (iI n6)/\new w7 (oC [iI n1,iI n6] 184) λk17 w10=>rS (jT 179 (Array.mk [vS o6 k12 k13,vS (some (aM k17)) 1 1])) w10 λv1 w11=>∃ o8 k18 k19,v1 = vS o8 k18 k19/\aw (n2 + 1)/\x3 o8 k18 k19 (n2 + 1) w11/\x4 o8 k18 k19 (n2 + 1) w11 < x4 o6 k12 k13 n2 w4) (aw (n2 + 1)/\x3 o6 k12 k13 (n2 + 1) w7/\x4 o6 k12 k13 (n2 + 1) w7 < x4 o6 k12 k13 n2 w4)) (aw (n1 + 1)/\x1 o6 k12 k13 (n1 + 1) w4/\x2 o6 k12 k13 (n1 + 1) w4 < x2 o2 k3 k4 n1 w1)) (rE 238 [vS o2 k3 k4] w1 λv2 w12=>∃ o9 k20 k21,v2 = vS o9 k20 k21/\R (vS o9 k20 k21) w12)):ay Tryz.prog 201 [(.pointer a)] w R:=rv Tryz.func201 sA (by kernel_rfl) h
def kU:bh:={ rngs:=[],loops:=[],joins:=[],blocks:=[] }
theorem kV {a:Wr} {b c:Nat} {w:Ws} {R:Value->WP} (h:lV a b c none (some (b:Int)) (some (b:Int)) 1 λ(o1:Wr) (k1 k2:Nat)=>R (vS o1 k1 k2) w):ay Tryz.prog 202 [(.slice a b c)] w R:=rv Tryz.func202 kU (by kernel_rfl) h
def fQ:bh:={ rngs:=[],loops:=[],joins:=[],blocks:=[] }
theorem fR {a:Wr} {b c:Nat} {w:Ws} {R:Value->WP} (h:lV a b c none (some (b:Int)) (some (b:Int)) 2 λ(o1:Wr) (k1 k2:Nat)=>R (vS o1 k1 k2) w):ay Tryz.prog 238 [(.slice a b c)] w R:=rv Tryz.func238 fQ (by kernel_rfl) h
abbrev lM:FuncId:=240
def kg:bh:={ rngs:=[],loops:=[(4,[(3,(.one (.int .i64)))]),(9,[(3,(.one (.int .i64))),(5,(.one (.int .i64)))])],joins:=[],blocks:=[] }
theorem kq {a:Wr} {b c:Nat} {w:Ws} {R:Value->WP} (h:br (decide ((b:Int) < 2)) (R (vS a b c) w) (∃ (x1:lP [(3,aD)]),∃ (x2:lN [(3,aD)]),x1 1 w/\∀ (I1:Nat->Value) (n1:Int) (w1:Ws),x1 n1 w1->br (decide (n1 < (b:Int))) (∀ w2,drawn w1 w2->∃ (I2:WP),I2 w2/\idx a b n1 1 λa1=>∃ n2,(∀ w3,I2 w3->World.cell? w3 a1 = some (iI n2))/\aw (n1 - 1)/\idx a b (n1 - 1) 1 λa2=>∃ n3,(∀ w4,I2 w4->World.cell? w4 a2 = some (iI n3))/\br (n2 == n3) (lV a b c (some n1) none none 1 λ(o1:Wr) (k1 k2:Nat)=>∃ (x3:lP [(3,aD),(5,aD)]),∃ (x4:lN [(3,aD),(5,aD)]),x3 n1 1 w2/\∀ (I3:Nat->Value) (n4 n5:Int) (w5:Ws),x3 n4 n5 w5->br (decide (n5 < (k1:Int))) (∀ w6,drawn w5 w6->∃ (I4:WP),I4 w6/\idx o1 k1 n5 1 λa3=>∃ n6,(∀ w7,I4 w7->World.cell? w7 a3 = some (iI n6))/\aw (n5 - 1)/\idx o1 k1 (n5 - 1) 1 λa4=>∃ n7,(∀ w8,I4 w8->World.cell? w8 a4 = some (iI n7))/\br (n6 != n7) (idx o1 k1 n5 1 λa5=>∃ n8,World.cell? w6 a5 = some (iI n8)/\idx a b n4 1 λa6=>st1 w6 a6 (iI n8) λw9=>aw (n4 + 1)/\aw (n5 + 1)/\x3 (n4 + 1) (n5 + 1) w9/\x4 (n4 + 1) (n5 + 1) w9 < x4 n4 n5 w5) (aw (n5 + 1)/\x3 n4 (n5 + 1) w6/\x4 n4 (n5 + 1) w6 < x4 n4 n5 w5)) (lV a b c (some n4) none none 1 λ(o2:Wr) (k3 k4:Nat)=>rS (Builtin.clear_ (Array.mk [24]) 0 (Array.mk [vS o2 k3 k4])) w5 λv1 w10=>lV a b c none (some n4) none 1 λ(o3:Wr) (k5 k6:Nat)=>R (vS o3 k5 k6) w10)) (aw (n1 + 1)/\x1 (n1 + 1) w2/\x2 (n1 + 1) w2 < x2 n1 w1)) (R (vS a b c) w1))):ay Tryz.prog 240 [(.slice a b c)] w R:=rv Tryz.func240 kg (by kernel_rfl) h
end Go.Proofs.YtndaepmjkbmjmaaGreatDoor
namespace Go.V
def wY (ss:List SQ) (m:List (aj × Value)) (i:Nat) (es:List aN):Prop:=∀ k:aj,assoc k m =
 if k.st < 0 then none else if k.st.toNat < i then (lC ss k.st.toNat k.sym).map (Value.int .i64) else if k.st.toNat = i then (es.find? λe=>decide (e.sym = k.sym)).map (λe=>Value.int .i64 e.to) else none
section
variable {ss:List SQ} {m:List (aj × Value)} {i:Nat}
theorem wY.start:wY ss [] 0 []:=λk=>by simp [assoc]
theorem Cz {es:List aN} {e:aN} (hn:e.sym∉es.map (·.sym)) (s:Int):((es ++ [e]).find? λx=>decide (x.sym = s)) = if s = e.sym then some e else es.find? λx=>decide (x.sym = s):=by
 rw [List.find?_append]
 by_cases h:s = e.sym
 ·subst h
  have:(es.find? λx=>decide (x.sym = e.sym)) = none:=List.find?_eq_none.2 λx hx h2=>hn (UU.2 ⟨x,hx,by simpa using h2⟩)
  rw [this]; simp
 ·rw [UE h]
  have:([e].find? λx=>decide (x.sym = s)) = none:=by simp [Ne.symm h]
  rw [this]; simp
theorem wY.step {es:List aN} (h:wY ss m i es) {e:aN} (hn:e.sym∉es.map (·.sym)):wY ss (bA ⟨(i:Int),e.sym⟩ (.int .i64 e.to) m) i (es ++ [e]):=λk=>by
 rw [dy,h k,Cz hn]
 by_cases hk:k = ⟨(i:Int),e.sym⟩
 ·subst hk
  simp
 ·rw [UE hk]
  split
  ·rfl
  ·split
   ·rfl
   ·split
    ·have:k.sym≠e.sym:=λh=>hk (by cases k; simp at *; omega)
     rw [UE this]
    ·rfl
theorem wY.next {q:SQ} (hq:ss[i]? = some q) (h:wY ss m i q.2.2):wY ss m (i + 1) []:=λk=>by
 rw [h k]
 split
 ·rfl
 ·by_cases h1:k.st.toNat < i
  ·rw [UJ h1,UJ (by omega)]
  ·rw [UE h1]
   by_cases h2:k.st.toNat = i
   ·rw [UJ h2,UJ (by omega),h2,nC hq,Option.map_map]; rfl
   ·rw [UE h2,UE (by omega)]; simp
theorem wY.all (h:wY ss m ss.length []) {k:aj} (hk:0<=k.st):assoc k m = (lC ss k.st.toNat k.sym).map (Value.int .i64):=by
 rw [h k,UE (by omega)]
 split
 ·rfl
 ·have:lC ss k.st.toNat k.sym = none:=by unfold lC; rw [UW (by omega)]
  rw [this]; simp
end
abbrev S0 (x:GA) (o:Wr) (n c:Nat) (a int:Int) (kb:Nat):List Value:=x.cells ++ [.slice o n c,.int .i64 a,.int .i64 int,.map (some kb)]
structure S3 (h:Hp) (g:ae) (ss:List SQ) (k:Nat):Prop where
 ex:∃ (x:GA) (o:Wr) (c kb:Nat) (a int:Int) (m:List (aj × Value)),av h (aM k) (S0 x o ss.length c a int kb)/\gR h g x/\FQ h ss o/\mapA kb m h/\wY ss m ss.length []
theorem S3.mono {h h' : Hp} {g:ae} {ss:List SQ} {k:Nat} (s:sub h h') (r:S3 h g ss k):S3 h' g ss k:=by
 obtain ⟨x,o,c,kb,a,int,m,h1,h2,h3,h4,h5⟩:=r.ex
 exact ⟨x,o,c,kb,a,int,m,h1.mono s,h2.mono s,h3.mono s,dB s h4,h5⟩
end Go.V
namespace Go.Proofs.YtndaepmjkbmjmaaGreatDoor
variable {w:Ws} {L:List au} {g:ae} {x:GA}
theorem CA : SC Tryz.prog j8 cT { name := "State", type := cT, offset := 0, embedded := false, tag := "", pkgPath := "", byteOffset := 0 } { name := "Sym", type := cT, offset := 1, embedded := false, tag := "", pkgPath := "", byteOffset := 8 } where
 ht:=by kernel_rfl
 hf:=by kernel_rfl
 hi:=bp
 ht0:=rfl
 ht1:=rfl
 n0:=by decide
 n1:=by decide
 o0:=rfl
 o1:=rfl
 sih:=BD
theorem dW:qi Tryz.prog j8 aj:=qi.two CA
theorem M5 (hg:gR (hp w) g x) (hb:iK g):ay Tryz.prog HS [.agg ⟨x.cells⟩] w λv w'=>∃ (ss:List SQ) (ask int f:Int) (p:Wr),v = .tuple #[.pointer p,.int .i64 f]/\rK g ss ask int f/\Gr w w'/\(f = 0->∃ k,p = some (aM k)/\S3 (hp w') g ss k)/\(f≠0->p = none):=by
 refine D8 (cQ hg λk1 w1 gw hg B=>?_)
 refine ⟨_,_,_,_,_,_,_,_,_,_,_,_,_,B.row (sub.refl _),(nA hg hb).mono ?_⟩
 rintro _ w2 ⟨o,c,ss,ask,int,f,rfl,hR,h⟩
 have g12:Gr w1 w2:=bj 3 h.l
 have hg:=hg.mono g12
 have hs:=zd h.l
 refine ⟨_,_,_,_,_,_,rfl,af (St.all w2) λk12 w3 h=>aI h rfl (by simp [aH]) λw4 h=>aa (λh1=>?_) λh1=>?_⟩
 ·have h1:f≠0:=by simpa using h1
  exact ⟨ss,ask,int,f,none,rfl,hR,gw.trans (g12.trans h.aR),λh=>absurd h h1,λ_=>rfl⟩
 have h1:f = 0:=by simpa using h1
 subst h1
 obtain ⟨hc,hA⟩ : aq g/\dh g ss:=by
  rcases hR with ⟨_,_,_,_,e⟩ | ⟨_,_,_,_,_,e⟩ | ⟨hc,hA,_⟩
  ·omega
  ·omega
  ·exact ⟨hc,hA⟩
 have hkl:=hA.BI hc
 have h256:=hA.dn.2.1
 have g24:Gr w2 w4:=h.aR
 have hg:=hg.mono g24
 have hs:=hs.mono g24
 have r12:av (hp w4) (aM k12) [.slice o ss.length c,.int .i64 ask,.int .i64 int]:=ag 0 h.l
 clear h
 refine ⟨_,_,_,_,_,_,_,_,_,_,_,_,_,B.row (g12.trans g24),_,_,_,_,_,r12.at (sub.refl _) rfl,lY (St.all w4) λkb w5 h=>?_⟩
 have h:=dz (κ:=aj) h
 refine af (vs:=S0 x o ss.length c ask int kb) h λkm w6 h=>?_
 refine ⟨_,_,_,r12.cell0 (bj 2 h.l),λz w'=>∃ (i:Nat) (m:List (aj × Value)),z = i/\i<=ss.length/\wY ss m i []/\St w' (aS km (S0 x o ss.length c ask int kb) :: mapA kb m :: all w4),λz _=>ss.length - z.toNat,
  ⟨0,[],rfl,UM _,.start,h⟩,?_⟩
 clear h
 rintro _ _ w7 ⟨i,m,rfl,hi,hW,h⟩
 have s7:sub (hp w4) (hp w7):=bj 2 h.l
 refine aa (λh1=>?_) λh1=>?_
 rotate_left
 ·have h1:i = ss.length:=by have:=Uy h1; omega
  subst h1
  obtain ⟨hm,sm,hA2⟩:=OM 1 h.l
  exact ⟨ss,ask,int,0,some (aM km),rfl,hR,gw.trans (g12.trans (g24.trans s7)),λ_=>⟨km,rfl,x,o,c,kb,ask,int,m,ag 0 h.l,hg.mono s7,hs.mono s7,dB sm hA2,hW⟩,λh=>absurd rfl h⟩
 have h1:i < ss.length:=by have:=Uz h1; omega
 obtain ⟨q,hq⟩ : ∃ q,ss[i]? = some q:=⟨_,UB h1⟩
 obtain ⟨ad,rfl,rs,_,re⟩:=hs i q hq
 have hql:=(hkl q (UC hq)).2
 have hnd:=wV hA hq
 refine ak rfl h1 ⟨_,_,_,_,_,_,rs.at s7 rfl,af h λk31 w8 h=>aI h rfl (by simp [aH]) λw9 h=>?_⟩
 have r31:av (hp w9) (aM k31) (KM q):=ag 0 h.l
 refine ⟨_,_,_,r31.cell (sub.refl _) (j:=1) rfl,λz w'=>∃ (k:Nat) (m:List (aj × Value)),z = k/\k<=q.2.2.length/\wY ss m i (q.2.2.take k)/\St w' (aS km (S0 x (some ad) ss.length c ask int kb) :: mapA kb m :: all w4),λz _=>q.2.2.length - z.toNat,
  ⟨0,m,rfl,UM _,hW,h.pick 3 [1,2]⟩,?_⟩
 clear h hW
 rintro _ _ w10 ⟨k,m,rfl,hk,hW,h⟩
 have s10:sub (hp w4) (hp w10):=bj 2 h.l
 refine aa (λh2=>?_) λh2=>?_
 rotate_left
 ·have h2:k = q.2.2.length:=by have:=Uy h2; omega
  subst h2
  rw [UZ] at hW
  exact ⟨⟨by omega,by omega⟩,⟨i + 1,m,by simp,h1,hW.next hq,h⟩,bK h1⟩
 have h2:k < q.2.2.length:=by have:=Uz h2; omega
 obtain ⟨e,ead,he,hea,red⟩:=kR re h2
 refine ak hea h2 ⟨_,_,red.at s10 rfl,af h λk34 w11 h=>aI h rfl (by simp [aH]) λw12 h=>?_⟩
 intro w13 hd
 have h:=h.eq (aE hd)
 have r34:av (hp w13) (aM k34) [.int .i64 e.sym,.int .i64 e.to]:=ag 0 h.l
 have rm:av (hp w13) (aM km) (S0 x (some ad) ss.length c ask int kb):=ag 1 h.l
 refine ⟨λu=>Gr w13 u,Gr.refl _,_,λu s=>rm.cell s (j:=8) rfl,_,λu s=>r34.cell0 s,_,λu s=>r34.cell s (j:=1) rfl,(l7 (κ:=aj) aL (rfl:ah Ty _ = .map _ _) dW (h.pick 3 [2,0,1]) ⟨(i:Int),e.sym⟩ _).mono ?_⟩
 rintro _ w17 h
 have ht:q.2.2.take (k + 1) = q.2.2.take k ++ [e]:=by rw [UI,he]; rfl
 have hn:e.sym∉(q.2.2.take k).map (·.sym):=λhm=>by
  have e1:q.2.2.map (·.sym) = (q.2.2.take k).map (·.sym) ++ e.sym :: (q.2.2.drop (k + 1)).map (·.sym):=by
   rw [<- Vh,<- U1]
   congr 1
   have:=UY (k + 1) q.2.2
   rw [ht] at this
   simpa using this.symm
  rw [e1,Vg] at hnd
  exact hnd.2.2 _ hm _ (by simp) rfl
 have hW:=hW.step hn
 rw [<- ht] at hW
 exact ⟨⟨by omega,by omega⟩,⟨k + 1,_,by simp,h2,hW,h.pick 3 [2,0]⟩,bK h2⟩
end Go.Proofs.YtndaepmjkbmjmaaGreatDoor
namespace Go.V
section
variable {g:ae} {ss:List SQ}
theorem FV (g:ae) (i:Nat) (es:List aN):(fi g i es).length<=es.length:=by
 unfold fi; rw [UH]; exact Vm _ _
theorem vx (hk:∀ q∈ss,q.2.2.length<=130):∀ i,(rM g ss i).length<=i * 130
 | 0=>by simp [rM]
 | i + 1=>by
  have:=vx hk i
  cases hq:ss[i]? with
  | none=>simp [rM,hq]; omega
  | some q =>
   rw [nB hq,UG]
   have h1:=FV g i q.2.2
   have h2:=hk q (UC hq)
   omega
theorem rK.FW {a i f:Int} (h:rK g ss a i f) (hf:f = 0):aq g/\dh g ss:=by
 subst hf
 rcases h with ⟨_,_,_,_,e⟩ | ⟨_,_,_,_,_,e⟩ | ⟨hc,hA,_⟩
 ·omega
 ·omega
 ·exact ⟨hc,hA⟩
def Jq (ss:List SQ) (i:Nat) (s:Int):Int:=(lC ss i s).getD (-1)
end
end Go.V
namespace Go.Proofs.YtndaepmjkbmjmaaGreatDoor
variable {w:Ws} {L:List au} {g:ae} {x:GA} {ss:List SQ}
theorem FX {k:Nat} (hw:S3 (hp w) g ss k) (hn:ss.length<=256) (hk:∀ q∈ss,q.2.2.length<=130):ay Tryz.prog vw [.pointer (some (aM k))] w λv w'=>∃ (o:Wr) (c:Nat),v = .slice o (bG g ss).length c/\St w' (own 2 o (bG g ss).length c (Cx (bG g ss)) :: all w):=by
 obtain ⟨x,oa,ca,kb,a,int,m,rk,hg,hs,hm,hW⟩:=hw.ex
 have hTl:g.T = x.tl:=hg.t.1
 refine sB ⟨_,_,_,rk.cell (sub.refl _) (j:=5) rfl,λo n c z w'=>∃ i:Nat,z = i/\i<=ss.length/\n = (rM g ss i).length/\St w' (own 2 o n c (Cx (rM g ss i)) :: all w),λ_ _ _ z _=>ss.length - z.toNat,
  ⟨0,rfl,UM _,rfl,az 2 (St.all w)⟩,?_⟩
 rintro _ o2 _ c2 _ w1 ⟨i,rfl,hi,rfl,h⟩
 have s1:sub (hp w) (hp w1):=bj 1 h.l
 refine aa (λh1=>?_) λh1=>?_
 rotate_left
 ·have h1:i = ss.length:=by have:=Uy h1; omega
  subst h1
  refine fR (fh (dj h) ⟨_,_,_,rfl,_,_,rfl,ff h⟩)
 have h1:i < ss.length:=by have:=Uz h1; omega
 obtain ⟨q,hq⟩ : ∃ q,ss[i]? = some q:=⟨_,UB h1⟩
 obtain ⟨ad,rfl,rs,_,re⟩:=hs i q hq
 have hql:=hk q (UC hq)
 have hNl:=vx (g:=g) hk i
 refine ak rfl h1 ⟨_,_,_,_,_,_,rs.at s1 rfl,af h λk9 w2 h=>aI h rfl (by simp [aH]) λw3 h=>?_⟩
 have r9:av (hp w3) (aM k9) (KM q):=ag 0 h.l
 refine ⟨_,_,_,r9.cell (sub.refl _) (j:=1) rfl,λo n c z w'=>∃ (j:Nat),z = j/\j<=q.2.2.length/\n = (rM g ss i ++ fi g i (q.2.2.take j)).length/\St w' (own 2 o n c (Cx (rM g ss i ++ fi g i (q.2.2.take j))) :: all w),λ_ _ _ z _=>q.2.2.length - z.toNat,
  ⟨0,rfl,UM _,by simp [fi],by simpa [fi] using (show St w3 (own 2 o2 (rM g ss i).length c2 (Cx (rM g ss i)) :: all w) from h.pick 2 [1])⟩,?_⟩
 clear h
 rintro _ o6 _ c6 _ w4 ⟨j,rfl,hj,rfl,h⟩
 have s4:sub (hp w) (hp w4):=bj 1 h.l
 have hTA:=FV g i (q.2.2.take j)
 rw [U0] at hTA
 refine aa (λh2=>?_) λh2=>?_
 rotate_left
 ·have h2:j = q.2.2.length:=by have:=Uy h2; omega
  subst h2
  rw [UZ] at h ⊢
  exact ⟨⟨by omega,by omega⟩,⟨i + 1,by simp,h1,by rw [nB hq],by rw [nB hq]; exact h⟩,bK h1⟩
 have h2:j < q.2.2.length:=by have:=Uz h2; omega
 obtain ⟨e,ead,he,hea,red⟩:=kR re h2
 have ht:q.2.2.take (j + 1) = q.2.2.take j ++ [e]:=by rw [UI,he]; rfl
 refine ak hea h2 ⟨_,_,red.at s4 rfl,af h λk14 w5 h=>aI h rfl (by simp [aH]) λw6 h=>?_⟩
 intro w7 hd
 have h:=h.eq (aE hd)
 have r14:av (hp w7) (aM k14) [.int .i64 e.sym,.int .i64 e.to]:=ag 0 h.l
 have s7:sub (hp w) (hp w7):=bj 2 h.l
 refine ⟨λu=>Gr w7 u,Gr.refl _,_,λu s=>r14.cell0 s,_,_,_,λu s=>rk.cell0 (sub.trans s7 s),aa (λh3=>?_) λh3=>?_⟩
 ·have h3:(g.T:Int)<=e.sym:=by rw [hTl]; exact Uz h3
  have z1:((rM g ss i ++ fi g i (q.2.2.take j)).length + 1) * 16<=140737488355328/\(rM g ss i ++ fi g i (q.2.2.take j)).length < 9223372036854775807:=by rw [UG]; omega
  refine ⟨_,r14.cell0 (sub.refl _),af h λk17 w10 h=>?_⟩
  refine (aW (us:=Cx (rM g ss i ++ fi g i (q.2.2.take j))) aL (rfl:ah Ty _ = .slice _) (rfl:ah Ty _ = .slice _) rfl rfl rfl (h.pick 3 [0,2]) rfl (by simp [aH]) z1.1 z1.2).mono ?_
  rintro _ w11 ⟨o8,c8,rfl,h⟩
  have e2:fi g i (q.2.2.take (j + 1)) = fi g i (q.2.2.take j) ++ [⟨(i:Int),e.sym⟩]:=by rw [ht,Cy,UJ h3]
  have e3:Cx (rM g ss i ++ fi g i (q.2.2.take (j + 1))) = Cx (rM g ss i ++ fi g i (q.2.2.take j)) ++ [.int .i64 (i:Int),.int .i64 e.sym]:=by rw [e2,<- UK,PQ]; rfl
  refine ⟨_,_,_,rfl,⟨by omega,by omega⟩,⟨j + 1,by simp,h2,by rw [e2]; simp; omega,?_⟩,bK h2⟩
  rw [e3]; exact h.pick 2 [0]
 ·have h3:¬(g.T:Int)<=e.sym:=by rw [hTl]; exact Uy h3
  have e2:fi g i (q.2.2.take (j + 1)) = fi g i (q.2.2.take j):=by rw [ht,Cy,UE h3]
  exact ⟨⟨by omega,by omega⟩,⟨j + 1,by simp,h2,by rw [e2],by rw [e2]; exact h.pick 2 [1]⟩,bK h2⟩
theorem M6 (hg:gR (hp w) g x) (hb:iK g):ay Tryz.prog D6 [.agg ⟨x.cells⟩] w λv w'=>∃ (ss:List SQ) (ask int f:Int) (o:Wr) (c:Nat),v = .tuple #[.slice o (bG g ss).length c,.int .i64 f]/\rK g ss ask int f/\St w' (own 2 o (bG g ss).length c (Cx (bG g ss)) :: all w):=by
 refine Ap (cQ hg λk1 w1 gw hg B=>?_)
 refine ⟨_,_,_,_,_,_,_,_,_,_,_,_,_,B.row (sub.refl _),(M5 hg hb).mono ?_⟩
 rintro _ w2 ⟨ss,ask,int,f,p,rfl,hR,g2,h0,hn⟩
 refine ⟨_,_,rfl,aa (λh1=>?_) λh1=>?_⟩
 ·have h1:f≠0:=by simpa using h1
  have hz:ss = []:=by rcases hR with ⟨_,e,_⟩ | ⟨_,_,e,_⟩ | ⟨_,_,_,_,e⟩ <;> first | exact e | exact absurd e h1
  subst hz
  exact ⟨[],ask,int,f,none,0,rfl,hR,az 2 (St.here (gw.trans g2))⟩
 have h1:f = 0:=by simpa using h1
 obtain ⟨k,rfl,hw⟩:=h0 h1
 obtain ⟨hc,hA⟩:=hR.FW h1
 have hkl:=hA.BI hc
 refine (FX hw hA.dn.2.1 λq hq=>(hkl q hq).2).mono ?_
 rintro _ w3 ⟨o,c,rfl,h⟩
 subst h1
 exact ⟨_,_,_,rfl,ss,ask,int,0,o,c,rfl,hR,St.u6 h (bY (gw.trans g2))⟩
end Go.Proofs.YtndaepmjkbmjmaaGreatDoor
namespace Go.V
theorem vy {g:ae} {ss:List SQ} (hc:aq g) (hA:dh g ss) {i:Nat} {s j:Int} (h:lC ss i s = some j):0<=j/\j < ss.length:=by
 obtain ⟨q,k,e,hq,he,rfl,rfl⟩:=Jp h
 obtain ⟨_,_,n,r,hn,h1,hr,_⟩:=kS hc hA hq he
 have:=(UA.1 hr).1
 omega
section
variable {g:ae} {ss:List SQ}
def yL (g:ae) (es:List aN):List Int:=(es.filter λe=>decide (e.sym < (g.T:Int))).map (·.sym)
theorem FY {es:List aN} {e:aN}:yL g (es ++ [e]) = if e.sym < (g.T:Int) then yL g es ++ [e.sym] else yL g es:=by
 unfold yL
 rw [Vi,U1]
 by_cases h:e.sym < (g.T:Int) <;> simp [h]
theorem PR (g:ae) (es:List aN):(yL g es).length<=es.length:=by
 unfold yL; rw [UH]; exact Vm _ _
def kW (g:ae) (t:aj):List Int:=if t = ⟨0,g.start⟩ then [0] else []
theorem M7 (g:ae) (t:aj):(kW g t).length<=1:=by unfold kW; split <;> simp
theorem jg {t:aj}:∀ {n:Nat},t∈rM g ss n->∃ (i:Nat) (q:SQ) (k:Nat) (e:aN),i < n/\ss[i]? = some q/\q.2.2[k]? = some e/\(g.T:Int)<=e.sym/\t = ⟨(i:Int),e.sym⟩
 | 0,h=>by simp [rM] at h
 | n + 1,h=>by
  cases hq:ss[n]? with
  | none =>
   simp [rM,hq] at h
   obtain ⟨i,q,k,e,h1,h2⟩:=jg h
   exact ⟨i,q,k,e,by omega,h2⟩
  | some q =>
   rw [nB hq,UF] at h
   rcases h with h | h
   ·obtain ⟨i,q,k,e,h1,h2⟩:=jg h
    exact ⟨i,q,k,e,by omega,h2⟩
   ·unfold fi at h
    obtain ⟨e,he,rfl⟩:=UU.1 h
    obtain ⟨h1,h2⟩:=Vo.1 he
    obtain ⟨k,hk⟩:=Vf h1
    exact ⟨n,q,k,e,by omega,hq,hk,Uz h2,rfl⟩
theorem FZ {t:aj} {j:Nat} {q:SQ} (h:lC ss t.st.toNat t.sym = some (j:Int)) (hq:ss[j]? = some q):iD g ss t = kW g t ++ yL g q.2.2:=by
 unfold iD
 rw [h]
 show _ ++ (match ss[(j:Int).toNat]? with | none=>[] | some q=>_) = _
 rw [U9,hq]
 rfl
end
end Go.V
namespace Go.Proofs.YtndaepmjkbmjmaaGreatDoor
variable {w:Ws} {L:List au} {g:ae} {x:GA} {ss:List SQ}
theorem PS (w:Ws) (xo yo:Operand) (x y:aj):Sem.run Tryz.prog (fu .eql j8 xo yo (.agg ⟨Al x⟩) (.agg ⟨Al y⟩)) w = .ok (.bool (decide (x = y))) w:=by
 unfold fu
 rw [Sem.run_bind,run_eqGuard_agg w _ _ _ _ _ _ BC]
 simp only [Result.andThen_ok]
 rw [run_eql_struct]
 have e:decide (x = y) = decide (x.st = y.st/\x.sym = y.sym):=by
  cases x; cases y; simp
 rw [e]
 show ((Op.equal j8 (.agg #[.int .i64 x.st,.int .i64 x.sym]) (.agg #[.int .i64 y.st,.int .i64 y.sym])).run Tryz.prog w).andThen _ = _
 rw [D5 CA]
 rfl
theorem HT (hg:gR (hp w) g x) (hb:iK g):ay Tryz.prog kT [.agg ⟨x.cells⟩] w λv w'=>∃ (ss:List SQ) (ask int f:Int) (o:Wr) (c:Nat) (ds:List (Lq Int)),v = .tuple #[.slice o ds.length c,.int .i64 f]/\rK g ss ask int f/\ds.map (·.2) = (bG g ss).map (iD g ss)/\St w' (own 1 o ds.length c (ds.map cF) :: aT (ds.map (b_ 1 iv)) :: all w):=by
 refine wX (cQ hg λk1 w1 gw hg B=>?_)
 refine ⟨_,_,_,_,_,_,_,_,_,_,_,_,_,B.row (sub.refl _),(M5 hg hb).mono ?_⟩
 rintro _ w2 ⟨ss,ask,int,f,p,rfl,hR,g2,h0,hn⟩
 refine ⟨_,_,rfl,aa (λh1=>?_) λh1=>?_⟩
 ·have h1:f≠0:=by simpa using h1
  have hz:ss = []:=by rcases hR with ⟨_,e,_⟩ | ⟨_,_,e,_⟩ | ⟨_,_,_,_,e⟩ <;> first | exact e | exact absurd e h1
  subst hz
  exact ⟨[],ask,int,f,none,0,[],rfl,hR,rfl,az 1 ((St.flat (M:=[])).2 (St.here (gw.trans g2)))⟩
 have h1:f = 0:=by simpa using h1
 subst h1
 obtain ⟨k,rfl,hw⟩:=h0 rfl
 obtain ⟨hc,hA⟩:=hR.FW rfl
 have hkl:=hA.BI hc
 have h256:=hA.dn.2.1
 have hTn:=vx (g:=g) (λq hq=>(hkl q hq).2) ss.length
 refine (FX hw h256 λq hq=>(hkl q hq).2).mono ?_
 rintro _ w3 ⟨oL,cL,rfl,h⟩
 have g3:Gr w2 w3:=bj 1 h.l
 have rL:aX (hp w3) (bG g ss) oL (bG g ss).length:=ze rfl (ee 0 h.l)
 clear h
 obtain ⟨x',oa,ca,kb,a',int',m,rk,hg',hs,hm,hW⟩:=(hw.mono g3).ex
 have g13:Gr w1 w3:=g2.trans g3
 have hTl:g.T = x.tl:=hg.t.1
 have hst:x.s = g.start:=hg.s
 refine ⟨_,_,_,rfl,λo n c z w'=>∃ (i:Nat) (ds:List (Lq Int)),z = i/\i<=(bG g ss).length/\n = ds.length/\ds.map (·.2) = ((bG g ss).take i).map (iD g ss)/\St w' (own 1 o n c (ds.map cF) :: aT (ds.map (b_ 1 iv)) :: all w3),λ_ _ _ z _=>(bG g ss).length - z.toNat,
  ⟨0,[],rfl,UM _,rfl,rfl,az 1 ((St.flat (M:=[])).2 (St.all w3))⟩,?_⟩
 rintro _ o7 _ c7 _ w4 ⟨i,ds,rfl,hi,rfl,hds,h⟩
 have s4:sub (hp w3) (hp w4):=bj 2 h.l
 have hdl:ds.length = i:=by have:=congrArg List.length hds; rw [UH,UH,U0] at this; omega
 have hTL:(bG g ss).length<=ss.length * 130:=hTn
 refine aa (λh1=>?_) λh1=>?_
 rotate_left
 ·have h1:i = (bG g ss).length:=by have:=Uy h1; omega
  rw [h1,UZ] at hds
  refine kV (fh (dj h) ⟨_,_,_,rfl,ss,ask,int,0,_,_,ds,rfl,hR,hds,?_⟩)
  exact St.IV (ff h) (bY (gw.trans g13))
 have h1:i < (bG g ss).length:=by have:=Uz h1; omega
 obtain ⟨t,tad,ht,hta,rt⟩:=qA rL h1
 obtain ⟨i0,q0,k0,e0,hi0,hq0,he0,hge,hte⟩:=jg (UC ht)
 have hnx:lC ss t.st.toNat t.sym = some e0.to:=by rw [hte]; exact An hA hq0 he0
 obtain ⟨hto1,hto2⟩:=vy hc hA hnx
 obtain ⟨j0,hj0⟩ : ∃ j0:Nat,e0.to = j0:=⟨e0.to.toNat,by omega⟩
 rw [hj0] at hnx hto2
 have hto:j0 < ss.length:=by omega
 obtain ⟨r,hr⟩ : ∃ r,ss[j0]? = some r:=⟨_,UB hto⟩
 have hdir:iD g ss t = kW g t ++ yL g r.2.2:=FZ hnx hr
 have hrl:=(hkl r (UC hr)).2
 have hpl:=M7 g t
 have hst0:0<=t.st:=by rw [hte]; exact Vs _
 have htk:(bG g ss).take (i + 1) = (bG g ss).take i ++ [t]:=by rw [UI,ht]; rfl
 obtain ⟨sad,rfl,rs,_,re⟩:=hs j0 r hr
 refine ak hta h1 ⟨_,_,rt.at s4 rfl,af h λk14 w5 h=>aI h rfl (by simp [aH]) λw6 h=>?_⟩
 have h:St w6 (aS k14 (Al t) :: own 1 o7 ds.length c7 (ds.map cF) :: aT (ds.map (b_ 1 iv)) :: all w3):=h
 have r14:av (hp w6) (aM k14) (Al t):=ag 0 h.l
 have s6:sub (hp w3) (hp w6):=bj 3 h.l
 refine ⟨λo n c w'=>n = (kW g t).length/\St w' (own 1 o n c (iv (kW g t)) :: aS k14 (Al t) :: own 1 o7 ds.length c7 (ds.map cF) :: aT (ds.map (b_ 1 iv)) :: all w3),⟨_,_,r14.at (sub.refl _) rfl,_,B.c3 (sub.trans g13 s6),_,PS w6 _ _ t ⟨0,x.s⟩,_,rfl,aa (λh2=>?_) λh2=>?_⟩,?_⟩
 ·have h2:t = ⟨0,g.start⟩:=by rw [<- hst]; exact Uz h2
  have e:kW g t = [0]:=by unfold kW; rw [UJ h2]
  refine af h λk15 w7 h=>?_
  refine (aW (us:=[]) aL (rfl:ah Ty _ = .slice _) (rfl:ah Ty _ = .slice _) rfl rfl rfl ((az 1 h).pick 5 [1,0,2,3,4]) rfl (by simp [aH]) (by decide) (by decide)).mono ?_
  rintro _ w8 ⟨o8,c8,rfl,h⟩
  rw [e]
  exact ⟨_,_,_,rfl,rfl,h.pick 5 [0,2,3,4]⟩
 ·have h2:¬t = ⟨0,g.start⟩:=by rw [<- hst]; exact Uy h2
  have e:kW g t = []:=by unfold kW; rw [UE h2]
  rw [e]
  exact ⟨rfl,az 1 h⟩
 clear h r14 s6
 rintro _ o9 _ c9 w9 ⟨rfl,h⟩
 intro w10 hd
 have h:=h.eq (aE hd)
 have s10:sub (hp w3) (hp w10):=bj 4 h.l
 have r14:av (hp w10) (aM k14) (Al t):=ag 1 h.l
 refine ⟨λu=>Gr w10 u,Gr.refl _,_,_,_,λu s=>rk.cell (sub.trans s10 s) (j:=5) rfl,_,λu s=>rk.cell (sub.trans s10 s) (j:=8) rfl,_,_,λu s=>r14.at s rfl,(df (κ:=aj) hm s10 aL (rfl:ah Ty _ = .map _ _) dW rfl rfl t).mono ?_⟩
 rintro _ w14 ⟨rfl,e14⟩
 rw [e14]
 rw [hW.all hst0,hnx]
 refine ⟨_,rfl,λu=>Gr w10 u,Gr.refl _,λ_ h=>h,ak rfl hto ⟨_,_,_,λu s=>rs.cell (sub.trans s10 s) (j:=1) rfl,λo n c z w'=>∃ j:Nat,z = j/\j<=r.2.2.length/\n = (kW g t ++ yL g (r.2.2.take j)).length /\
  St w' (own 1 o n c (iv (kW g t ++ yL g (r.2.2.take j))) :: own 1 o7 ds.length c7 (ds.map cF) :: aT (ds.map (b_ 1 iv)) :: all w3),λ_ _ _ z _=>r.2.2.length - z.toNat,
  ⟨0,rfl,UM _,by simp [yL],by simpa [yL] using (show St w10 (own 1 o9 (kW g t).length c9 (iv (kW g t)) :: own 1 o7 ds.length c7 (ds.map cF) :: aT (ds.map (b_ 1 iv)) :: all w3) from h.pick 4 [0,2,3])⟩,?_⟩⟩
 clear h r14
 rintro _ o13 _ c13 _ w17 ⟨j,rfl,hj,rfl,h⟩
 have s17:sub (hp w3) (hp w17):=bj 3 h.l
 have hfl:=PR g (r.2.2.take j)
 rw [U0] at hfl
 refine aa (λh2=>?_) λh2=>?_
 ·have h2:j < r.2.2.length:=by have:=Uz h2; omega
  obtain ⟨e,ead,he,hea,red⟩:=kR re h2
  have htj:r.2.2.take (j + 1) = r.2.2.take j ++ [e]:=by rw [UI,he]; rfl
  refine ak hea h2 ⟨_,_,red.at s17 rfl,af h λk26 w18 h=>aI h rfl (by simp [aH]) λw19 h=>?_⟩
  have r26:av (hp w19) (aM k26) [.int .i64 e.sym,.int .i64 e.to]:=ag 0 h.l
  have s19:sub (hp w3) (hp w19):=bj 4 h.l
  refine ⟨_,r26.cell0 (sub.refl _),_,_,_,B.c0 (sub.trans g13 s19),aa (λh3=>?_) λh3=>?_⟩
  ·have h3:e.sym < (g.T:Int):=by rw [hTl]; exact Uz h3
   have z1:((kW g t ++ yL g (r.2.2.take j)).length + 1) * 8<=140737488355328/\(kW g t ++ yL g (r.2.2.take j)).length < 9223372036854775807:=by rw [UG]; omega
   refine ⟨_,r26.cell0 (sub.refl _),af h λk29 w20 h=>?_⟩
   refine (aW (us:=iv (kW g t ++ yL g (r.2.2.take j))) aL (rfl:ah Ty _ = .slice _) (rfl:ah Ty _ = .slice _) rfl rfl rfl (h.pick 5 [0,2,3,4]) rfl (by simp [aH]) z1.1 z1.2).mono ?_
   rintro _ w21 ⟨o15,c15,rfl,h⟩
   have e2:kW g t ++ yL g (r.2.2.take (j + 1)) = kW g t ++ yL g (r.2.2.take j) ++ [e.sym]:=by rw [htj,FY,UJ h3,UK]
   have e3:iv (kW g t ++ yL g (r.2.2.take (j + 1))) = iv (kW g t ++ yL g (r.2.2.take j)) ++ [.int .i64 e.sym]:=by rw [e2]; unfold iv; rw [U1]; rfl
   refine ⟨_,_,_,rfl,⟨by omega,by omega⟩,⟨j + 1,by simp,h2,by rw [e2]; simp; omega,?_⟩,bK h2⟩
   rw [e3]; exact h.pick 4 [0,2,3]
  ·have h3:¬e.sym < (g.T:Int):=by rw [hTl]; exact Uy h3
   have e2:yL g (r.2.2.take (j + 1)) = yL g (r.2.2.take j):=by rw [htj,FY,UE h3]
   exact ⟨⟨by omega,by omega⟩,⟨j + 1,by simp,h2,by rw [e2],by rw [e2]; exact h.pick 4 [1,2,3]⟩,bK h2⟩
 have h2:j = r.2.2.length:=by have:=Uy h2; omega
 rw [h2,UZ,<- hdir] at h ⊢
 refine dq (fh (dj h) ⟨_,_,_,rfl,?_⟩)
 have h:=ff h
 refine af h λk34 w23 h=>?_
 have z1:(ds.length + 1) * 24<=140737488355328/\ds.length < 9223372036854775807:=by omega
 refine (aW (us:=ds.map cF) aL (rfl:ah Ty _ = .slice _) (rfl:ah Ty _ = .slice _) rfl rfl rfl (h.pick 4 [0,2,1,3]) rfl (by simp [aH]) z1.1 z1.2).mono ?_
 rintro _ w24 ⟨o17,c17,rfl,h⟩
 have h:=St.snoc (h.pick 4 [2,3,0])
 refine ⟨_,_,_,rfl,⟨by omega,by omega⟩,⟨i + 1,ds ++ [((eJ o13 0 (iD g ss t).length 1,(iD g ss t).length),iD g ss t)],by simp,h1,by simp,by rw [htk]; simp [hds],?_⟩,bK h1⟩
 have h3:St w24 (own 1 o17 (ds.length + 1) c17 (ds.map cF ++ [.slice (eJ o13 0 (iD g ss t).length 1) (iD g ss t).length (iD g ss t).length]) :: aT (ds.map (b_ 1 iv) ++ [own 1 (eJ o13 0 (iD g ss t).length 1) (iD g ss t).length (iD g ss t).length (iv (iD g ss t))]) :: all w3):=h.pick 2 [1,0]
 simpa [cF,b_] using h3
end Go.Proofs.YtndaepmjkbmjmaaGreatDoor

namespace Go.V
section
variable {g:ae} {ss ss' : List SQ}
theorem M8 (h:bm ss = bm ss') (i:Nat):(ss[i]?).map (λq=>q.2.2) = (ss'[i]?).map λq=>q.2.2:=by
 have:=congrArg (λl=>l[i]?) h
 unfold bm at this
 simpa [UD] using this
theorem Aq (h:bm ss = bm ss') (i:Nat) (s:Int):lC ss i s = lC ss' i s:=by
 have:=M8 h i
 unfold lC
 cases h1:ss[i]? <;> cases h2:ss'[i]? <;> simp [h1,h2] at this ⊢
 rw [this]
theorem M9 (h:bm ss = bm ss'):∀ i,rM g ss i = rM g ss' i
 | 0=>rfl
 | i + 1=>by
  have:=M8 h i
  show rM g ss i ++ _ = rM g ss' i ++ _
  rw [M9 h i]
  cases h1:ss[i]? <;> cases h2:ss'[i]? <;> simp [h1,h2] at this ⊢
  rw [this]
theorem Ar (h:bm ss = bm ss'):ss.length = ss'.length:=by have:=congrArg List.length h; simpa [bm] using this
theorem qB (h:bm ss = bm ss'):bG g ss = bG g ss':=by unfold bG; rw [Ar h,M9 h]
theorem M_ (h:bm ss = bm ss') (t:aj):iD g ss t = iD g ss' t:=by
 unfold iD
 rw [Aq h]
 congr 1
 cases lC ss' t.st.toNat t.sym with
 | none=>rfl
 | some j =>
  have:=M8 h j.toNat
  show (match ss[j.toNat]? with | none=>[] | some q=>_) = (match ss'[j.toNat]? with | none=>[] | some q=>_)
  cases h1:ss[j.toNat]? <;> cases h2:ss'[j.toNat]? <;> simp [h1,h2] at this ⊢
  rw [this]
theorem D9 (h:bm ss = bm ss'):∀ (l:List Int) (q:Int),cX ss q l = cX ss' q l
 | [],q=>rfl
 | s :: l,q=>by
  unfold cX
  rw [Aq h]
  cases lC ss' q.toNat s with
  | none=>rfl
  | some j=>exact D9 h l j
end
section
variable {g:ae} {ss:List SQ}
theorem Js:∀ (n i:Nat),i<=n->∃ t,rM g ss n = rM g ss i ++ t
  | 0, i, h => ⟨[], by have : i = 0 := by omega
                       subst this; simp⟩
  | n + 1,i,h=>by
    by_cases e:i = n + 1
    · subst e; exact ⟨[],by simp⟩
    · obtain ⟨t,ht⟩:=Js n i (by omega)
      exact ⟨t ++ (match ss[n]? with | some q=>fi g n q.2.2 | none=>[]),by rw [<- UK,<- ht]; rfl⟩
theorem Na (i:Nat) (a b:List aN):fi g i (a ++ b) = fi g i a ++ fi g i b:=by unfold fi; rw [Vi,U1]
theorem Nb {i:Nat} {q:SQ} (hq:ss[i]? = some q) {j:Nat} {e:aN} (he:q.2.2[j]? = some e) (h:(g.T:Int)<=e.sym):(bG g ss)[(rM g ss i ++ fi g i (q.2.2.take j)).length]? = some ⟨(i:Int),e.sym⟩:=by
 have hi:=(UA.1 hq).1
 obtain ⟨t,ht⟩:=Js (g:=g) (ss:=ss) ss.length (i + 1) (by omega)
 have hd:q.2.2 = q.2.2.take j ++ e :: q.2.2.drop (j + 1):=by
  have hj:=(UA.1 he)
  rw [<- hj.2,<- Vk hj.1,UY]
 have e1:fi g i q.2.2 = fi g i (q.2.2.take j) ++ ⟨(i:Int),e.sym⟩ :: fi g i (q.2.2.drop (j + 1)):=by
  conv=>lhs; rw [hd]
  rw [Na]
  congr 1
  unfold fi
  rw [VF (by simpa using h)]
  rfl
 unfold bG
 rw [ht,nB hq,e1,<- UK,UK,UP (US _),Vu]
 rfl
end
section
variable {g:ae} {ss:List SQ}
theorem Nc (W:Nat->Bool) (n:Nat):(List.range (n + 1)).filter W = (List.range n).filter W ++ if W n = true then [n] else []:=by
 rw [VX,Vi]
 congr 1
 by_cases h:W n = true <;> simp [h]
def RO (g:ae) (ss:List SQ) (t:aj) (j n:Nat):Bool:=if n = 0 then decide (t = ⟨0,g.start⟩) else (lC ss j n).isSome
theorem F0 (h:dh g ss) {j:Nat} {r:SQ} (hr:ss[j]? = some r) {n:Nat} (hn:n < g.T + g.N):(lC ss j (n:Int)).isSome = decide (bx g r.1.2 (n:Int)≠[]):=by
 have hrise:=Am h hr
 rw [nC hr,Option.isSome_map,Vn,UO,List.find?_isSome]
 constructor
 ·rintro ⟨e,he,h1⟩
  have h1:e.sym = n:=Uz h1
  have:e.sym∈r.2.2.map (·.sym):=UU.2 ⟨e,he,rfl⟩
  rw [hrise,h1] at this
  obtain ⟨m,hm,e2⟩:=UU.1 this
  have e2:m = n:=Int.ofNat.inj e2
  subst e2
  exact rD m hm
 ·intro hk
  have:(n:Int)∈r.2.2.map (·.sym):=by
   rw [hrise]
   exact UU.2 ⟨n,Vo.2 ⟨U8.2 hn,U4 hk⟩,rfl⟩
  obtain ⟨e,he,h1⟩:=UU.1 this
  exact ⟨e,he,U4 h1⟩
theorem Nd:∀ (T N:Nat) (p:Nat->Bool),((List.range (T + N)).filter p).filter (λn=>decide (n < T)) = (List.range T).filter p
 | T,0,p=>by
  rw [Wo,List.filter_filter]
  refine VZ λn hn=>?_
  rw [U8] at hn
  simp [hn]
 | T,N + 1,p=>by
  rw [<- Nat.add_assoc,Nc,Vi,Nd T N p]
  have:(if p (T + N) = true then [T + N] else []).filter (λn=>decide (n < T)) = []:=by split <;> simp
  rw [this,U3]
theorem RP (h:dh g ss) {j:Nat} {r:SQ} (hr:ss[j]? = some r):yL g r.2.2 = ((List.range g.T).filter λn=>decide (bx g r.1.2 (n:Nat)≠[])).map Int.ofNat:=by
 have hrise:=Am h hr
 have e1:yL g r.2.2 = (r.2.2.map (·.sym)).filter λs=>decide (s < (g.T:Int)):=by
  unfold yL
  rw [List.filter_map]
  rfl
 have e2:=Nd g.T g.N λn=>decide (bx g r.1.2 (n:Nat)≠[])
 rw [e1,hrise,List.filter_map,<- e2]
 congr 1
 refine VZ λn hn=>?_
 show decide ((n:Int) < _) = _
 exact decide_eq_decide.2 (by omega)
theorem PT (hc:aq g) (h:dh g ss) {t:aj} {j:Nat} {r:SQ} (hr:ss[j]? = some r):kW g t ++ yL g r.2.2 = ((List.range g.T).filter (RO g ss t j)).map Int.ofNat:=by
 obtain ⟨hT,hN,hP,hP2,h1,_⟩:=hc.gB
 have hK:=(Ak h hr).1
 have hf:=(l_ (g:=g) (by omega) j).fit _ (UC hK)
 have h0:=RN hc hf
 rw [RP h hr]
 obtain ⟨T,hT'⟩ : ∃ T,g.T = T + 1:=⟨g.T - 1,by omega⟩
 rw [hT',List.range_succ_eq_map]
 have e1:((0 :: (List.range T).map Nat.succ).filter λn=>decide (bx g r.1.2 (n:Nat)≠[])) = ((List.range T).map Nat.succ).filter λn=>decide (bx g r.1.2 (n:Nat)≠[]):=by
  rw [VG]
  simpa using h0
 have e2:((List.range T).map Nat.succ).filter (RO g ss t j) = ((List.range T).map Nat.succ).filter λn=>decide (bx g r.1.2 (n:Nat)≠[]):=by
  refine VZ λn hn=>?_
  obtain ⟨m,hm,rfl⟩:=UU.1 hn
  rw [U8] at hm
  unfold RO
  rw [UE (by omega),F0 h hr (by omega)]
 rw [e1]
 unfold kW
 by_cases ht:t = ⟨0,g.start⟩
 ·rw [UJ ht,VF (by unfold RO; simp [ht]),e2]
  rfl
 ·rw [UE ht,VG (by unfold RO; simp [ht]),e2]
  rfl
end
section
variable {g:ae} {ss:List SQ}
theorem rP (q s:Int) (l:List Int):cX ss q (s :: l) = match lC ss q.toNat s with | none=>-1 | some j=>cX ss j l:=rfl
theorem As (hn:∀ i s j,lC ss i s = some j->0<=j/\j < ss.length):∀ (l:List Int) (q:Int),0<=q->q < ss.length->cX ss q l = -1\/(0<=cX ss q l/\cX ss q l < ss.length)
 | [],q,h1,h2=>.inr ⟨h1,h2⟩
 | s :: l,q,h1,h2=>by
  unfold cX
  cases h:lC ss q.toNat s with
  | none=>exact .inl rfl
  | some j=>exact As hn l j (hn _ _ _ h).1 (hn _ _ _ h).2
theorem F1 (hn:∀ i s j,lC ss i s = some j->0<=j/\j < ss.length) (b:List Int):∀ (l:List Int) (q:Int),0<=q->q < ss.length->cX ss q (l ++ b) = if cX ss q l = -1 then -1 else cX ss (cX ss q l) b
 | [],q,h1,h2=>by
  show cX ss q b = if q = -1 then -1 else cX ss q b
  rw [UE (by omega)]
 | s :: l,q,h1,h2=>by
  show cX ss q (s :: (l ++ b)) = _
  rw [rP q s (l ++ b),rP q s l]
  cases h:lC ss q.toNat s with
  | none=>simp
  | some j=>exact F1 hn b l j (hn _ _ _ h).1 (hn _ _ _ h).2
end
section
variable {g:ae} {ss:List SQ}
theorem PU (hc:aq g) (hA:dh g ss) {i:Nat} {q:SQ} (hq:ss[i]? = some q) {y:ai} {s:Int} (hy:BE g q.1.2 y) (hs:jV g y = s) (h0:0<=s):∃ (j:Nat) (r:SQ),lC ss i s = some (j:Int)/\ss[j]? = some r/\(⟨y.prod,y.dot + 1⟩ : ai)∈r.1.2:=by
 obtain ⟨hT,hN,hP,hP2,_,_⟩:=hc.gB
 have hK:=(Ak hA hq).1
 have hf:=(l_ (g:=g) (by omega) i).fit _ (UC hK)
 have hm:(⟨y.prod,y.dot + 1⟩ : ai)∈bx g q.1.2 s:=kP.2 ⟨y,hy,hs,rfl⟩
 have hne:bx g q.1.2 s≠[]:=List.ne_nil_of_mem hm
 have hsr:=qz hc hf h0 hne
 obtain ⟨n,rfl⟩ : ∃ n:Nat,s = n:=⟨s.toNat,by omega⟩
 have hsome:=F0 hA hq (n:=n) (by omega)
 rw [U4 hne] at hsome
 obtain ⟨t,ht⟩:=Option.isSome_iff_exists.1 hsome
 obtain ⟨q',k,e,hq',he,he1,he2⟩:=Jp ht
 rw [hq] at hq'; cases hq'
 obtain ⟨_,_,j,r,hj,_,hr,hrk,_⟩:=kS hc hA hq he
 refine ⟨j,r,by rw [ht,<- he2,hj],hr,?_⟩
 rw [hrk,he1]
 exact hm
theorem t_ (hc:aq g) (hA:dh g ss) {n:Nat} {p:aO} (hp:g.prods[n]? = some p):∀ (d m:Nat),m + d = p.right.length->∀ (i:Nat) (q:SQ),ss[i]? = some q->BE g q.1.2 ⟨(n:Int),(m:Int)⟩ ->
  ∃ (j:Nat) (r:SQ),cX ss (i:Int) (p.right.drop m) = (j:Int)/\ss[j]? = some r/\BE g r.1.2 ⟨(n:Int),(p.right.length:Int)⟩
 | 0,m,hm,i,q,hq,hy=>⟨i,q,by rw [VS (by omega)]; rfl,hq,by rw [show p.right.length = m by omega]; exact hy⟩
 | d + 1,m,hm,i,q,hq,hy=>by
  have hlt:m < p.right.length:=by omega
  have hpm:p∈g.prods:=UC hp
  have hs:jV g ⟨(n:Int),(m:Int)⟩ = p.right[m]:=by
   rw [Ac (p:=p) (by show g.prods[(n:Int).toNat]? = _; rw [U9]; exact hp)]
   show p.right.getD (m:Int).toNat (-1) = _
   rw [U9]
   simp [hlt]
  have hsy:=hc.sym hpm (List.getElem_mem hlt)
  obtain ⟨j,r,h1,h2,h3⟩:=PU hc hA hq hy hs (by omega)
  have h4:BE g r.1.2 ⟨(n:Int),((m + 1:Nat):Int)⟩:=.base (by simpa using h3)
  obtain ⟨j',r',e1,e2,e3⟩:=t_ hc hA hp d (m + 1) (by omega) j r h2 h4
  refine ⟨j',r',?_,e2,e3⟩
  rw [Vk hlt,rP,U9,h1]
  exact e1
end
end Go.V
