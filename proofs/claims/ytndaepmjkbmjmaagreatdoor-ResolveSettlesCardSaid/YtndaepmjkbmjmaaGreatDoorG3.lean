/- Texts of this claim, one behind the other. -/
import Derived.Test.YtndaepmjkbmjmaaGreatDoorG2
import Derived.Shelf.SlSortCmp.NoneTotal
import Derived.Shelf.Sort.Plain
import Derived.Test.YtndaepmjkbmjmaaGreatDoorG1
import Derived.Shelf.Slices.In.SortNone
import Derived.Maps.RangeRun
import Derived.Laws.IdiomStrings
set_option linter.unusedVariables false
set_option linter.unusedSectionVars false
set_option maxRecDepth 100000
set_option maxHeartbeats 16000000
namespace Go.V
end Go.V
namespace Go.Proofs.YtndaepmjkbmjmaaGreatDoor
end Go.Proofs.YtndaepmjkbmjmaaGreatDoor
open Go.V Go.Proofs.YtndaepmjkbmjmaaGreatDoor
namespace Go.Proofs.YtndaepmjkbmjmaaGreatDoor
theorem PR {α : Sort _} (a:α):∃ q,q = a:=⟨a,rfl⟩
theorem PS {h:Hp} {a:Addr} {us vs:List Value} (h1:au h a us) (h2:au h (a.add us.length) vs):au h a (us ++ vs):=λj v u=>by
 by_cases z:j < us.length
 ·rw [Y8 z] at u; exact h1 j v u
 ·rw [Y_ ω] at u
  have:=h2 _ v u
  rw [add_add,show us.length + (j - us.length) = j from ω] at this
  exact this
theorem vf {α : Type} {h:Hp} {n:Nat} {f:α->List Value} (hf:∀ x,(f x).length = n):∀ (ts:List α) (ad:Addr),(∀ (i:Nat) x,ts[i]? = some x->au h (ad.add (cE i n)) (f x))->au h ad (ts.flatMap f)
 | [],ad,_=>λj v hj=>by simp at hj
 | t :: ts,ad,hh=>by
  rw [Zw]
  refine PS ?_ ?_
  ·have:=hh 0 t rfl
   rwa [aN,Nat.zero_mul,show ad.add 0 = ad from by simp [Addr.add]] at this
  ·rw [hf]
   refine vf hf ts _ λi x hx=>?_
   have:=hh (i + 1) x hx
   rw [add_add,aN]
   rwa [aN,aao,aaQ] at this
theorem bY {α : Type} {h:Hp} {n:Nat} {f:α->List Value} (hf:∀ x,(f x).length = n):∀ (ts:List α) (ad:Addr),au h ad (ts.flatMap f)->∀ (i:Nat) x,ts[i]? = some x->au h (ad.add (cE i n)) (f x)
 | [],ad,_,i,x,hx=>by simp at hx
 | t :: ts,ad,hh,i,x,hx=>by
  rw [Zw] at hh
  match i,hx with
  | 0,hx =>
   cases hx
   rw [aN,Nat.zero_mul,show ad.add 0 = ad from by simp [Addr.add]]
   exact hh.take
  | i + 1,hx =>
   have:=bY hf ts _ hh.drop i x hx
   rw [hf,add_add,aN] at this
   rwa [aN,aao,aaQ]
def Du (t:jM):List Value:=[.string t.name,.int .i64 t.level]
def qA (ts:List jM):List Value:=ts.flatMap Du
def Dv (p:(aa3 × Nat) × aP):List Value:=[.int .i64 p.2.left,.slice p.1.1 p.2.right.length p.1.2,.int .i64 p.2.level]
def oe (os:List (aa3 × Nat)) (ps:List aP):List Value:=(os.zip ps).flatMap Dv
def j5 (os:List (aa3 × Nat)) (ps:List aP):List az:=List.zipWith (λo p=>own 1 o.1 p.right.length o.2 (iv p.right)) os ps
theorem Dw (ts:List jM):(qA ts).length = ts.length * 2:=by
 induction ts with
 | nil=>rfl
 | cons t ts ih=>simp only [qA,Zw,Y0,ZC,Du,ZJ] at ih ⊢; omega
theorem SX {h:Hp} {ts:List jM} {ad:Addr} {l:Nat} (r:bh h ts (some ad) l):au h ad (qA ts) :=
 vf (f:=Du) (n:=2) (λ_=>rfl) ts ad λi x z=>by
  obtain ⟨G,vs,e,O,u⟩:=r.2 i x z
  cases e
  have u:vs = Du x:=u
  rw [<- u]; exact O
theorem SY {h:Hp} {ts:List jM} {a:aa3} {l c:Nat} (hl:ts.length = l) (r:own 2 a l c (qA ts) h):bh h ts a l:=by
 refine ⟨hl,λi x z=>?_⟩
 rcases cP r with e | ⟨u,rfl,G⟩
 ·have:=Dw ts;rw [e] at this;have h0:=(YT.1 z).1;simp at this; omega
 ·exact ⟨u,Du x,rfl,bY (f:=Du) (n:=2) (λ_=>rfl) ts u G i x z,rfl⟩
theorem K2 {os:List (aa3 × Nat)} {ps:List aP} {h:Hp} {ad:Addr} (hr:au h ad (oe os ps)) {i:Nat} {o:aa3 × Nat} {p:aP} (ho:os[i]? = some o) (hp:ps[i]? = some p):au h (ad.add (cE i 3)) [.int .i64 p.left,.slice o.1 p.right.length o.2,.int .i64 p.level] :=
 bY (f:=Dv) (n:=3) (λ_=>rfl) (os.zip ps) ad hr i (o,p) (by rw [List.getElem?_zip_eq_some]; exact ⟨ho,hp⟩)
theorem K3 {os:List (aa3 × Nat)} {ps:List aP} (h:os.length = ps.length):(oe os ps).length = ps.length * 3:=by
 have:∀ u:List ((aa3 × Nat) × aP),(u.flatMap Dv).length = u.length * 3:=λu=>by
  induction u with
  | nil=>rfl
  | cons t ts ih=>simp only [Zw,Y0,ZC,Dv,ZJ] at ih ⊢; omega
 unfold oe; rw [this,List.length_zip,h,Nat.min_self]
theorem I_ {os:List (aa3 × Nat)} {ps:List aP} (h:os.length = ps.length) (o:aa3 × Nat) (p:aP):oe (os ++ [o]) (ps ++ [p]) = oe os ps ++ Dv (o,p):=by
 unfold oe; rw [List.zip_append h]; simp
theorem Ha {os:List (aa3 × Nat)} {ps:List aP} (h:os.length = ps.length) (o:aa3 × Nat) (p:aP):j5 (os ++ [o]) (ps ++ [p]) = j5 os ps ++ [own 1 o.1 p.right.length o.2 (iv p.right)]:=by
 unfold j5; rw [List.zipWith_append h]; rfl
def W3 (g:af) (x:GA) (os:List (aa3 × Nat)):List az:=[own 3 x.pa g.prods.length x.pc (oe os g.prods),aC (j5 os g.prods),own 2 x.ta g.terms.length x.tc (qA g.terms),own 1 x.na g.nons.length x.nc (g.nons.map λs=>Value.string s),own 1 x.la g.levels.length x.lc (iv g.levels)]
structure W4 (g:af) (x:GA):Prop where
 t:x.tl = g.terms.length
 n:x.nl = g.nons.length
 l:x.ll = g.levels.length
 s:x.s = g.start
 p:x.pl = g.prods.length
theorem SZ {L:List az} {h:Hp} {os:List (aa3 × Nat)} {ps:List aP} {k:Nat} {o:aa3 × Nat} {p:aP} (i:Nat) (hl:aD L h) (ho:os[k]? = some o) (hp:ps[k]? = some p) (e:qm L i = aC (j5 os ps):=by rfl) (hi:Nat.blt i (yC L) = true:=by rfl):bh h p.right o.1 p.right.length/\p.right.length<=o.2:=by
 obtain ⟨R,s,z⟩:=dm i (by simpa [il] using hi) hl;rw [e] at z;obtain ⟨O,G,u⟩:=mh (A:=own 1 o.1 p.right.length o.2 (iv p.right)) (YV (i:=k) (by unfold j5; rw [aau,ho,hp])) z;refine ⟨(eO rfl (cP u)).mono (G.trans s),?_⟩;rcases u with ⟨_,h,h',_⟩ | ⟨_,_,_,_,_,_,_,_,h⟩ <;> omega
theorem Se {L:List az} {h:Hp} {A:az} (i:Nat) (hl:aD L h) (e:qm L i = A:=by rfl) (hi:Nat.blt i (yC L) = true:=by rfl):∃ h1,sub h1 h/\A h1:=by
 obtain ⟨h1,s,u⟩:=dm i (by simpa [il] using hi) hl;exact ⟨h1,s,e ▸ u⟩
theorem yL {sz l c:Nat} {a:aa3} {vs:List Value} {h:Hp} (ha:own sz a l c vs h):l<=c:=by
 rcases ha with ⟨_,rfl,rfl,_⟩ | ⟨_,_,_,_,_,_,_,_,h⟩
 ·exact Zc _
 ·exact h
theorem S0 {g:af} {x:GA} {os:List (aa3 × Nat)} {L:List az} {h:Hp} (hx:W4 g x) (ho:os.length = g.prods.length) (hs:aD (W3 g x os ++ L) h):gR h g x:=by
 obtain ⟨h1,s1,O⟩:=Se (A:=own 3 x.pa g.prods.length x.pc (oe os g.prods)) 0 hs;obtain ⟨h2,Y,a2⟩:=Se (A:=own 2 x.ta g.terms.length x.tc (qA g.terms)) 2 hs;obtain ⟨h3,X,z⟩:=Se (A:=own 1 x.na g.nons.length x.nc (g.nons.map λs=>Value.string s)) 3 hs;obtain ⟨h4,s4,G⟩:=Se (A:=own 1 x.la g.levels.length x.lc (iv g.levels)) 4 hs;obtain ⟨U,V,R,Z,W⟩:=hx
 refine ⟨?_,?_,?_,Z,?_,?_,?_,?_,?_⟩
 ·rw [U]; exact (SY rfl a2).mono Y
 ·rw [V]; exact (eM rfl (cP z)).mono X
 ·rw [R]; exact (eO rfl (cP G)).mono s4
 ·rw [W];refine ⟨rfl,λi p hp=>?_⟩;have hi:=(YT.1 hp).1;obtain ⟨o,u⟩ : ∃ o,os[i]? = some o:=⟨os[i]'ω,YU _⟩
  rcases cP O with e | ⟨ad,e,hc⟩
  ·have:=K3 ho;rw [e] at this; simp at this; omega
  ·obtain ⟨r1,r2⟩:=SZ (k:=i) (o:=o) (p:=p) 1 hs u hp;exact ⟨ad,_,e,(K2 hc u hp).mono s1,o.1,_,o.2,rfl,r2,r1⟩
 ·rw [U]; exact yL a2
 ·rw [V]; exact yL z
 ·rw [R]; exact yL G
 ·rw [W]; exact yL O
section
section
variable {w:aa4} {L:List az} {g:af} {x:GA}
theorem VA (hg:gR (hp w) g x) (hb:jd g) (hbT:g.terms.length * 24<=140737488355328) (hbN:g.nons.length * 16<=140737488355328):ρ kX [.agg ⟨x.cells⟩] w λv w'=>∃ (x' : GA) (os:List (aa3 × Nat)),v = .agg ⟨x'.cells⟩/\W4 g x'/\os.length = g.prods.length/\St w' (W3 g x' os ++ all w):=by
 refine rV ?_;refine cG hg λk1 w1 gw hg B=>?_;have tl:=hg.t.1;have nl:=hg.n.1;have ll:=hg.l.1;have pl:=hg.p.1;have a7:=hg.s;obtain ⟨b1,b2,b3,b4,b5,b6,b7⟩:=hb;have gs:sub (hp w) (hp w1):=gw;have h1:=St.all w1;unfold Proofs.YtndaepmjkbmjmaaGreatDoor.all at h1;generalize hH:hp w1 = H at *;refine ag h1 λk2 w2 h=>⟨_,B.c3 (aR 1 h.l),ag h λk3 w3 h=>aU h rfl (by intro v hv; simp at hv; rcases hv with rfl | rfl | rfl | rfl | rfl <;> rfl) λw4 h=>?_⟩;refine ⟨_,_,_,h.cell 0,_,_,_,B.c0 (aR 2 h.l),?_⟩
 refine (jh aQ (rfl:aj Ty _ = .slice _) rfl rfl rfl (ay 2 h) (fY (news:=qA g.terms) aQ (rfl:aj Ty _ = .slice _) (n:=x.tl) (by rw [Dw,tl]) ?_ (by
   intro u hu;obtain ⟨t,_,ht⟩:=aaa.1 hu;simp [Du] at ht; rcases ht with rfl | rfl <;> rfl)) (by show (0 + x.tl) * 24<=_; omega) ω).mono ?_
 ·by_cases h0:x.tl = 0
  ·exact .inl h0
  ·obtain ⟨t,G,vs,_,O,_⟩:=hg.t.get (i:=0) ω;have ht:=hg.t;rw [O] at ht;exact .inr ⟨G,O,λj u R=>(SX ht).cell (aR 2 h.l) R⟩
 rintro _ w5 ⟨ta,tc,rfl,h⟩;rw [ZV,<- tl] at h ⊢;rw [Zz] at h;refine ⟨_,_,_,rfl,bj (h.pick 4 [1,0,2,3]) σ λw6 h=>?_⟩;refine ⟨_,_,_,h.cell 1,_,_,_,B.c1 (aR 3 h.l),?_⟩
 refine (jh aQ (rfl:aj Ty _ = .slice _) rfl rfl rfl (ay 1 h) (fY (news:=g.nons.map λs=>Value.string s) aQ (rfl:aj Ty _ = .slice _) (n:=x.nl) (by rw [Y3,nl,Z4]) ?_ (by
   intro u hu;obtain ⟨t,_,rfl⟩:=Zh.1 hu;rfl)) (by show (0 + x.nl) * 16<=_; omega) ω).mono ?_
 ·rcases (hg.n.mono (aR 3 h.l)).row with h0 | ⟨G,O,hc⟩
  ·exact .inl (by have:=congrArg List.length h0; rw [Y3,nl] at this; exact this)
  ·exact .inr ⟨G,O,λj u R=>lB (hc j u R)⟩
 rintro _ w7 ⟨na,nc,rfl,h⟩;rw [ZV,<- nl] at h ⊢;rw [Zz] at h;refine ⟨_,_,_,rfl,?_⟩;rw [aK];refine bj (h.pick 5 [1,0,2,3,4]) σ λw8 h=>?_;refine ⟨_,_,_,h.cell 2,_,_,_,B.c2 (aR 4 h.l),?_⟩
 refine (jh aQ (rfl:aj Ty _ = .slice _) rfl rfl rfl (ay 1 h) (fY (news:=iv g.levels) aQ (rfl:aj Ty _ = .slice _) (n:=x.ll) (by rw [jl,ll,Z4]) ?_ (by
   intro u hu;obtain ⟨t,_,rfl⟩:=Zh.1 hu;rfl)) (by show (0 + x.ll) * 8<=_; omega) ω).mono ?_
 ·rcases (hg.l.mono (aR 4 h.l)).iv with h0 | ⟨G,O,hc⟩
  ·exact .inl (by have:=congrArg List.length h0; rw [jl,ll] at this; exact this)
  ·exact .inr ⟨G,O,λj u R=>lB (hc j u R)⟩
 rintro _ w9 ⟨la,lc,rfl,h⟩;rw [ZV,<- ll] at h ⊢;rw [Zz] at h;refine ⟨_,_,_,rfl,?_⟩;rw [aK];refine bj (h.pick 6 [1,0,2,3,4,5]) σ λa6 h=>?_;obtain ⟨K,hK⟩:=PR (λ(pa:aa3) (j pc:Nat)=>[Value.slice ta g.terms.length tc,.slice na g.nons.length nc,.slice la g.levels.length lc,.int .i64 x.s,.slice pa j pc])
 refine ⟨λn w'=>∃ (j:Nat) (pa:aa3) (pc:Nat) (os:List (aa3 × Nat)),n = j/\j<=g.prods.length/\os.length = j/\St w' [aH k3 (K pa j pc),own 3 pa j pc (oe os (g.prods.take j)),aC (j5 os (g.prods.take j)),own 1 la g.levels.length lc (iv g.levels),own 1 na g.nons.length nc (g.nons.map λs=>Value.string s),own 2 ta g.terms.length tc (qA g.terms),aH k2 [.slice none 0 0,.slice none 0 0,.slice none 0 0,.int .i64 0,.slice none 0 0],has H],λn _=>g.prods.length - n.toNat,⟨0,none,0,[],rfl,ω,rfl,?_⟩,?_⟩
 ·have h:St a6 (aC (j5 [] (g.prods.take 0)) :: _):=St.flat.2 (show St a6 ([] ++ _) from ay 3 h);rw [hK];exact h.pick 8 [2,1,0,3,4,5,6,7]
 clear h;rintro _ n a9 ⟨j,pa,pc,os,rfl,R,z,h⟩;have a1:(g.prods.take j).length = j:=by rw [Zj]; omega
 refine ⟨_,_,_,B.c4 (aR 7 h.l),ae (λU=>?_) λU=>?_⟩
 ·have U:j < g.prods.length:=by have:=YR U; omega
  obtain ⟨p,G,vs,a3,X,Y,ra,rl,rc,rfl,ac,a0⟩:=hg.p.get (i:=j) ω;have a8:=YV a3;have bc:=b7 p a8;have W:=a0.1;have et:g.prods.take (j + 1) = g.prods.take j ++ [p]:=by rw [Y2,a3]; rfl
  intro bd hd;have h:=h.drawn hd;refine ⟨λw=>sub H (hp w),aR 7 h.l,_,_,_,λw s=>B.c4 s,aq X ω ⟨_,λw s=>Y.cell0 s,_,_,_,λw s=>B.c4 s,aq X ω ⟨_,λw s=>Y.cell s (j:=2) rfl,ag h λa4 aI h=>⟨aR 8 h.l,aU h rfl (by intro v hv; simp at hv; rcases hv with rfl | rfl | rfl <;> rfl) λb0 h=>?_⟩⟩⟩⟩;intro be hd;have h:=h.drawn hd;refine ⟨λw=>au (hp w) ⟨a4,0,none⟩ [.int .i64 p.left,.slice none 0 0,.int .i64 p.level]/\sub H (hp w),⟨ah 0 h.l,aR 8 h.l⟩,_,_,_,λw s=>s.1.cell (sub.refl _) (j:=1) rfl,_,_,_,λw s=>B.c4 s.2,aq X ω ⟨_,_,_,λw s=>Y.cell s.2 (j:=1) rfl,?_⟩⟩
  refine (jh aQ (rfl:aj Ty _ = .slice _) rfl rfl rfl (ay 1 h) (fY (news:=iv p.right) aQ (rfl:aj Ty _ = .slice _) (n:=rl) (by rw [jl,W,Z4]) ?_ (by
   intro u hu;obtain ⟨t,_,rfl⟩:=Zh.1 hu;rfl)) (by show (0 + rl) * 8<=_; omega) ω).mono ?_
  ·rcases (a0.mono (aR 8 h.l)).iv with h0 | ⟨G,O,hc⟩
   ·exact .inl (by have:=congrArg List.length h0; rw [jl,W] at this; exact this)
   ·exact .inr ⟨G,O,λj u R=>lB (hc j u R)⟩
  rintro _ ba ⟨qa,qc,rfl,h⟩;rw [ZV,<- W] at h ⊢;rw [Zz] at h;refine ⟨_,_,_,rfl,⟨ah 1 h.l,aR 9 h.l⟩,?_⟩;rw [aK];refine bj (h.pick 10 [1,0,2,3,4,5,6,7,8,9]) σ λa5 h=>?_
  have ck:a5.cell? ((⟨k3,0,none⟩ : Addr).add 4) = some (.slice pa j pc):=by
   have r:au (hp a5) ⟨k3,0,none⟩ (K pa j pc):=ah 2 h.l;rw [hK] at r;exact r.cell (sub.refl _) (j:=4) rfl
  refine ⟨_,_,_,ck,_,_,_,_,_,h.row.at (sub.refl _) rfl,ag h λab aa h=>?_⟩;have h:St aa [aH ab (Dv ((qa,qc),p)),aH a4 _,own 1 qa p.right.length qc (iv p.right),aH k3 (K pa j pc),own 3 pa j pc (oe os (g.prods.take j)),aC (j5 os (g.prods.take j)),own 1 la g.levels.length lc (iv g.levels),own 1 na g.nons.length nc (g.nons.map λs=>Value.string s),own 2 ta g.terms.length tc (qA g.terms),aH k2 [.slice none 0 0,.slice none 0 0,.slice none 0 0,.int .i64 0,.slice none 0 0],has H]:=h;refine (aL aQ (rfl:aj Ty _ = .slice _) (rfl:aj Ty _ = .slice _) rfl rfl rfl (h.pick 11 [0,4,2,3,5,6,7,8,9,10]) rfl (by simp [aG,Dv]) (by show (_ + 1) * 40<=_; omega) ω).mono ?_;rintro _ am ⟨V,Z,rfl,h⟩;refine ⟨_,_,_,rfl,?_⟩;rw [aK];refine bj (h.pick 10 [3,0,2,4,5,6,7,8,9]) (by rw [hK]; simp) λaT h=>?_;have eK:(K pa j pc).set 4 (.slice V (j + 1) Z) = K V (j + 1) Z:=by rw [hK]; rfl
  rw [eK] at h;have h:=St.snoc (A:=own 1 qa p.right.length qc (iv p.right)) (M:=j5 os (g.prods.take j)) (h.pick 9 [2,3,0,1,4,5,6,7,8]);have e1:=Ha (z.trans a1.symm) (qa,qc) p;have e2:=I_ (z.trans a1.symm) (qa,qc) p;dsimp only at e1;rw [<- e1,<- et] at h;refine ⟨⟨ω,ω⟩,⟨j + 1,V,Z,os ++ [(qa,qc)],σ,ω,by simp [z],?_⟩,bn U⟩;rw [et] at h ⊢;rw [e2];exact h.pick 8 [1,2,0,3,4,5,6,7]
 ·have U:j = g.prods.length:=by have:=YS U; omega
  subst U;rw [Zi] at h;have r:au (hp a9) ⟨k3,0,none⟩ (K pa g.prods.length pc):=ah 0 h.l;rw [hK] at r;refine ⟨_,_,_,_,_,_,_,_,_,_,_,_,_,r.at (sub.refl _) rfl,aU (h.pick 8 [6,1,2,3,4,5,7]) rfl (by intro v hv; simp at hv; rcases hv with rfl | rfl | rfl | rfl | rfl <;> rfl) λbb h=>?_⟩;refine ⟨_,_,_,_,_,_,_,_,_,_,_,_,_,h.row.at (sub.refl _) rfl,⟨ta,g.terms.length,tc,na,g.nons.length,nc,la,g.levels.length,lc,x.s,pa,g.prods.length,pc⟩,os,rfl,⟨rfl,rfl,rfl,a7,rfl⟩,z,?_⟩;exact St.on (N:=[_,_,_,_,_]) (h.pick 7 [1,2,5,4,3,6]) (bH gs)
end
section
variable {w:aa4} {L:List az} {g:af} {x y:GA} {a a2:aa3} {l l2 c c2:Nat} {xs ys:List Int} {bs:List Bool} {xss:List (List Int)}
theorem xk (hx:bh (hp w) xs a l) (hy:bh (hp w) xs a2 l2) (hb:l<=4611686018427387904):ρ o_ [.slice a l c,.slice a2 l2 c2] w λv w'=>v = .bool true/\hp w' = hp w:=by
 refine mS ?_;have hl:=hx.1;have W:=hy.1
 refine ae (λh0=>?_) λh0=>?_
 ·simp at h0; omega
 refine ⟨λn w'=>∃ j:Nat,n = j/\j<=l/\hp w' = hp w,λn _=>l - n.toNat,⟨0,rfl,ω,rfl⟩,?_⟩;rintro _ n w1 ⟨j,rfl,hj,e⟩;refine ae (λz=>?_) λ_=>⟨rfl,e⟩;have z:j < l:=by have:=YR z; omega
 intro Y X;have V:hp Y = hp w:=(dT X).trans e;obtain ⟨u,ad,hu,U,O⟩:=hx.cY z;obtain ⟨v,Z,hv,R,G⟩:=hy.cY (i:=j) ω;rw [hu] at hv; cases hv;refine ⟨λw'=>sub (hp w) (hp w'),xd V,aw U z ⟨_,λw s=>O _ s,aw R ω ⟨_,λw s=>G _ s,ae (λh=>by simp at h) λ_=>⟨⟨ω,ω⟩,⟨j + 1,σ,ω,V⟩,bn z⟩⟩⟩⟩
theorem VB (hg:gR (hp w) g x) (hk:gR (hp w) g y) (hb:jd g):ρ vu [.agg ⟨x.cells⟩,.agg ⟨y.cells⟩] w λv w'=>v = .bool true/\Gr w w':=by
 refine rX ?_;refine cG hg λk1 w1 gw hg B=>cG (hk.mono gw) λk2 Y g2 hk C=>?_;have hg:=hg.mono g2;have B:GB (hp Y) k1 x:=⟨λs=>B.c0 (sub.trans g2 s),λs=>B.c1 (sub.trans g2 s),λs=>B.c2 (sub.trans g2 s),λs=>B.c3 (sub.trans g2 s),λs=>B.c4 (sub.trans g2 s),λs=>B.row (sub.trans g2 s)⟩;have ac:Gr w Y:=gw.trans g2;clear g2 gw;obtain ⟨b1,b2,b3,b4,b5,b6,b7⟩:=hb;have t1:=hg.t.1; have t2:=hk.t.1;have n1:=hg.n.1; have n2:=hk.n.1;have l1:=hg.l.1; have l2:=hk.l.1;have p1:=hg.p.1; have p2:=hk.p.1;have s1:=hg.s; have s2:=hk.s;refine ⟨_,_,_,B.c2 (sub.refl _),_,_,_,C.c2 (sub.refl _),(xk hg.l hk.l ω).mono ?_⟩;rintro _ w3 ⟨rfl,e3⟩;have g3:Gr Y w3:=Gr.of_eq e3
 refine ⟨_,rfl,λb w'=>b = false/\w' = w3,ae (λh=>absurd h (by decide)) λ_=>⟨_,B.c3 g3,_,C.c3 g3,ae (λh=>?_) λ_=>⟨_,_,_,B.c0 g3,_,_,_,C.c0 g3,ae (λh=>?_) λ_=>⟨_,_,_,B.c1 g3,_,_,_,C.c1 g3,ae (λh=>?_) λ_=>⟨_,_,_,B.c4 g3,_,_,_,C.c4 g3,?_,rfl⟩⟩⟩⟩,?_⟩
 ·rw [s1,s2] at h; simp at h
 ·simp at h; omega
 ·simp at h; omega
 ·simp; omega
 rintro _ _ w4 ⟨rfl,rfl⟩;refine ae (λh=>absurd h (by decide)) λ_=>?_;refine ⟨λn w'=>∃ j:Nat,n = j/\j<=x.tl/\Gr Y w',λn _=>x.tl - n.toNat,⟨0,rfl,ω,g3⟩,?_⟩;rintro _ n w5 ⟨j,rfl,hj,z⟩
 refine ⟨_,_,_,B.c0 z,ae (λh=>?_) λ_=>?_⟩
 ·have h:j < x.tl:=by have:=YR h; omega
  intro w6 hd;have g6:Gr Y w6:=z.trans (Gr.drawn hd);obtain ⟨u,ad,vs,hu,V,R,G⟩:=hg.t.get h;obtain ⟨v,a8,a5,hv,U,X,W⟩:=hk.t.get (i:=j) ω;rw [hu] at hv; cases hv;have G:vs = [.string u.name,.int .i64 u.level]:=G;have W:a5 = [.string u.name,.int .i64 u.level]:=W;subst G; subst W;refine ⟨λw'=>sub (hp Y) (hp w'),g6,_,_,_,λw s=>B.c0 s,aq V h ⟨_,_,λw s=>R.at s rfl,_,_,_,λw s=>C.c0 s,aq U ω ⟨_,_,λw s=>X.at s rfl,_,λw s=>Mx w _ _ _ _ _ _,_,rfl,ae (λh=>by simp at h) λ_=>⟨⟨ω,ω⟩,⟨j + 1,σ,ω,g6⟩,bn h⟩⟩⟩⟩
 refine ⟨λn w'=>∃ j:Nat,n = j/\j<=x.nl/\Gr Y w',λn _=>x.nl - n.toNat,⟨0,rfl,ω,z⟩,?_⟩;rintro _ n bb ⟨j,rfl,hj,z⟩
 refine ⟨_,_,_,B.c1 z,ae (λh=>?_) λ_=>?_⟩
 ·have h:j < x.nl:=by have:=YR h; omega
  intro w6 hd;have g6:Gr Y w6:=z.trans (Gr.drawn hd);obtain ⟨u,ad,hu,V,R⟩:=hg.n.cY h;obtain ⟨v,a8,hv,U,X⟩:=hk.n.cY (i:=j) ω;rw [hu] at hv; cases hv;refine ⟨λw'=>sub (hp Y) (hp w'),g6,_,_,_,λw s=>B.c1 s,aw V h ⟨u,λw s=>R _ s,_,_,_,λw s=>C.c1 s,aw U ω ⟨u,λw s=>X _ s,ae (λh=>by simp at h) λ_=>⟨⟨ω,ω⟩,⟨j + 1,σ,ω,g6⟩,bn h⟩⟩⟩⟩
 refine ⟨λn w'=>∃ j:Nat,n = j/\j<=x.pl/\Gr Y w',λn _=>x.pl - n.toNat,⟨0,rfl,ω,z⟩,?_⟩;rintro _ n a7 ⟨j,rfl,hj,z⟩;refine ⟨_,_,_,B.c4 z,ae (λh=>?_) λ_=>⟨rfl,ac.trans z⟩⟩;have h:j < x.pl:=by have:=YR h; omega
 obtain ⟨u,ad,vs,hu,V,R,ra,rl,rc,rfl,aI,G⟩:=hg.p.get h;obtain ⟨v,a8,a5,hv,U,X,sa,sl,sc,rfl,ba,W⟩:=hk.p.get (i:=j) ω;rw [hu] at hv; cases hv;have bc:=b7 u (YV hu);have u1:=G.1;refine ⟨_,_,_,B.c4 z,aq V h ⟨_,_,_,_,_,R.at z rfl,ag (St.all a7) λab bd Z=>aU Z rfl (by simp [aG]) λam Z=>?_⟩⟩;have a6:Gr a7 am:=Z.aW;refine ⟨_,_,_,C.c4 (sub.trans z a6),aq U ω ⟨_,_,_,_,_,X.at (sub.trans z a6) rfl,ag Z λa9 aT Z=>aU Z rfl (by simp [aG]) λa0 Z=>?_⟩⟩;have a4:au (hp a0) ⟨ab,0,none⟩ [.int .i64 u.left,.slice ra rl rc,.int .i64 u.level]:=ah 1 Z.l;have a1:au (hp a0) ⟨a9,0,none⟩ [.int .i64 u.left,.slice sa sl sc,.int .i64 u.level]:=ah 0 Z.l;have a3:Gr Y a0:=sub.trans z (aR 2 Z.l);refine ⟨_,_,_,a4.cell (sub.refl _) (j:=1) rfl,_,_,_,a1.cell (sub.refl _) (j:=1) rfl,(xk (G.mono a3) (W.mono a3) ω).mono ?_⟩;rintro _ b0 ⟨rfl,aa⟩;have O:=xd aa;refine ⟨_,rfl,ae (λh=>absurd h (by decide)) λ_=>⟨_,a4.cell0 O,_,a1.cell0 O,ae (λh=>by simp at h) λ_=>⟨_,a4.cell O (j:=2) rfl,_,a1.cell O (j:=2) rfl,ae (λh=>by simp at h) λ_=>⟨⟨ω,ω⟩,⟨j + 1,σ,ω,a3.trans O⟩,bn h⟩⟩⟩⟩
end
open Go.Shelf Go.Proofs
def NR:Go.Shelf.Ren:=⟨fun | 6=>96 | 15=>95 | 14=>156 | 28=>154 | 29=>155 | 20=>192 | 21=>193 | 22=>194 | 23=>195 | 24=>196 | 25=>197 | 26=>198 | 27=>199 | 46=>235 | 47=>188 | 48=>189 | 49=>236 | 50=>237 | 57=>257 | n=>n,fun | 22=>51 | 24=>104 | 25=>170 | 3=>3 | 39=>167 | 0=>0 | 53=>239 | 55=>241 | 4=>4 | 46=>232 | 45=>231 | 50=>236 | 5=>5 | 9=>9 | 66=>263 | 70=>267 | 76=>310 | 77=>311 | n=>n,fun | n=>n⟩
theorem UH:Go.Proofs.SlLaysF0.n6 Tryz.prog NR:={
  mixed:=by kernel_rfl,
  f6:=⟨Tryz.f96.name,by decide,Tryz.func96.trans (congrArg some (by kernel_rfl))⟩,
  f14:=⟨Tryz.f156.name,by decide,Tryz.func156.trans (congrArg some (by kernel_rfl))⟩,
  f15:=Tryz.func95.trans (congrArg some (by kernel_rfl)),
  f20:=⟨Tryz.f192.name,by decide,Tryz.func192.trans (congrArg some (by kernel_rfl))⟩,
  f21:=⟨Tryz.f193.name,by decide,Tryz.func193.trans (congrArg some (by kernel_rfl))⟩,
  f22:=⟨Tryz.f194.name,by decide,Tryz.func194.trans (congrArg some (by kernel_rfl))⟩,
  f23:=⟨Tryz.f195.name,by decide,Tryz.func195.trans (congrArg some (by kernel_rfl))⟩,
  f24:=⟨Tryz.f196.name,by decide,Tryz.func196.trans (congrArg some (by kernel_rfl))⟩,
  f25:=⟨Tryz.f197.name,by decide,Tryz.func197.trans (congrArg some (by kernel_rfl))⟩,
  f26:=⟨Tryz.f198.name,by decide,Tryz.func198.trans (congrArg some (by kernel_rfl))⟩,
  f27:=⟨Tryz.f199.name,by decide,Tryz.func199.trans (congrArg some (by kernel_rfl))⟩,
  f28:=Tryz.func154.trans (congrArg some (by kernel_rfl)),
  f29:=Tryz.func155.trans (congrArg some (by kernel_rfl)),
  f46:=⟨Tryz.f235.name,by decide,Tryz.func235.trans (congrArg some (by kernel_rfl))⟩,
  f47:=Tryz.func188.trans (congrArg some (by kernel_rfl)),
  f48:=Tryz.func189.trans (congrArg some (by kernel_rfl)),
  f49:=⟨Tryz.f236.name,by decide,Tryz.func236.trans (congrArg some (by kernel_rfl))⟩,
  f50:=⟨Tryz.f237.name,by decide,Tryz.func237.trans (congrArg some (by kernel_rfl))⟩,
  f57:=⟨Tryz.f257.name,by decide,Tryz.func257.trans (congrArg some (by kernel_rfl))⟩,
  t0:=Tryz.underlying0,
  a0:=Tryz.isAgg0,
  z0:=Tryz.sizeOf0,
  v0:=Tryz.zeroValue0,
  t3:=Tryz.underlying3,
  a3:=Tryz.isAgg3,
  z3:=Tryz.sizeOf3,
  v3:=Tryz.zeroValue3,
  t4:=Tryz.underlying4,
  a4:=Tryz.isAgg4,
  z4:=Tryz.sizeOf4,
  v4:=Tryz.zeroValue4,
  t5:=Tryz.underlying5,
  a5:=Tryz.isAgg5,
  z5:=Tryz.sizeOf5,
  v5:=Tryz.zeroValue5,
  t9:=Tryz.underlying9,
  a9:=Tryz.isAgg9,
  z9:=Tryz.sizeOf9,
  v9:=Tryz.zeroValue9,
  t22:=Tryz.underlying51,
  a22:=Tryz.isAgg51,
  z22:=Tryz.sizeOf51,
  v22:=Tryz.zeroValue51,
  t25:=Tryz.underlying170,
  a25:=Tryz.isAgg170,
  z25:=Tryz.sizeOf170,
  v25:=Tryz.zeroValue170,
  t39:=Tryz.underlying167,
  a39:=Tryz.isAgg167,
  z39:=Tryz.sizeOf167,
  v39:=Tryz.zeroValue167,
  t45:=Tryz.underlying231,
  a45:=Tryz.isAgg231,
  z45:=Tryz.sizeOf231,
  v45:=Tryz.zeroValue231,
  t46:=Tryz.underlying232,
  a46:=Tryz.isAgg232,
  z46:=Tryz.sizeOf232,
  v46:=Tryz.zeroValue232,
  t50:=Tryz.underlying236,
  a50:=Tryz.isAgg236,
  z50:=Tryz.sizeOf236,
  v50:=Tryz.zeroValue236,
  t53:=Tryz.underlying239,
  a53:=Tryz.isAgg239,
  z53:=Tryz.sizeOf239,
  v53:=Tryz.zeroValue239,
  t55:=Tryz.underlying241,
  a55:=Tryz.isAgg241,
  z55:=Tryz.sizeOf241,
  v55:=Tryz.zeroValue241,
  t66:=Tryz.underlying263,
  a66:=Tryz.isAgg263,
  z66:=Tryz.sizeOf263,
  v66:=Tryz.zeroValue263,
  t70:=Tryz.underlying267,
  a70:=Tryz.isAgg267,
  z70:=Tryz.sizeOf267,
  v70:=Tryz.zeroValue267,
  t76:=Tryz.underlying310,
  a76:=Tryz.isAgg310,
  z76:=Tryz.sizeOf310,
  v76:=Tryz.zeroValue310,
  t77:=Tryz.underlying311,
  a77:=Tryz.isAgg311,
  z77:=Tryz.sizeOf311,
  v77:=Tryz.zeroValue311 }
def NS:Go.Shelf.Ren:=⟨fun | 189=>53 | 125=>95 | 257=>94 | 128=>154 | 129=>155 | 294=>145 | 295=>146 | 296=>147 | 297=>148 | 298=>149 | 299=>150 | 216=>151 | 300=>152 | 301=>153 | 328=>187 | 329=>188 | 330=>189 | 331=>190 | 332=>191 | 215=>157 | 343=>234 | n=>n,fun | 28=>24 | 3=>3 | 46=>167 | 0=>0 | 51=>239 | 53=>241 | 4=>4 | 183=>232 | 182=>231 | 131=>236 | 5=>5 | 9=>9 | 218=>263 | 222=>267 | 228=>310 | 229=>311 | n=>n,fun | n=>n⟩
theorem UI:Go.Proofs.Lays.n189 Tryz.prog NS:={
  mixed:=by kernel_rfl,
  f125:=Tryz.func95.trans (congrArg some (by kernel_rfl)),
  f128:=Tryz.func154.trans (congrArg some (by kernel_rfl)),
  f129:=Tryz.func155.trans (congrArg some (by kernel_rfl)),
  f189:=Tryz.func53.trans (congrArg some (by kernel_rfl)),
  f215:=Tryz.func157.trans (congrArg some (by kernel_rfl)),
  f216:=Tryz.func151.trans (congrArg some (by kernel_rfl)),
  f257:=Tryz.func94.trans (congrArg some (by kernel_rfl)),
  f294:=Tryz.func145.trans (congrArg some (by kernel_rfl)),
  f295:=Tryz.func146.trans (congrArg some (by kernel_rfl)),
  f296:=Tryz.func147.trans (congrArg some (by kernel_rfl)),
  f297:=Tryz.func148.trans (congrArg some (by kernel_rfl)),
  f298:=Tryz.func149.trans (congrArg some (by kernel_rfl)),
  f299:=Tryz.func150.trans (congrArg some (by kernel_rfl)),
  f300:=Tryz.func152.trans (congrArg some (by kernel_rfl)),
  f301:=Tryz.func153.trans (congrArg some (by kernel_rfl)),
  f328:=Tryz.func187.trans (congrArg some (by kernel_rfl)),
  f329:=Tryz.func188.trans (congrArg some (by kernel_rfl)),
  f330:=Tryz.func189.trans (congrArg some (by kernel_rfl)),
  f331:=Tryz.func190.trans (congrArg some (by kernel_rfl)),
  f332:=Tryz.func191.trans (congrArg some (by kernel_rfl)),
  f343:=Tryz.func234.trans (congrArg some (by kernel_rfl)),
  t0:=Tryz.underlying0,
  a0:=Tryz.isAgg0,
  z0:=Tryz.sizeOf0,
  v0:=Tryz.zeroValue0,
  t3:=Tryz.underlying3,
  a3:=Tryz.isAgg3,
  z3:=Tryz.sizeOf3,
  v3:=Tryz.zeroValue3,
  t4:=Tryz.underlying4,
  a4:=Tryz.isAgg4,
  z4:=Tryz.sizeOf4,
  v4:=Tryz.zeroValue4,
  t5:=Tryz.underlying5,
  a5:=Tryz.isAgg5,
  z5:=Tryz.sizeOf5,
  v5:=Tryz.zeroValue5,
  t9:=Tryz.underlying9,
  a9:=Tryz.isAgg9,
  z9:=Tryz.sizeOf9,
  v9:=Tryz.zeroValue9,
  t28:=Tryz.underlying24,
  a28:=Tryz.isAgg24,
  z28:=Tryz.sizeOf24,
  v28:=Tryz.zeroValue24,
  t46:=Tryz.underlying167,
  a46:=Tryz.isAgg167,
  z46:=Tryz.sizeOf167,
  v46:=Tryz.zeroValue167,
  t51:=Tryz.underlying239,
  a51:=Tryz.isAgg239,
  z51:=Tryz.sizeOf239,
  v51:=Tryz.zeroValue239,
  t53:=Tryz.underlying241,
  a53:=Tryz.isAgg241,
  z53:=Tryz.sizeOf241,
  v53:=Tryz.zeroValue241,
  t131:=Tryz.underlying236,
  a131:=Tryz.isAgg236,
  z131:=Tryz.sizeOf236,
  v131:=Tryz.zeroValue236,
  t182:=Tryz.underlying231,
  a182:=Tryz.isAgg231,
  z182:=Tryz.sizeOf231,
  v182:=Tryz.zeroValue231,
  t183:=Tryz.underlying232,
  a183:=Tryz.isAgg232,
  z183:=Tryz.sizeOf232,
  v183:=Tryz.zeroValue232,
  t218:=Tryz.underlying263,
  a218:=Tryz.isAgg263,
  z218:=Tryz.sizeOf263,
  v218:=Tryz.zeroValue263,
  t222:=Tryz.underlying267,
  a222:=Tryz.isAgg267,
  z222:=Tryz.sizeOf267,
  v222:=Tryz.zeroValue267,
  t228:=Tryz.underlying310,
  a228:=Tryz.isAgg310,
  z228:=Tryz.sizeOf310,
  v228:=Tryz.zeroValue310,
  t229:=Tryz.underlying311,
  a229:=Tryz.isAgg311,
  z229:=Tryz.sizeOf311,
  v229:=Tryz.zeroValue311 }
end
section
open Go.Proofs Go.Sort
theorem K4 {X:Type} (P:X->Prop) (f:X->Nat) (h:∃ x,P x):∃ x,P x/\∀ y,P y->f x<=f y:=by
 obtain ⟨x,O⟩:=h;generalize hn:f x = n
 induction n using Nat.strongRecOn generalizing x with
 | ind n ih =>
  by_cases G:∃ y,P y/\f y < n
  ·obtain ⟨y,z,u⟩:=G;exact ih (f y) u y z rfl
  ·exact ⟨x,O,λy z=>by rw [hn]; exact aax λu=>G ⟨y,z,u⟩⟩
open Classical in
noncomputable def UJ {X:Type} (P:X->aa4->Prop) (f:X->Nat) (w:aa4):Nat:=if h:∃ x,P x w then f (K4 (λx=>P x w) f h).choose else 0
theorem Hb {X:Type} {P:X->aa4->Prop} {f:X->Nat} {w:aa4} (h:∃ x,P x w):∃ x,P x w/\f x = UJ P f w:=by
 have:=(K4 (λx=>P x w) f h).choose_spec;refine ⟨_,this.1,?_⟩;unfold UJ; rw [dif_pos h]
theorem Dx {X:Type} {P:X->aa4->Prop} {f:X->Nat} {w:aa4} {x:X} (hx:P x w):UJ P f w<=f x:=by
 have h:∃ x,P x w:=⟨x,hx⟩;have:=(K4 (λx=>P x w) f h).choose_spec;unfold UJ; rw [dif_pos h]; exact this.2 x hx
section
variable {w:aa4} {L:List az}
theorem Co {sz l c k:Nat} {a:aa3} {vs:List Value} (h:St w (own sz a l c vs :: L)) (hk:k<=l):St w (own sz (fT a 0 c sz) k c (vs.take (k * sz)) :: L):=by
 rcases cX h with ⟨rfl,rfl,rfl,rfl⟩ | ⟨b,pre,cs,post,rfl,z,U,u,R⟩
 ·have:k = 0:=ω
  subst this;have:fT none 0 0 sz = none:=by simp [fT]
  rw [this]; simpa using h
 ·have e:fT (some (⟨b,pre.length,none⟩ : Addr)) 0 c sz = some ⟨b,pre.length,none⟩:=by
   unfold fT; split
   ·rfl
   ·simp [aN,add_lit]
  have G:k * sz<=l * sz:=aah _ hk;rw [e]
  refine dS (cs:=vs.drop (k * sz) ++ cs) (post:=post) ?_ ?_ ?_ ω
  ·have O:vs.take (k * sz) ++ (vs.drop (k * sz) ++ cs ++ post) = vs ++ (cs ++ post):=by
    rw [<- Y6,<- Y6,Zk,Y6]
   rw [O]; exact z
  ·rw [Zj]; omega
  ·rw [<- Y6,Zk]; exact u
theorem nJ {a:aa3} {len cap hi sz:Nat} {k:aa3->Nat->Nat->Prop} (h1:hi<=cap) (hk:k (fT a 0 cap sz) hi cap):lR a len cap none (some (hi:Int)) none sz k :=
 ⟨.inl rfl,.inr ⟨by show (0:Int)<=(hi:Int); omega,by show (hi:Int)<=(cap:Int); omega⟩,⟨by decide,by show (0:Int)<=(hi:Int); omega⟩,by simpa using hk⟩
theorem aE {w w' : aa4} (h:drawn w w'):hp w' = hp w:=by rw [show w' = _ from h]; rfl
theorem dJ {L:List az} {h:Hp} {a:aa3} {sz l c:Nat} {vs:List Value} (i:Nat) (hl:aD L h) (e:qm L i = own sz a l c vs:=by rfl) (hi:Nat.blt i (yC L) = true:=by rfl):fo a vs h:=by
 obtain ⟨z,s,u⟩:=dm i (by simpa [il] using hi) hl;rw [e] at u;exact fo.mono s (cP u)
theorem Cp (xs:List Int) (i:Nat) (v:Int):(iv xs).set i (.int .i64 v) = iv (xs.set i v):=by simp only [iv,ZM]
theorem My {M:List az} {n:Nat} (hn:n < M.length):M.Perm (M[n] :: (M.take n ++ M.drop (n + 1))):=by
 have e:M = M.take n ++ M[n] :: M.drop (n + 1):=by rw [<- Zy hn,Zk]
 exact (List.Perm.of_eq e).trans ZQ
theorem set_perm {M:List az} {n:Nat} {A:az} (hn:n < M.length):(M.set n A).Perm (A :: (M.take n ++ M.drop (n + 1))):=by
 rw [List.set_eq_take_append_cons_drop,Y5 hn];exact ZQ
theorem St.PT {A:az} {M:List az} (h:St w (A :: aC M :: L)) {n:Nat} (hn:n < M.length):St w (aC (M.set n A) :: L):=by
 have O:=St.flat.1 h.swap;have u:St w ((M[n] :: (M.take n ++ M.drop (n + 1))) ++ (A :: L)):=O.perm ((My hn).append_right _);have z:St w ((M.take n ++ M.drop (n + 1)) ++ (A :: L)):=u.tail;have G:St w ((A :: (M.take n ++ M.drop (n + 1))) ++ L):=z.perm ZQ;exact St.flat.2 (G.perm ((set_perm hn).symm.append_right _))
theorem St.Ac {M:List az} {A:az} (h:St w (aC M :: L)) {n:Nat} (hn:M[n]? = some A):St w (A :: aC (M.take n ++ M.drop (n + 1)) :: L):=by
 obtain ⟨G,rfl⟩:=YT.1 hn;have O:=St.flat.1 h;have u:St w ((M[n] :: (M.take n ++ M.drop (n + 1))) ++ L):=O.perm ((My G).append_right _);have z:St w ((M.take n ++ M.drop (n + 1)) ++ (M[n] :: L)):=u.perm ZQ.symm;exact (St.flat.2 z).swap
theorem yM {A:az} (hA:∀ w L,St w L->St w (A :: L)):∀ (n:Nat),St w L->St w (aC (List.replicate n A) :: L)
 | 0,h=>(St.flat (M:=[])).2 h
 | n + 1,h=>by
  have h1:=St.flat.1 (yM hA n h)
  exact (St.flat (M:=List.replicate (n + 1) A)).2 (hA _ _ h1)
theorem St.Dy {w:aa4} {L M:List az} {A:az} {n:Nat} (hn:n < M.length) (h:St w (A :: aC (M.take n ++ M.drop (n + 1)) :: L)):St w (aC (M.set n A) :: L):=by
 have z:=St.flat.1 h.swap;have u:St w ((A :: (M.take n ++ M.drop (n + 1))) ++ L):=z.perm ZQ;exact St.flat.2 (u.perm ((set_perm hn).symm.append_right _))
theorem yN (xs:List Nat) (i v:Nat):(pA xs).set i (.int .i64 (v:Int)) = pA (xs.set i v):=by simp only [pA,ZM]
theorem PU (xs:List Nat) (v:Nat):pA xs ++ [.int .i64 (v:Int)] = pA (xs ++ [v]):=by simp [pA]
theorem jm {low:List Nat} {i x:Nat} (h:low[i]? = some x):(pA low)[i]? = some (.int .i64 (x:Int)):=by simp [pA,h]
theorem Cq (ms:List Bool) (u:Nat) (b:Bool):(bv ms).set u (.bool b) = bv (ms.set u b):=by simp only [bv,ZM]
theorem pG {α : Type} {l:List α} {i:Nat} {x:α} (h:l[i]? = some x):l.set i x = l:=by
 obtain ⟨u,rfl⟩:=YT.1 h;exact List.set_getElem_self u
end
section
variable {α : Type} [Inhabited α] {w:aa4} {L:List az} {enc:α->Value} {blk:Nat} {d:Array α}
theorem vg (w:aa4) (off m:Nat) (dk:Array α) (os:Array Obj) (b:Nat) (o:Obj) (h:w.heap[b]? = some o) :
  (sortWorld enc w blk off m dk os).heap[b]? = some (if blk = b then onCells (putCells enc off dk) o else o):=by
 have u:b < w.heap.size:=(ZG.1 h).1;unfold sortWorld grow putRow mapBlock Sort.ahead;simp only;rw [Array.getElem?_append_left (by simpa using u),ZW]
 split
 ·rw [h]; rfl
 ·exact h
theorem Ev.sort (w:aa4) (off m:Nat) (dk:Array α) (os:Array Obj):Ev w (sortWorld enc w blk off m dk os):=by
 refine ⟨rfl,rfl,rfl,?_,?_,?_⟩
 ·unfold sortWorld grow putRow mapBlock Sort.ahead; simp
 ·intro b x h; rw [vg w off m dk os b _ h]; split <;> rfl
 ·intro b x h; rw [vg w off m dk os b _ h]; split <;> rfl
theorem St.sort {cs:List Value} (h:St w (aH blk cs :: L)) (off m:Nat) (dk:Array α) (os:Array Obj):St (sortWorld enc w blk off m dk os) (aH blk (putCells enc off dk ⟨cs⟩).toList :: L):=by
 obtain ⟨e,h⟩:=iw.1 h;have R:=h.get
 have V:∀ b o,hp w b = some o->b≠blk->hp (sortWorld enc w blk off m dk os) b = some o:=λb o z u=>by
  have:=vg (enc:=enc) (blk:=blk) w off m dk os b o (oR z);rw [YZ (aaw u)] at this;unfold hp; rw [this];unfold hp at z;rw [oR z] at z; exact z
 have O:hp (sortWorld enc w blk off m dk os) blk = some (.cells (putCells enc off dk ⟨cs⟩) e (0,0)):=by
  have:=vg (enc:=enc) (blk:=blk) w off m dk os blk _ R;rw [Y5 rfl] at this;unfold hp; rw [this]; rfl
 refine iw.2 ⟨e,?_⟩;have U:=nR (h:=hp w) (h':=λk=>if k = blk then some (.cells (putCells enc off dk ⟨cs⟩) e (0,0)) else hp w k) (o':=.cells (putCells enc off dk ⟨cs⟩) e (0,0)) h (λk G=>by simp [G]) σ;refine fV U λk o G=>?_
 split at G
 ·rename_i e'; subst e'; cases G; exact O
 ·rename_i u; exact V k o G u
theorem yO (pre post:List Value) (d d' : Array α) (hs:d'.size = d.size):(putCells enc pre.length d' ⟨pre ++ (d.toList.map enc ++ post)⟩).toList = pre ++ (d'.toList.map enc ++ post):=by
 have z:(d.toList.map enc).length = d.size:=σ
 have l2:(d'.toList.map enc).length = d.size:=by simp [hs]
 apply ZK;intro k;simp only [putCells,Array.toList_mapIdx,List.getElem?_mapIdx]
 by_cases u:k < pre.length
 ·rw [Y8 u,Y8 u,YU u,ZY,YZ ω]
 ·rw [Y_ (aax u),Y_ (aax u)]
  by_cases G:k - pre.length < d.size
  ·rw [Y8 (l₁:=d.toList.map enc) ω,Y8 (l₁:=d'.toList.map enc) ω,YU (l:=d.toList.map enc) ω,YU (l:=d'.toList.map enc) ω];simp only [ZY];rw [Y5 ⟨ω,ω⟩,getElem!_pos d' _ ω];simp
  ·rw [Y_ (l₁:=d.toList.map enc) ω,Y_ (l₁:=d'.toList.map enc) ω,z,l2];cases post[k - pre.length - d.size]? with
   | none=>rfl
   | some v=>rw [ZY,YZ ω]
theorem S3 {a:aa3} {l c:Nat} (h:St w (own 1 a l c (d.toList.map enc) :: L)) (hl:0 < l) :
  ∃ b off,a = some ⟨b,off,none⟩/\l = d.size/\Holds enc w b off d/\b < w.heap.size /\
   (∀ (m:Nat) (os:Array Obj) (d' : Array α),d'.size = d.size->St (sortWorld enc w b off m d' os) (own 1 a l c (d'.toList.map enc) :: L)):=by
 rcases cX h with ⟨_,R,_⟩ | ⟨b,pre,cs,u,rfl,z,X,R,W⟩
 ·omega
 ·have G:l = d.size:=by simp at X; omega
  refine ⟨b,pre.length,rfl,G,?_,?_,?_⟩
  ·intro j O;refine ⟨?_,z.frozen _ _⟩;rw [z.cell,Y_ ω,ZS,Y8 (by simpa using O),YW,YU (by simpa using O),getElem!_pos d j O];simp
  ·obtain ⟨e,h⟩:=iw.1 z;exact (ZG.1 h.get).1
  ·intro m os d' U;have V:=z.sort (enc:=enc) pre.length m d' os;rw [yO pre (cs ++ u) d d' U] at V
   refine dS V ?_ ?_ W
   ·simp [U]; omega
   ·simp at R ⊢; omega
end
theorem yP {w:aa4} {b o:Nat}:∀ (vs:List Value) (i:Nat),j8 w ⟨b,0,none⟩ (o + i) vs->j8 w ⟨b,o,none⟩ i vs
 | [],i,_=>trivial
 | v :: vs,i,⟨h1,h2,h3,h4⟩=>by
  rw [aK] at h2 h3
  refine ⟨h1,?_,?_,yP vs (i + 1) h4⟩
  ·rw [add_lit]; exact h2
  ·rw [add_lit]; exact h3
theorem yQ {b o:Nat}:∀ (vs:List Value) (i:Nat) (w:aa4),cO w ⟨b,o,none⟩ i vs = cO w ⟨b,0,none⟩ (o + i) vs
 | [],i,w=>rfl
 | v :: vs,i,w=>by
  simp only [cO]
  rw [add_lit,aK,yQ vs (i + 1)]
  rfl
theorem yR {w:aa4} {L:List az} {sz l c i:Nat} {a:aa3} {ad:Addr} {us vs:List Value} {k:aa4->Prop} (h:St w (own sz a l c us :: L)) (ha:a = some ad) (hi:i + vs.length<=us.length) (h1:∀ v∈vs,aG v = true) (h0:0 < vs.length)
  (hk:∀ w',St w' (own sz a l c (us.take i ++ vs ++ us.drop (i + vs.length)) :: L)->k w'):da w (ad.add i) vs k:=by
 rcases cX h with ⟨rfl,_,_,_⟩ | ⟨b,pre,cs,u,rfl,R,X,W,V⟩
 ·cases ha
 ·cases ha;rw [add_lit];have O:(pre.length + i) + vs.length<=(pre ++ (us ++ (cs ++ u))).length:=by simp only [Y0]; omega
  refine ⟨yP vs 0 (xh R vs _ O h1),λw' U=>?_⟩;subst U;rw [yQ];have G:=uc vs _ (pre.length + i) O R;refine hk _ ?_
  have e:(pre ++ (us ++ (cs ++ u))).take (pre.length + i) ++ vs ++ (pre ++ (us ++ (cs ++ u))).drop (pre.length + i + vs.length) = pre ++ ((us.take i ++ vs ++ us.drop (i + vs.length)) ++ (cs ++ u)):=by
   rw [List.take_append,Zb ω,ZS,List.take_append_of_le_length ω];rw [show pre.length + i + vs.length = pre.length + (i + vs.length) from ω,List.drop_append,aab ω,ZS,List.drop_append_of_le_length ω];simp
  rw [e] at G;have z:(us.take i ++ vs ++ us.drop (i + vs.length)).length = us.length:=by simp only [Y0,Zj,Z9]; omega
  refine dS G (by rw [z]; exact X) ?_ V;rw [Y0,z,<- Y0]; exact W
structure ai where
 prod:Int
 dot:Int
deriving DecidableEq
instance:qk ai:={ n:=2,rd:=λ_ x vs=>vs = [.int .i64 x.prod,.int .i64 x.dot],mono:=λ_ h=>h,len:=λh=>by rw [h]; rfl }
def ai.lt (x y:ai):Prop:=x.prod < y.prod\/x.prod = y.prod/\x.dot < y.dot
instance (x y:ai):Decidable (x.lt y):=inferInstanceAs (Decidable (_\/_))
theorem ai.ext' {x y:ai} (h1:x.prod = y.prod) (h2:x.dot = y.dot):x = y:=by cases x; cases y; cases h1; cases h2; rfl
theorem ai.lt_irrefl (x:ai):¬x.lt x:=by unfold ai.lt; omega
theorem ai.lt_trans {x y z:ai} (h1:x.lt y) (h2:y.lt z):x.lt z:=by unfold ai.lt at *; omega
theorem ai.Mz {x y:ai} (h:x≠y):x.lt y\/y.lt x:=by
 unfold ai.lt
 by_cases z:x.prod = y.prod
 ·have u:x.dot≠y.dot:=λu=>h (ai.ext' z u);omega
 ·omega
abbrev jb (l:List ai):Prop:=l.Pairwise ai.lt
def ue (x:ai):List ai->List ai
 | []=>[x]
 | y :: l=>if x = y then y :: l else if x.lt y then x :: y :: l else y :: ue x l
def lay (l:List ai):List ai:=l.foldl (λout x=>ue x out) []
theorem uf {x y:ai}:∀ {l:List ai},y∈ue x l↔y = x\/y∈l
 | []=>by simp [ue]
 | z :: l=>by
  unfold ue
  split
  ·rename_i h; subst h; simp
  ·split
   ·simp
   ·rw [Ze,uf,Ze]
    constructor
    ·rintro (h | h | h)
     ·exact .inr (.inl h)
     ·exact .inl h
     ·exact .inr (.inr h)
    ·rintro (h | h | h)
     ·exact .inr (.inl h)
     ·exact .inl h
     ·exact .inr (.inr h)
theorem yS {x:ai}:∀ {l:List ai},jb l->jb (ue x l)
 | [],_=>by simp [ue]
 | z :: l,h=>by
  unfold ue
  have h':=ZU.1 h
  split
  ·exact h
  ·rename_i hne
   split
   ·rename_i hlt
    exact ZU.2 ⟨λy hy=>by
     rcases Ze.1 hy with rfl | hy
     ·exact hlt
     ·exact ai.lt_trans hlt (h'.1 y hy),h⟩
   ·rename_i hnl
    refine ZU.2 ⟨λy hy=>?_,yS h'.2⟩
    rcases uf.1 hy with rfl | hy
    ·exact (ai.Mz hne).resolve_left hnl
    ·exact h'.1 y hy
theorem foldI (l:List ai):∀ out,jb out->jb (l.foldl (λout x=>ue x out) out)/\∀ y,y∈l.foldl (λout x=>ue x out) out↔y∈out\/y∈l:=by
 induction l with
 | nil=>exact λout h=>⟨h,λy=>σ⟩
 | cons x l ih =>
  intro out h;obtain ⟨z,u⟩:=ih _ (yS (x:=x) h);refine ⟨z,λy=>?_⟩
  show y∈l.foldl (λout x=>ue x out) (ue x out)↔_
  rw [u,uf,Ze]
  constructor
  ·rintro ((h | h) | h)
   ·exact .inr (.inl h)
   ·exact .inl h
   ·exact .inr (.inr h)
  ·rintro (h | h | h)
   ·exact .inl (.inr h)
   ·exact .inl (.inl h)
   ·exact .inr h
theorem ga (l:List ai):jb (lay l):=(foldI l [] .nil).1
theorem fx {l:List ai} {y:ai}:y∈lay l↔y∈l:=by have:=(foldI l [] .nil).2 y; simpa [lay] using this
theorem jb.nodup {l:List ai} (h:jb l):l.Nodup:=ZH.2 (h.imp λh e=>by subst e; exact ai.lt_irrefl _ h)
theorem jb.one {l m:List ai} (h:jb l) (h' : jb m) (he:∀ x,x∈l↔x∈m):l = m:=by
 have p:l.Perm m:=(List.perm_ext_iff_of_nodup h.nodup h'.nodup).2 he;refine List.Perm.eq_of_pairwise (le:=λx y=>ai.lt x y\/x = y) (λa b _ _ z u=>?_) (h.imp .inl) (h'.imp .inl) p
 rcases z with z | z
 ·rcases u with u | u
  ·exact absurd (ai.lt_trans z u) (ai.lt_irrefl _)
  ·exact u.symm
 ·exact z
theorem pH {l:List ai} (h:jb l):lay l = l:=(ga l).one h λ_=>fx
theorem K5 {l m:List ai} (h:jb m) (he:∀ x,x∈m↔x∈l):lay l = m:=(ga l).one h λx=>by rw [fx,he]
def kN (g:af) (x:ai):Prop:=0<=x.prod/\0<=x.dot/\∃ p,g.prods[x.prod.toNat]? = some p/\x.dot<=p.right.length
def di (g:af) (x:ai):Int :=
 match g.prods[x.prod.toNat]? with
 | none=>-1
 | some p=>p.right.getD x.dot.toNat (-1)
theorem kz {g:af} {x:ai} {p:aP} (h:g.prods[x.prod.toNat]? = some p):di g x = p.right.getD x.dot.toNat (-1):=by unfold di; rw [h]
inductive pI (g:af) (I:List ai):ai->Prop
 | base {x:ai}:x∈I->pI g I x
 | step {y:ai} {i:Nat} {p:aP}:pI g I y->0<=di g y->g.prods[i]? = some p->p.left = di g y->pI g I ⟨i,0⟩
def E6 (g:af) (l:List ai):List ai:=((List.range g.prods.length).filter λi=>l.any λy=>decide (0<=di g y) && decide ((g.prods[i]?.map aP.left) = some (di g y))).map λi:Nat=>⟨(i:Int),0⟩
def EH (g:af) (I:List ai):Nat->List ai
 | 0=>lay I
 | k + 1=>lay (EH g I k ++ E6 g (EH g I k))
def cls (g:af) (I:List ai):List ai:=EH g I g.prods.length
section
variable {g:af} {I l:List ai} {x y:ai} {k:Nat}
theorem Dz:x∈E6 g l↔∃ (i:Nat) (p:aP) (y:ai),x = ⟨i,0⟩/\g.prods[i]? = some p/\y∈l/\0<=di g y/\p.left = di g y:=by
 unfold E6;rw [Zh]
 constructor
 ·rintro ⟨i,hi,rfl⟩;rw [ZA,aaf] at hi;obtain ⟨z,y,G,u⟩:=hi;rw [Zd,Y7,Y7] at u;rw [Zo] at z;refine ⟨i,g.prods[i],y,rfl,YU z,G,u.1,?_⟩;have:=u.2;rw [YU z] at this;exact Option.some.inj this
 ·rintro ⟨i,p,y,rfl,hp,G,z,u⟩;refine ⟨i,ZA.2 ⟨Zo.2 (YT.1 hp).1,aaf.2 ⟨y,G,?_⟩⟩,rfl⟩;rw [Zd,Y7,Y7,hp];exact ⟨z,by rw [<- u]; rfl⟩
theorem Hc:∀ k,jb (EH g I k)
 | 0=>ga _
 | _ + 1=>ga _
theorem ug:x∈EH g I (k + 1)↔x∈EH g I k\/x∈E6 g (EH g I k):=by
 show x∈lay _↔_
 rw [fx,YY]
theorem Ad:∀ k x,x∈EH g I k->pI g I x
 | 0,x,h=>.base (fx.1 h)
 | k + 1,x,h=>by
  rcases ug.1 h with h | h
  ·exact Ad k x h
  ·obtain ⟨i,p,y,rfl,hp,hy,h1,h2⟩:=Dz.1 h
   exact .step (Ad k y hy) h1 hp h2
theorem Ja:∀ k,∀ x∈I,x∈EH g I k
 | 0,x,h=>fx.2 h
 | k + 1,x,h=>ug.2 (.inl (Ja k x h))
def K6 (g:af) (I:List ai) (k:Nat):List Nat:=(List.range g.prods.length).filter λi=>decide ((⟨i,0⟩ : ai)∈EH g I k)
theorem W5:∀ {l m:List Nat},l.Nodup->(∀ x∈l,x∈m)->l.length<=m.length
 | [],m,_,_=>Y4 _
 | a :: l,m,h,hs=>by
  obtain ⟨m1,m2,rfl⟩:=aaS (hs a σ)
  rw [ZR] at h
  have:=W5 (l:=l) (m:=m1 ++ m2) h.2 λx hx=>by
   have h1:=hs x (by simp [hx])
   rw [YY,Ze] at h1
   rw [YY]
   rcases h1 with h1 | rfl | h1
   ·exact .inl h1
   ·exact absurd hx h.1
   ·exact .inr h1
  simp at this ⊢; omega
theorem S4 (h:∀ x∈E6 g (EH g I k),x∈EH g I k):EH g I (k + 1) = EH g I k:=(Hc _).one (Hc _) λx=>by
 rw [ug]; exact ⟨λu=>u.elim id (h x),.inl⟩
theorem PV:∀ k,(∀ x∈E6 g (EH g I k),x∈EH g I k)\/k + 1<=(K6 g I (k + 1)).length:=by
 have u:∀ k,¬(∀ x∈E6 g (EH g I k),x∈EH g I k)->(K6 g I k).length + 1<=(K6 g I (k + 1)).length:=by
  intro k V;have ⟨x,R⟩:=Classical.not_forall.1 V;have ⟨O,W⟩:=Classical.not_imp.1 R;obtain ⟨i,p,y,rfl,hp,_⟩:=Dz.1 O;have Y:i∉K6 g I k:=λh=>W (by have:=(ZA.1 h).2; exact YR this)
  have:=W5 (l:=i :: K6 g I k) (m:=K6 g I (k + 1)) (ZR.2 ⟨Y,List.nodup_range.filter _⟩) λz G=>by
   refine ZA.2 ?_
   rcases Ze.1 G with rfl | G
   ·exact ⟨Zo.2 (YT.1 hp).1,Zp (ug.2 (.inr O))⟩
   ·obtain ⟨U,X⟩:=ZA.1 G;exact ⟨U,Zp (ug.2 (.inl (YR X)))⟩
  simpa using this
 intro k
 induction k with
 | zero =>
  by_cases h:∀ x∈E6 g (EH g I 0),x∈EH g I 0
  ·exact .inl h
  ·have:=u 0 h; exact .inr ω
 | succ k z =>
  by_cases h:∀ x∈E6 g (EH g I (k + 1)),x∈EH g I (k + 1)
  ·exact .inl h
  ·rcases z with z | z
   ·rw [S4 z] at h; exact absurd z h
   ·have:=u (k + 1) h; exact .inr ω
theorem K7:∀ x∈E6 g (cls g I),x∈cls g I:=by
 rcases PV (g:=g) (I:=I) g.prods.length with h | h
 ·exact h
 ·have:(K6 g I (g.prods.length + 1)).length<=(List.range g.prods.length).length:=Zt _ _;rw [ZX] at this; omega
theorem jn:x∈cls g I↔pI g I x:=by
 refine ⟨Ad _ x,λh=>?_⟩
 induction h with
 | base h=>exact Ja _ _ h
 | step _ h1 h2 h3 ih=>exact K7 _ (Dz.2 ⟨_,_,_,rfl,h2,ih,h1,h3⟩)
theorem yT:jb (cls g I):=Hc _
theorem MA {l:List ai} (hs:jb l) (hm:∀ x,x∈l↔pI g I x):l = cls g I:=hs.one yT λx=>by rw [hm,jn]
def aO (g:af) (I:List ai) (s:Int):List ai:=((cls g I).filter λx=>decide (di g x = s)).map λx=>⟨x.prod,x.dot + 1⟩
theorem DA {s:Int}:jb (aO g I s):=by
 unfold aO jb;rw [ZO];refine (yT.filter _).imp λh=>?_;unfold ai.lt at *;simp only;omega
theorem de {s:Int}:x∈aO g I s↔∃ y,pI g I y/\di g y = s/\x = ⟨y.prod,y.dot + 1⟩:=by
 unfold aO;rw [Zh]
 constructor
 ·rintro ⟨y,G,rfl⟩;obtain ⟨z,u⟩:=ZA.1 G;exact ⟨y,jn.1 z,YR u,rfl⟩
 ·rintro ⟨y,z,u,rfl⟩;exact ⟨y,ZA.2 ⟨jn.2 z,Zp u⟩,rfl⟩
end
structure aS where
 sym:Int
 to:Int
deriving DecidableEq
instance:qk aS:={ n:=2,rd:=λ_ x vs=>vs = [.int .i64 x.sym,.int .i64 x.to],mono:=λ_ h=>h,len:=λh=>by rw [h]; rfl }
abbrev cQ:=List ai
def rK (st:List cQ) (k:cQ):List cQ:=if k∈st then st else st ++ [k]
def bL (g:af) (K:cQ):List Nat:=(List.range (g.T + g.N)).filter λs=>decide (aO g K s≠[])
def lW (g:af) (K:cQ) (l:List Nat) (acc:List cQ × List aS):List cQ × List aS :=
 l.foldl (λ(acc:List cQ × List aS) (s:Nat)=>(rK acc.1 (aO g K (s:Int)),acc.2 ++ [⟨(s:Int),(acc.1.idxOf (aO g K (s:Int)):Int)⟩])) acc
def cN (g:af):Nat->List cQ × List (List aS)
 | 0=>([[⟨0,0⟩]],[])
 | i + 1=>match (cN g i).1[i]? with
  | none=>cN g i
  | some K=>((lW g K (bL g K) ((cN g i).1,[])).1,(cN g i).2 ++ [(lW g K (bL g K) ((cN g i).1,[])).2])
structure DB (g:af) (st:List cQ):Prop where
 nd:st.Nodup
 ne:∀ K∈st,K≠[]
 Rq:∀ K∈st,jb K
 fit:∀ K∈st,∀ x∈K,kN g x
 dots:∀ (j:Nat) (K:cQ),st[j]? = some K->∀ x∈K,x.dot<=j
section
variable {g:af} {I K k:cQ} {st:List cQ} {i j s:Nat} {x y:ai} {acc:List cQ × List aS}
theorem pI.fit (h:pI g I x) (hI:∀ x∈I,kN g x):kN g x:=by
 induction h with
 | base h=>exact hI _ h
 | @step y i p _ _ hp _ _=>exact ⟨Zx _,Int.le_refl _,p,by simpa using hp,σ⟩
theorem pI.dot {d:Int} (h:pI g I x) (hI:∀ x∈I,x.dot<=d) (hd:0<=d):x.dot<=d:=by
 induction h with
 | base h=>exact hI _ h
 | step _ _ _ _ _=>exact hd
theorem DC {s:Int} (h:kN g x) (ha:di g x = s) (hs:0<=s):∃ p,g.prods[x.prod.toNat]? = some p/\x.dot < p.right.length/\p.right[x.dot.toNat]? = some s:=by
 obtain ⟨_,z,p,hp,u⟩:=h;rw [kz hp,YX] at ha;cases hg:p.right[x.dot.toNat]? with
 | none=>rw [hg] at ha; simp at ha; omega
 | some v =>
  rw [hg] at ha; simp at ha; subst ha;have:=(YT.1 hg).1;exact ⟨p,hp,ω,hg⟩
theorem DD {s:Int} (hI:∀ x∈I,kN g x) (hs:0<=s):∀ x∈aO g I s,kN g x:=λx z=>by
 obtain ⟨y,O,G,rfl⟩:=de.1 z
 have u:=O.fit hI
 obtain ⟨p,hp,R,_⟩:=DC u G hs
 exact ⟨u.1,by have:=u.2.1; show 0<=y.dot + 1; omega,p,hp,by show y.dot + 1<=_; omega⟩
theorem Hd:K∈rK st k↔K∈st\/K = k:=by
 unfold rK; split
 ·rename_i h; exact ⟨.inl,λh'=>h'.elim id λe=>e ▸ h⟩
 ·simp
theorem MB (h:st[i]? = some K):(rK st k)[i]? = some K:=by
 unfold rK; split
 ·exact h
 ·rw [Y8 (YT.1 h).1]; exact h
theorem DB.start (hp:0 < g.prods.length):DB g [[⟨0,0⟩]]:=by
 refine ⟨σ,σ,σ,λK G x u=>?_,λj K z x u=>?_⟩
 ·simp at G; subst G; simp at u; subst u;exact ⟨Int.le_refl _,Int.le_refl _,g.prods[0],YU hp,σ⟩
 ·cases j with
  | zero=>simp at z; subst z; simp at u; subst u; simp
  | succ j=>simp at z
theorem DB.put (h:DB g st) (hK:st[i]? = some K) (hs:aO g K (s:Int)≠[]):DB g (rK st (aO g K (s:Int))):=by
 have X:=YV hK;have O:=(YT.1 hK).1
 refine ⟨?_,λL u=>?_,λL u=>?_,λL u=>?_,λj L u x z=>?_⟩
 ·unfold rK; split
  ·exact h.nd
  ·rename_i hn;rw [ZE];exact ⟨h.nd,σ,λa U b G e=>by simp at G; subst G; subst e; exact hn U⟩
 ·rcases Hd.1 u with u | rfl
  ·exact h.ne L u
  ·exact hs
 ·rcases Hd.1 u with u | rfl
  ·exact h.Rq L u
  ·exact DA
 ·rcases Hd.1 u with u | rfl
  ·exact h.fit L u
  ·exact DD (h.fit K X) (Zx _)
 ·unfold rK at u
  split at u
  ·exact h.dots j L u x z
  ·by_cases e:j < st.length
   ·rw [Y8 e] at u;exact h.dots j L u x z
   ·have V:=(YT.1 u).1;rw [Y0,aaT] at V;have R:j = st.length:=ω
    subst R;rw [Y_ (Zc _),Z0] at u;simp at u; subst u;obtain ⟨y,W,_,rfl⟩:=de.1 z;have:=W.dot (h.dots i K hK) (Zx _)
    show y.dot + 1<=_
    omega
theorem yU {l:List Nat}:lW g K (l ++ [s]) acc = (rK (lW g K l acc).1 (aO g K s),(lW g K l acc).2 ++ [⟨s,(lW g K l acc).1.idxOf (aO g K s)⟩]):=by
 unfold lW; rw [List.foldl_append]; rfl
theorem Jb {l:List Nat} (h:l[j]? = some s):lW g K (l.take (j + 1)) acc = (rK (lW g K (l.take j) acc).1 (aO g K s),(lW g K (l.take j) acc).2 ++ [⟨s,(lW g K (l.take j) acc).1.idxOf (aO g K s)⟩]):=by
 rw [Y2,h,Z6,yU]
theorem S5 (h:DB g st) (hK:st[i]? = some K):∀ (l:List Nat),(∀ s∈l,aO g K (s:Int)≠[])->∀ es,DB g (lW g K l (st,es)).1/\(lW g K l (st,es)).1[i]? = some K:=by
 have key:∀ (l:List Nat),(∀ s∈l,aO g K (s:Int)≠[])->∀ st es,DB g st->st[i]? = some K->DB g (lW g K l (st,es)).1/\(lW g K l (st,es)).1[i]? = some K:=by
  intro l
  induction l with
  | nil=>exact λ_ st es h hK=>⟨h,hK⟩
  | cons s l ih =>
   intro u st es h hK;exact ih (λz G=>u z (by simp [G])) _ _ (h.put hK (u s σ)) (MB hK)
 exact λl u es=>key l u st es h hK
theorem uh:∀ (l:List Nat) (st:List cQ) (es:List aS) (j:Nat) (L:cQ),st[j]? = some L->(lW g K l (st,es)).1[j]? = some L
 | [],_,_,_,_,h=>h
 | s :: l,st,es,j,L,h=>uh l _ _ j L (MB h)
theorem Jc {st st' : List cQ} (h:∀ (j:Nat) (L:cQ),st[j]? = some L->st'[j]? = some L):st.length<=st'.length:=by
 refine Z3 λu=>?_;have:=h st'.length _ (YU ω);rw [Zf (Zc _)] at this;cases this
theorem vh:∀ s∈bL g K,aO g K (s:Int)≠[]:=λs u=>YR (ZA.1 u).2
theorem ff (h:(cN g i).1[i]? = some K):cN g (i + 1) = ((lW g K (bL g K) ((cN g i).1,[])).1,(cN g i).2 ++ [(lW g K (bL g K) ((cN g i).1,[])).2]):=by
 show (match (cN g i).1[i]? with | none=>_ | some K=>_) = _
 rw [h]
theorem pJ (h:(cN g i).1[i]? = none):cN g (i + 1) = cN g i:=by
 show (match (cN g i).1[i]? with | none=>_ | some K=>_) = _
 rw [h]
theorem dE (hp:0 < g.prods.length):∀ i,DB g (cN g i).1
 | 0=>DB.start hp
 | i + 1=>by
  cases h:(cN g i).1[i]? with
  | none=>rw [pJ h]; exact dE hp i
  | some K=>rw [ff h]; exact (S5 (dE hp i) h _ vh _).1
theorem NT (i j:Nat) (L:cQ) (h:(cN g i).1[j]? = some L):(cN g (i + 1)).1[j]? = some L:=by
 cases hi:(cN g i).1[i]? with
 | none=>rw [pJ hi]; exact h
 | some K=>rw [ff hi]; exact uh _ _ _ _ _ h
theorem yV {i i' : Nat} (hi:i<=i') (j:Nat) (L:cQ) (h:(cN g i).1[j]? = some L):(cN g i').1[j]? = some L:=by
 induction hi with
 | refl=>exact h
 | step _ ih=>exact NT _ _ _ ih
theorem He:∀ i,i<=(cN g i).1.length->(cN g i).2.length = i
 | 0,_=>rfl
 | i + 1,h=>by
  cases hi:(cN g i).1[i]? with
  | none =>
   rw [pJ hi] at h
   rw [List.getElem?_eq_none_iff] at hi
   omega
  | some K =>
   have:=He i (by have:=(YT.1 hi).1; omega)
   rw [ff hi]; simp [this]
def Jd (g:af) (n:Nat):Prop:=(cN g n).1.length = n/\n<=256/\∀ i,i < n->i < (cN g i).1.length
def S6 (g:af):Prop:=∃ i K k,(cN g i).1[i]? = some K/\(∀ j,j<=i->j < (cN g j).1.length)/\256 < (lW g K ((bL g K).take k) ((cN g i).1,[])).1.length
theorem Je {n m:Nat} (h:Jd g n) (h' : Jd g m):n = m:=by
 rcases Nat.lt_trichotomy n m with e | e | e
 ·have:=h'.2.2 n e; have:=h.1; omega
 ·exact e
 ·have:=h.2.2 m e; have:=h'.1; omega
theorem PW (l:List Nat) (k:Nat) (es:List aS):(lW g K (l.take k) (st,es)).1.length<=(lW g K l (st,es)).1.length:=by
 have e:lW g K l (st,es) = lW g K (l.drop k) (lW g K (l.take k) (st,es)):=by
  unfold lW; rw [<- List.foldl_append,Zk]
 rw [e];exact Jc λj L h=>uh _ _ _ _ _ h
theorem DE {n:Nat} (h:Jd g n) (h' : S6 g):False:=by
 obtain ⟨i,K,k,R,G,U⟩:=h'
 have z:i < n:=by
  refine Z3 λV=>?_;have:=G n ω;have:=h.1; omega
 have W:=PW (g:=g) (K:=K) (st:=(cN g i).1) (bL g K) k [];have u:(cN g (i + 1)).1.length<=(cN g n).1.length:=Jc λj L O=>yV ω j L O;rw [ff R] at u;have:=h.1;have:=h.2.1;simp only at u;omega
end
end
abbrev Bq:FuncId:=26
def E7:bm:={ rngs:=[],loops:=[(7,[(6,(.one (.int .i64)))]),(12,[(8,(.one .slice))]),(18,[(10,(.one .slice)),(61,(.one (.int .i64)))])],joins:=[],blocks:=[] }
section
variable {a b c d:aa3} {i j k l m n o p:Nat} {A B C D:Int} {w:aa4} {R:Value->WP}
theorem E8 (h:new w (ψ a i j b k l c m n A d o p) λa b=>new b (oC [vS none 0 0,iI 0,iI 0] 45) λb c=>χ c (aM a) λd=>rE 49 [d] c λc d=>∃ e,c = vB e/\br (!e) (da d (aM b) [vS none 0 0,iI 0,iI 0] λa=>∃ c d e f g,rA a (aM b) 3 [vS c d e,iI f,iI g]/\R (vU [vG [vS c d e,iI f,iI g],iI 1]) a) (χ d (aM a) λa=>rE 50 [a] d λa c=>∃ d,a = vP d/\new c (Obj.map (Array.mk []) 0) λa c=>new c (oC [vS none 0 0,iI 0,iI 0,Value.map (some a)] 101) λa c=>new c (oC [iI 0,iI 0] 104) λc e=>rE 51 [vP (some (aM a)),vS (some (aM c)) 1 1] e λc e=>∃ f,c = iI f/\τ [(6,aB)] λc f=>c 0 e/\∀ (_:ν) e g,c e g->∃ h i j,cL g (aM a) (vS h i j)/\br (decide (e < (i:Int))) (∃ h i j,cL g (aM a) (vS h i j)/\idx h i e 2 λh=>∃ i j k,cL g h (vS i j k)/\rE 52 [vP d,vS i j k] g λd h=>∃ i,d = Value.map i/\bf Proofs.Tryz.prog (Instr.range 105 (Value.map i)) h λd h=>∃ j,d = vP j/\τ [(8,fD)] λd k=>d none 0 0 h/\∀ (_:ν) h l m n,d h l m n->bf Proofs.Tryz.prog (Instr.next (vP j) false 0) n λo p=>(o = vU [vB false]/\rE 53 [vS h l m] p λd j=>d = vU []/\τ [(10,fD),(61,aB)] λd k=>d none 0 0 0 j/\∀ (_:ν) j m n o p,d j m n o p->br (decide (o < (l:Int))) (idx h l o 1 λc=>∃ e,cL p c (iI e)/\bf Proofs.Tryz.prog (Instr.lookup 105 (Value.map i) (iI e) false) p λc f=>∃ g h i,c = vS g h i/\rE 54 [vS g h i] f λc f=>∃ g h i,c = vS g h i/\rE 51 [vP (some (aM a)),vS g h i] f λc f=>∃ g,c = iI g/\new f (oC [iI e,iI g] 56) λc e=>rS (fe 52 (Array.mk [vS j m n,vS (some (aM c)) 1 1])) e λc e=>∃ f g h,c = vS f g h/\∃ c i l,cL e (aM a) (vS c i l)/\br (decide (256 < (i:Int))) (da e (aM b) [vS none 0 0,iI 0,iI 0] λa=>∃ c d e f g,rA a (aM b) 3 [vS c d e,iI f,iI g]/\R (vU [vG [vS c d e,iI f,iI g],iI 11]) a) (ax (o + 1)/\d f g h (o + 1) e/\k f g h (o + 1) e < k j m n o p)) (∀ b,drawn p b->∃ (d:WP),d b/\∃ h i k,(∀ b,d b->cL b (aM a) (vS h i k))/\rE 55 [vS j m n] b λa b=>∃ j k l,a = vS j k l/\d b/\idx h i e 2 λa=>st1 b (Addr.add a 1) (vS j k l) λa=>ax (e + 1)/\c (e + 1) a/\f (e + 1) a < f e g))\/∃ a b,o = vU [vB true,iI a,b]/\bf Proofs.Tryz.prog (Instr.entry (vP j)) p λa b=>∃ c e,a = vU [iI c,e]/\new b (oC [iI c] 3) λa b=>rS (fe 24 (Array.mk [vS h l m,vS (some (aM a)) 1 1])) b λa b=>∃ c e f,a = vS c e f/\d c e f b/\k c e f b < k h l m n) (∃ c d e,cL g (aM a) (vS c d e)/\rE 56 [vS c d e] g λc d=>∃ e f g,c = vS e f g/\st1 d (aM a) (vS e f g) λc=>∃ d e f g h,rA c (aM a) 3 [vS d e f,iI g,iI h]/\da c (aM b) [vS d e f,iI g,iI h] λa=>∃ c d e f g,rA a (aM b) 3 [vS c d e,iI f,iI g]/\R (vU [vG [vS c d e,iI f,iI g],iI 0]) a))):ρ 26 [φ a i j b k l c m n A d o p] w R:=rv Tryz.func26 E7 (by kernel_rfl) h
abbrev PX:FuncId:=50
def K8:bm:={ rngs:=[],loops:=[(3,[(13,(.one (.int .i64)))])],joins:=[],blocks:=[] }
theorem K9 (h:new w (ψ a i j b k l c m n A d o p) λa b=>∃ c d e f g h i j k l m n o,rA b (aM a) 5 [vS c d e,vS f g h,vS i j k,iI l,vS m n o]/\new b (Obj.map (Array.mk []) 0) λb p=>new p (oC [vS c d e,vS f g h,vS i j k,iI l,vS m n o,Value.map (some b)] 162) λb c=>∃ d e f,cL c (Addr.add (aM a) 4) (vS d e f)/\τ [(13,aB)] λa f=>a 0 c/\∀ (_:ν) c g,a c g->br (decide (c < (e:Int))) (idx d e c 3 λd=>∃ e h i j k,rA g d 3 [iI e,vS h i j,iI k]/\new g (oC [iI 0,vS none 0 0,iI 0] 81) λd l=>da l (aM d) [iI e,vS h i j,iI k] λe=>∀ h,drawn e h->∃ (e:WP),e h/\∃ i,(∀ a,e a->cL a (Addr.add (aM b) 5) (Value.map i))/\∃ j,(∀ a,e a->cL a (aM d) (iI j))/\∃ k,(∀ a,e a->cL a (Addr.add (aM b) 5) (Value.map k))/\∃ b,(∀ a,e a->cL a (aM d) (iI b))/\(bf Proofs.Tryz.prog (Instr.lookup 160 (Value.map k) (iI b) false) h λb d=>∃ h k l,b = vS h k l/\e d/\new d (oC [iI c] 3) λb d=>e d/\rS (fe 24 (Array.mk [vS h k l,vS (some (aM b)) 1 1])) d λb d=>∃ h k l,b = vS h k l/\e d/\bf Proofs.Tryz.prog (Instr.mapUpdate 160 (Value.map i) (iI j) (vS h k l)) d λ(_:Unit) (b:aa4)=>ax (c + 1)/\a (c + 1) b/\f (c + 1) b < f c g)/\new h (oC [iI c] 3) λd h=>e h/\bf Proofs.Tryz.prog (Instr.lookup 160 (Value.map k) (iI b) false) h λb h=>∃ k l m,b = vS k l m/\e h/\rS (fe 24 (Array.mk [vS k l m,vS (some (aM d)) 1 1])) h λb d=>∃ h k l,b = vS h k l/\e d/\bf Proofs.Tryz.prog (Instr.mapUpdate 160 (Value.map i) (iI j) (vS h k l)) d λ(_:Unit) (b:aa4)=>ax (c + 1)/\a (c + 1) b/\f (c + 1) b < f c g) (R (vP (some (aM b))) g)):ρ 50 [φ a i j b k l c m n A d o p] w R:=rv Tryz.func50 K8 (by kernel_rfl) h
abbrev xl:FuncId:=51
def ui:bm:={ rngs:=[],loops:=[],joins:=[(5,[])],blocks:=[] }
theorem uj (h:nn a λc=>∃ d,cL w (Addr.add c 1) (iI d)/\ax (d + 1)/\nn a λc=>st1 w (Addr.add c 1) (iI (d + 1)) λc=>rE 91 [vS b i j] c λc d=>∃ e,c = Value.string e/\∃ (c:lP []),(∀ f,drawn d f->∃ (d:WP),d f/\nn a λg=>∃ h,(∀ a,d a->cL a (Addr.add g 3) (Value.map h))/\bf Proofs.Tryz.prog (Instr.lookup 99 (Value.map h) (Value.string e) false) f λf g=>∃ h,f = iI h/\∃ (f:WP),f g/\(∀ a,f a->d a)/\br (decide (0 < h)) (nn a λd=>∃ h j k,(∀ a,f a->cL a d (vS h j k))/\nn a λd=>∃ k,(∀ a,f a->cL a (Addr.add d 3) (Value.map k))/\idx b i 0 2 λb=>∃ d i,(∀ a,f a->rA a b 2 [iI d,iI i])/\bf Proofs.Tryz.prog (Instr.lookup 99 (Value.map k) (Value.string e) false) g λb g=>∃ k,b = iI k/\∃ (b:WP),b g/\(∀ a,b a->f a)/\ax (k - 1)/\idx h j (k - 1) 2 λf=>∃ h j k,(∀ a,b a->cL a f (vS h j k))/\idx h j 0 2 λf=>∃ h j,(∀ a,b a->rA a f 2 [iI h,iI j])/\∃ f,(∀ a,b a->Sem.run Proofs.Tryz.prog (je BinOp.eql 104 (Operand.tmp 41) (Operand.tmp 44) (vG [iI h,iI j]) (vG [iI d,iI i])) a = Result.ok f a)/\∃ b,f = vB b/\br b (nn a λa=>∃ b,cL g (Addr.add a 3) (Value.map b)/\bf Proofs.Tryz.prog (Instr.lookup 99 (Value.map b) (Value.string e) false) g λa b=>∃ c,a = iI c/\ax (c - 1)/\R (iI (c - 1)) b) (c g)) (c g))/\∀ (_:ν) d,c d->nn a λc=>∃ f,cL d (Addr.add c 2) (iI f)/\ax (f + 1)/\nn a λc=>st1 d (Addr.add c 2) (iI (f + 1)) λc=>nn a λd=>∃ f g h,cL c d (vS f g h)/\new c (oC [vS b i j,vS none 0 0] 54) λb c=>rS (fe 43 (Array.mk [vS f g h,vS (some (aM b)) 1 1])) c λb c=>∃ d f g,b = vS d f g/\nn a λb=>st1 c b (vS d f g) λb=>∀ c,drawn b c->∃ (b:WP),b c/\nn a λd=>∃ f,(∀ a,b a->cL a (Addr.add d 3) (Value.map f))/\nn a λd=>∃ g h i,(∀ a,b a->cL a d (vS g h i))/\bf Proofs.Tryz.prog (Instr.mapUpdate 99 (Value.map f) (Value.string e) (iI (h:Int))) c λ(_:Unit) (b:aa4)=>nn a λa=>∃ c,cL b (Addr.add a 3) (Value.map c)/\bf Proofs.Tryz.prog (Instr.lookup 99 (Value.map c) (Value.string e) false) b λa b=>∃ c,a = iI c/\ax (c - 1)/\R (iI (c - 1)) b):ρ 51 [(.pointer a),(.slice b i j)] w R:=rv Tryz.func51 ui (by kernel_rfl) h
abbrev vE:FuncId:=52
def sy:bm:={ rngs:=[],loops:=[(3,[(14,(.one (.int .i64)))])],joins:=[],blocks:=[] }
theorem sA (h:new w (Obj.map (Array.mk []) 0) λc d=>rE 92 [vP a,vS b i j] d λb d=>∃ e f g,b = vS e f g/\τ [(14,aB)] λb g=>b 0 d/\∀ (_:ν) d h,b d h->br (decide (d < (f:Int))) (idx e f d 2 λe=>∃ f i,rA h e 2 [iI f,iI i]/\new h (oC [iI 0,iI 0] 104) λe j=>da j (aM e) [iI f,iI i] λf=>∃ i j,rA f (aM e) 2 [iI i,iI j]/\rE 93 [vP a,vG [iI i,iI j]] f λa f=>∃ i,a = iI i/\br (decide (0<=i)) (bf Proofs.Tryz.prog (Instr.lookup 105 (Value.map (some c)) (iI i) false) f λa f=>∃ j k l,a = vS j k l/\∃ a,cL f (aM e) (iI a)/\∃ m,cL f (Addr.add (aM e) 1) (iI m)/\ax (m + 1)/\new f (oC [iI a,iI (m + 1)] 104) λa e=>rS (fe 51 (Array.mk [vS j k l,vS (some (aM a)) 1 1])) e λa e=>∃ f j k,a = vS f j k/\bf Proofs.Tryz.prog (Instr.mapUpdate 105 (Value.map (some c)) (iI i) (vS f j k)) e λ(_:Unit) (a:aa4)=>ax (d + 1)/\b (d + 1) a/\g (d + 1) a < g d h) (ax (d + 1)/\b (d + 1) f/\g (d + 1) f < g d h)) (R (Value.map (some c)) h)):ρ 52 [(.pointer a),(.slice b i j)] w R:=rv Tryz.func52 sy (by kernel_rfl) h
abbrev K_:FuncId:=54
def Hf:bm:={ rngs:=[],loops:=[],joins:=[],blocks:=[] }
theorem Hg (h:rE 96 [vS a i j,Value.func (Fn.func 97) (Array.mk []) (Array.mk [])] w λb c=>b = vU []/\rE 101 [vS a i j] c λa b=>∃ c d e,a = vS c d e/\rE 100 [vS c d e] b λa b=>∃ c d e,a = vS c d e/\R (vS c d e) b):ρ 54 [(.slice a i j)] w R:=rv Tryz.func54 Hf (by kernel_rfl) h
def iB:bm:={ rngs:=[],loops:=[],joins:=[],blocks:=[] }
theorem iC (h:lR a i j none (some (i:Int)) (some (i:Int)) 2 λ(a:aa3) (b c:Nat)=>R (vS a b c) w):ρ 55 [(.slice a i j)] w R:=rv Tryz.func55 iB (by kernel_rfl) h
def gC:bm:={ rngs:=[],loops:=[],joins:=[],blocks:=[] }
theorem gD (h:lR a i j none (some (i:Int)) (some (i:Int)) 2 λ(a:aa3) (b c:Nat)=>R (vS a b c) w):ρ 56 [(.slice a i j)] w R:=rv Tryz.func56 gC (by kernel_rfl) h
abbrev NU:FuncId:=91
def Jf:bm:={ rngs:=[],loops:=[(3,[(3,(.one .slice)),(8,(.one (.int .i64)))])],joins:=[],blocks:=[] }
theorem Jg (h:τ [(3,fD),(8,aB)] λb c=>b none 0 0 0 w/\∀ (_:ν) d e f g h,b d e f g h->br (decide (g < (i:Int))) (idx a i g 2 λa=>∃ i j,rA h a 2 [iI i,iI j]/\new h (oC [iI 0,iI 0] 104) λa k=>da k (aM a) [iI i,iI j] λi=>∃ j,cL i (aM a) (iI j)/\∃ k,cL i (Addr.add (aM a) 1) (iI k)/\∃ l,cL i (Addr.add (aM a) 1) (iI l)/\ns 8/\new i (oC [Value.int IntKind.u8 (IntKind.wrap IntKind.u8 j),Value.int IntKind.u8 (IntKind.wrap IntKind.u8 k),Value.int IntKind.u8 (IntKind.wrap IntKind.u8 (bQ IntKind.i64 l 8))] 5) λa i=>rS (fe 201 (Array.mk [vS d e f,vS (some (aM a)) 3 3])) i λa i=>∃ j k l,a = vS j k l/\ax (g + 1)/\b j k l (g + 1) i/\c j k l (g + 1) i < c d e f g h) (bf Proofs.Tryz.prog (convert 201 9 (vS d e f)) h λa b=>∃ c,a = Value.string c/\R (Value.string c) b)):ρ 91 [(.slice a i j)] w R:=rv Tryz.func91 Jf (by kernel_rfl) h
abbrev vF:FuncId:=92
def sB:bm:={ rngs:=[],loops:=[(4,[(5,(.one .slice)),(7,(.one (.int .i64)))]),(10,[(5,(.one .slice)),(45,(.one (.int .i64)))])],joins:=[],blocks:=[] }
theorem sC (h:rE 144 [vS b i j] w λb c=>∃ d e f,b = vS d e f/\new c (Obj.map (Array.mk []) 0) λb c=>τ [(5,fD),(7,aB)] λg h=>g d e f 0 c/\∀ (_:ν) c d e f i,g c d e f i->br (decide (f < (d:Int))) (idx c d f 2 λj=>∃ k l,rA i j 2 [iI k,iI l]/\rE 93 [vP a,vG [iI k,iI l]] i λj k=>∃ l,j = iI l/\br (decide (l < 0)) (ax (f + 1)/\g c d e (f + 1) k/\h c d e (f + 1) k < h c d e f i) (bf Proofs.Tryz.prog (Instr.lookup 226 (Value.map (some b)) (iI l) false) k λj k=>∃ m,j = iI m/\br (decide (0 < m)) (ax (f + 1)/\g c d e (f + 1) k/\h c d e (f + 1) k < h c d e f i) (bf Proofs.Tryz.prog (Instr.lookup 226 (Value.map (some b)) (iI l) false) k λj k=>∃ m,j = iI m/\ax (m + 1)/\bf Proofs.Tryz.prog (Instr.mapUpdate 226 (Value.map (some b)) (iI l) (iI (m + 1))) k λ(_:Unit) (b:aa4)=>nn a λa=>∃ j,cL b (Addr.add a 5) (Value.map j)/\bf Proofs.Tryz.prog (Instr.lookup 160 (Value.map j) (iI l) false) b λa b=>∃ j k l,a = vS j k l/\τ [(5,fD),(45,aB)] λa l=>a c d e 0 b/\∀ (_:ν) b m n o p,a b m n o p->br (decide (o < (k:Int))) (idx j k o 1 λc=>∃ d,cL p c (iI d)/\new p (oC [iI d,iI 0] 104) λc d=>rS (fe 51 (Array.mk [vS b m n,vS (some (aM c)) 1 1])) d λc d=>∃ e f g,c = vS e f g/\ax (o + 1)/\a e f g (o + 1) d/\l e f g (o + 1) d < l b m n o p) (ax (f + 1)/\g b m n (f + 1) p/\h b m n (f + 1) p < h c d e f i)))) (rE 54 [vS c d e] i λa b=>∃ c d e,a = vS c d e/\R (vS c d e) b)):ρ 92 [(.pointer a),(.slice b i j)] w R:=rv Tryz.func92 sB (by kernel_rfl) h
abbrev xm:FuncId:=93
def uk:bm:={ rngs:=[],loops:=[],joins:=[],blocks:=[] }
theorem um (h:new w (oC [iI A,iI B] 104) λb c=>∀ d,drawn c d->∃ (c:WP),c d/\nn a λa=>∃ e f g,(∀ b,c b->cL b (Addr.add a 4) (vS e f g))/\∃ a,(∀ d,c d->cL d (aM b) (iI a))/\idx e f a 3 λa=>∃ e f g,(∀ b,c b->cL b (Addr.add a 1) (vS e f g))/\∃ a,cL d (Addr.add (aM b) 1) (iI a)/\br (a == (f:Int)) (R (iI (-1)) d) (∃ a,cL d (Addr.add (aM b) 1) (iI a)/\idx e f a 1 λa=>∃ b,cL d a (iI b)/\R (iI b) d)):ρ 93 [(.pointer a),(.agg #[(.int .i64 A),(.int .i64 B)])] w R:=rv Tryz.func93 uk (by kernel_rfl) h
def BQ:bm:={ rngs:=[],loops:=[],joins:=[],blocks:=[] }
theorem BR (h:new w (oC [iI A,iI B] 104) λa b=>new b (oC [iI C,iI D] 104) λb c=>∀ d,drawn c d->∃ (c:WP),c d/\∃ e,(∀ b,c b->cL b (aM a) (iI e))/\∃ f,(∀ a,c a->cL a (aM b) (iI f))/\∃ g,(∀ b,c b->cL b (Addr.add (aM a) 1) (iI g))/\∃ a,(∀ d,c d->cL d (Addr.add (aM b) 1) (iI a))/\rE 99 [iI e,iI f] d λb d=>∃ e,b = iI e/\c d/\rE 99 [iI g,iI a] d λa b=>∃ d,a = iI d/\c b/\new b (oC [iI e,iI d] 3) λa b=>c b/\rE 98 [vS (some (aM a)) 2 2] b λa b=>∃ d,a = iI d/\c b/\R (iI d) b):ρ 97 [(.agg #[(.int .i64 A),(.int .i64 B)]),(.agg #[(.int .i64 C),(.int .i64 D)])] w R:=rv Tryz.func97 BQ (by kernel_rfl) h
def BS:bm:={ rngs:=[],loops:=[(3,[(8,(.one (.int .i64)))])],joins:=[],blocks:=[] }
theorem BT (h:τ [(8,aB)] λb c=>b 0 w/\∀ (_:ν) d e,b d e->br (decide (d < (i:Int))) (idx a i d 1 λa=>∃ f,World.cell? e a = some (iI f)/\br (f != 0) (R (iI f) e) (ax (d + 1)/\b (d + 1) e/\c (d + 1) e < c d e)) (R (iI 0) e)):ρ 98 [(.slice a i j)] w R:=rv Tryz.func98 BS (by kernel_rfl) h
def uo:bm:={ rngs:=[],loops:=[],joins:=[],blocks:=[] }
theorem uq (h:rE 157 [iI A] w λa b=>∃ c,a = vB c/\rE 157 [iI B] b λa b=>∃ d,a = vB d/\br c (br d (R (iI 0) b) (R (iI (-1)) b)) (br d (R (iI 1) b) (br (decide (A < B)) (R (iI (-1)) b) (br (decide (B < A)) (R (iI 1) b) (R (iI 0) b))))):ρ 99 [(.int .i64 A),(.int .i64 B)] w R:=rv Tryz.func99 uo (by kernel_rfl) h
def iD:bm:={ rngs:=[],loops:=[],joins:=[],blocks:=[] }
theorem iE (h:lR a i j none (some (i:Int)) (some (i:Int)) 2 λ(a:aa3) (b c:Nat)=>R (vS a b c) w):ρ 100 [(.slice a i j)] w R:=rv Tryz.func100 iD (by kernel_rfl) h
abbrev gW:FuncId:=101
def gb:bm:={ rngs:=[],loops:=[(4,[(3,(.one (.int .i64)))]),(9,[(3,(.one (.int .i64))),(5,(.one (.int .i64)))])],joins:=[],blocks:=[] }
theorem gd (h:br (decide ((i:Int) < 2)) (R (vS a i j) w) (τ [(3,aB)] λb c=>b 1 w/\∀ (_:ν) d e,b d e->br (decide (d < (i:Int))) (∀ f,drawn e f->∃ (g:WP),g f/\idx a i d 2 λh=>∃ k l,(∀ a,g a->rowAt a h 0 2 = some [iI k,iI l])/\ax (d - 1)/\idx a i (d - 1) 2 λh=>∃ m n,(∀ a,g a->rowAt a h 0 2 = some [iI m,iI n])/\∃ h,(∀ a,g a->Sem.run Proofs.Tryz.prog (je BinOp.eql 104 (Operand.tmp 19) (Operand.tmp 24) (vG [iI k,iI l]) (vG [iI m,iI n])) a = Result.ok h a)/\∃ g,h = vB g/\br g (lR a i j (some d) none none 2 λ(b:aa3) (c _:Nat)=>τ [(3,aB),(5,aB)] λe g=>e d 1 f/\∀ (_:ν) d f h,e d f h->br (decide (f < (c:Int))) (∀ j,drawn h j->∃ (k:WP),k j/\idx b c f 2 λl=>∃ m n,(∀ a,k a->rowAt a l 0 2 = some [iI m,iI n])/\ax (f - 1)/\idx b c (f - 1) 2 λl=>∃ o p,(∀ a,k a->rowAt a l 0 2 = some [iI o,iI p])/\∃ l,(∀ a,k a->Sem.run Proofs.Tryz.prog (je BinOp.neq 104 (Operand.tmp 38) (Operand.tmp 43) (vG [iI m,iI n]) (vG [iI o,iI p])) a = Result.ok l a)/\∃ k,l = vB k/\br k (idx b c f 2 λb=>∃ c k,rowAt j b 0 2 = some [iI c,iI k]/\idx a i d 2 λa=>da j a [iI c,iI k] λa=>ax (d + 1)/\ax (f + 1)/\e (d + 1) (f + 1) a/\g (d + 1) (f + 1) a < g d f h) (ax (f + 1)/\e d (f + 1) j/\g d (f + 1) j < g d f h)) (lR a i j (some d) none none 2 λ(b:aa3) (c e:Nat)=>rS (Builtin.clear_ (Array.mk [51]) 0 (Array.mk [vS b c e])) h λ_ b=>lR a i j none (some d) none 2 λ(a:aa3) (c d:Nat)=>R (vS a c d) b)) (ax (d + 1)/\b (d + 1) f/\c (d + 1) f < c d e)) (R (vS a i j) e))):ρ 101 [(.slice a i j)] w R:=rv Tryz.func101 gb (by kernel_rfl) h
abbrev jc:FuncId:=144
def gX:bm:={ rngs:=[],loops:=[],joins:=[],blocks:=[] }
theorem gY (h:br (Option.isNone a) (R (vS none 0 0) w) (new w (oC [] 104) λb c=>rS (fe 51 (Array.mk [vS (some (aM b)) 0 0,vS a i j])) c λa b=>∃ c d e,a = vS c d e/\R (vS c d e) b)):ρ 144 [(.slice a i j)] w R:=rv Tryz.func144 gX (by kernel_rfl) h
end
section
open Go.Proofs Go.Sort
instance:Inhabited ai:=⟨⟨0,0⟩⟩
def cR (x:ai):List Value:=[.int .i64 x.prod,.int .i64 x.dot]
def tv (xs:List ai):List Value:=xs.flatMap cR
theorem yW (x:ai) (xs:List ai):tv (x :: xs) = .int .i64 x.prod :: .int .i64 x.dot :: tv xs:=rfl
theorem dX:∀ xs:List ai,(tv xs).length = xs.length * 2
 | []=>rfl
 | x :: xs=>by rw [yW,ZC,ZC,dX xs,ZC]; omega
theorem oh (xs ys:List ai):tv (xs ++ ys) = tv xs ++ tv ys:=ZB
theorem PY:∀ (xs:List ai) (t:Nat),(tv xs)[t]? = (xs[t / 2]?).bind λx=>(cR x)[t % 2]?
 | [],t=>by simp [tv]
 | x :: xs,0=>rfl
 | x :: xs,1=>rfl
 | x :: xs,t + 2=>by
  rw [yW,aaL,aaL,PY xs t,show (t + 2) / 2 = t / 2 + 1 by omega,show (t + 2) % 2 = t % 2 by omega,aaL]
theorem Hh (xs:List ai):(flatK cR 2 xs.toArray).toList = tv xs:=by
 apply ZK;intro t;rw [PY]
 by_cases h:t < xs.length * 2
 ·have O:t / 2 < xs.length:=ω
  have z:t < (flatK cR 2 xs.toArray).size:=by simp; omega
  have G:=get_flatK cR 2 xs.toArray t (by simpa using h);rw [getElem!_pos _ t z] at G;rw [ZD,Array.getElem?_eq_getElem z,G,YU O,Option.bind_some,getElem!_pos xs.toArray (t / 2) (by simpa using O)];have u:t % 2 < (cR xs[t / 2]).length:=by simp [cR]; omega
  rw [YU u];congr 1;simp [u]
 ·rw [ZD,Array.getElem?_eq_none (by simp; omega),Zf ω]; rfl
section
variable {w:aa4} {L:List az}
theorem PZ {a:aa3} {l c:Nat} {xs:List ai} (h:St w (own 2 a l c (tv xs) :: L)) (hl:0 < l) :
  ∃ b off,a = some ⟨b,off,none⟩/\l = xs.length/\HoldsK cR 2 w b off xs.toArray/\b < w.heap.size /\
   (∀ (m:Nat) (os:Array Obj) (d' : Array ai),d'.size = xs.length->St (sortWorldK cR 2 w b off m d' os) (own 2 a l c (tv d'.toList) :: L)):=by
 rcases cX h with ⟨_,V,_⟩ | ⟨b,pre,cs,u,rfl,z,Z,V,h3⟩
 ·omega
 ·have G:l = xs.length:=by rw [dX] at Z; omega
  refine ⟨b,pre.length,rfl,G,?_,?_,?_⟩
  ·intro j R;have O:j < (tv xs).length:=by rw [dX]; simpa using R
   refine ⟨?_,z.frozen _ _⟩;rw [z.cell,Y_ ω,ZS,Y8 O,<- Hh,ZD,Array.getElem?_eq_getElem R,getElem!_pos _ j R];rfl
  ·obtain ⟨e,h⟩:=iw.1 z;exact (ZG.1 h.get).1
  ·intro m os d' U;have W:=z.sort (enc:=id) pre.length m (flatK cR 2 d') os;have Y:tv xs = (flatK cR 2 xs.toArray).toList.map id:=by rw [Hh]; simp
   have X:(flatK cR 2 d').toList.map id = tv d'.toList:=by
    have:=Hh d'.toList;simp only [Array.toArray_toList] at this;rw [this]; simp
   rw [Y,yO pre (cs ++ u) (flatK cR 2 xs.toArray) (flatK cR 2 d') (by simp [U]),X] at W
   refine dS W ?_ ?_ h3
   ·rw [dX,aa2,U]; omega
   ·rw [Y0,dX] at V ⊢;rw [aa2,U]; omega
end
def sD (a b:Int):Int:=if a < b then -1 else if b < a then 1 else 0
def La (x y:ai):Int:=if sD x.prod y.prod = 0 then sD x.dot y.dot else sD x.prod y.prod
theorem nK (x y:ai):ltOf La x y = decide (x.lt y):=by
 have h:La x y < 0↔x.lt y:=by
  unfold La sD ai.lt
  by_cases G:x.prod < y.prod
  ·simp [G]
  ·by_cases R:y.prod < x.prod
   ·simp [G,R]; omega
   ·have z:x.prod = y.prod:=ω
    by_cases u:x.dot < y.dot
    ·simp [z,u]
    ·by_cases O:y.dot < x.dot
     ·simp [z,u,O]
     ·simp [z,u,O]
 unfold ltOf;rw [decide_eq_decide,h]
theorem XY:SWO (ltOf La):=⟨λx=>by rw [nK]; exact Zu (ai.lt_irrefl x),λx y z=>by rw [nK,nK,nK]; simp only [Y7]; exact ai.lt_trans,λx y z=>by
 rw [nK,nK,nK]; simp only [ZL]; unfold ai.lt; intro O u G; omega⟩
end
section
open Go.V Go.Sort Go.Shelf
variable {w:aa4} {L:List az}
theorem P0 (a b:Int):rE vD [.int .i64 a,.int .i64 b] w λv w'=>v = .int .i64 (sD a b)/\w' = w:=by
 have z:∀ a:Int,∀ w,rE yH [.int .i64 a] w λv w'=>v = .bool false/\w' = w:=λa w=>mc ⟨σ,rfl⟩;refine uq ((z a w).mono ?_);rintro _ _ ⟨rfl,rfl⟩;refine ⟨_,rfl,(z b _).mono ?_⟩;rintro _ _ ⟨rfl,rfl⟩
 refine ⟨_,rfl,ae (λh=>by cases h) λ_=>ae (λh=>by cases h) λ_=>ae (λh=>?_) λh=>ae (λu=>?_) λu=>?_⟩
 ·have h:=YR h; unfold sD; rw [Y5 h]; exact ⟨rfl,rfl⟩
 ·have h:=YS h; have u:=YR u; unfold sD; rw [YZ h,Y5 u]; exact ⟨rfl,rfl⟩
 ·have h:=YS h; have u:=YS u; unfold sD; rw [YZ h,YZ u]; exact ⟨rfl,rfl⟩
theorem XZ {a:aa3} {x y:Int} (hx:bh (hp w) [x,y] a 2):rE Dq [.slice a 2 2] w λv w'=>v = .int .i64 (if x = 0 then y else x)/\w' = w:=by
 refine BT ⟨λz w'=>∃ i:Nat,z = i/\i<=2/\(0 < i->x = 0)/\(1 < i->y = 0)/\w' = w,λz _=>2 - z.toNat,⟨0,rfl,ω,ω,ω,rfl⟩,?_⟩;rintro _ z Z ⟨i,rfl,hi,h0,W,U⟩;rw [U]
 refine ae (λG=>?_) λG=>?_
 ·have G:i < 2:=by have:=YR G; omega
  obtain ⟨u,ad,R,V,Y⟩:=hx.cY G
  refine aw V G ⟨u,Y _ (sub.refl _),ae (λO=>?_) λO=>?_⟩
  ·have O:u≠0:=bne_iff_ne.1 O
   match i,G with
   | 0,_=>simp at R; subst R; exact ⟨by rw [YZ O],rfl⟩
   | 1,_=>simp at R; subst R; rw [Y5 (h0 ω)]; exact ⟨rfl,rfl⟩
  ·have O:u = 0:=by simpa using O
   subst O
   refine ⟨⟨ω,ω⟩,⟨i + 1,rfl,G,λ_=>?_,λ_=>?_,rfl⟩,bn G⟩
   ·match i,G with
    | 0,_=>simpa using R
    | 1,_=>exact h0 ω
   ·match i,G with
    | 0,_=>omega
    | 1,_=>simpa using R
 ·have G:i = 2:=by have:=YS G; omega
  subst G;have X:=h0 ω;have U:=W ω;subst X; subst U;exact ⟨σ,rfl⟩
theorem VC (x y:ai) (w:aa4):ρ dW [.agg (cR x).toArray,.agg (cR y).toArray] w λv w'=>v = .int .i64 (La x y)/\∃ q os',w' = grow (w.drewN q) os':=by
 refine BR ?_;intro U V b1 e1;have h1:St V (aH U (cR x) :: all w):=(ag (St.all w) λb w' h=>h:new w (oC [iI x.prod,iI x.dot] bM) λb w'=>St w' (aH b (cR x) :: all w)) U V b1 e1;intro Y w2 b2 Z;have h2:St w2 (aH Y (cR y) :: aH U (cR x) :: all w):=(ag h1 λb w' h=>h:new V (oC [iI y.prod,iI y.dot] bM) λb w'=>St w' (aH b (cR y) :: aH U (cR x) :: all w)) Y w2 b2 Z;intro X W;have h3:=h2.eq (dT W);have r1:au (hp X) (aM U) (cR x):=ah 1 h3.l;have r2:au (hp X) (aM Y) (cR y):=ah 0 h3.l;refine ⟨λu=>Gr X u,Gr.refl _,x.prod,λu s=>r1.cell0 s,y.prod,λu s=>r2.cell0 s,x.dot,λu s=>r1.cell s (j:=1) rfl,y.dot,λu s=>r2.cell s (j:=1) rfl,(P0 _ _).mono ?_⟩;rintro _ _ ⟨rfl,rfl⟩;refine ⟨_,rfl,Gr.refl _,(P0 _ _).mono ?_⟩;rintro _ _ ⟨rfl,rfl⟩;refine ⟨_,rfl,Gr.refl _,?_⟩;intro k3 z b3 R;have G:St z (aH k3 [iI (sD x.prod y.prod),iI (sD x.dot y.dot)] :: all _):=(ag (St.all _) λb w' h=>h:new _ (oC [iI (sD x.prod y.prod),iI (sD x.dot y.dot)] dv) λb w'=>St w' (aH b [iI (sD x.prod y.prod),iI (sD x.dot y.dot)] :: all _)) k3 z b3 R;have O:=G.aW;refine ⟨O,(XZ (x:=sD x.prod y.prod) (y:=sD x.dot y.dot) (eO rfl (.inr ⟨_,rfl,ah 0 G.l⟩))).mono ?_⟩;rintro _ _ ⟨rfl,rfl⟩;refine ⟨_,rfl,O,rfl,1,#[oC [iI x.prod,iI x.dot] bM,oC [iI y.prod,iI y.dot] bM,oC [iI (sD x.prod y.prod),iI (sD x.dot y.dot)] dv],?_⟩;unfold drawn at W;rw [R,W,Z,e1];unfold grow World.drewN;simp only [World.mk.injEq,and_true];apply aan;simp
theorem S7 {blk off:Nat} {n:Nat}:CmpLays Tryz.prog dW #[] cR 2 La blk off n w:=λm os G z x y=>by
 refine Calls.mono (VC x y _) ?_
 rintro e w' ⟨v,rfl,_,rfl,q,u,rfl⟩
 exact ⟨rfl,q,u,rfl⟩
theorem Ev.W6 (w:aa4) (blk off m:Nat) (dk:Array ai) (os:Array Obj):Ev w (sortWorldK cR 2 w blk off m dk os):=Ev.sort (enc:=id) (blk:=blk) w off m (flatK cR 2 dk) os
theorem S8 {a:aa3} {l c:Nat} {xs:List ai} (h:St w (own 2 a l c (tv xs) :: L)) (hb:l < 4611686018427387904) :
  rE f_ [.slice a l c,.func (.func dW) (Array.mk []) (Array.mk [])] w λv w'=>v = .tuple (Array.mk [])/\∃ ys:List ai,ys.Perm xs/\ys.Pairwise (λx y=>¬y.lt x)/\St w' (own 2 a l c (tv ys) :: L):=by
 have X:=jg h;rw [dX] at X
 by_cases Y:0 < l
 ·obtain ⟨b,R,rfl,z,hH,O,hk⟩:=PZ h Y;subst z;have eg:∀ u w,(callFunc dW u).run Tryz.prog w = .ok (.enter dW u) w:=enters_of BP (by kernel_rfl) rfl;refine Calls.mono (AnyQ.slices_SortFunc UH 2 G8 G9 cR (λ_=>rfl) (λx v hv=>by simp [cR] at hv; rcases hv with rfl | rfl <;> rfl) La XY dW #[] b R c xs.toArray w eg S7 hH O (by simpa using hb)) ?_;rintro e w' ⟨rfl,G,n,os,U,hS,rfl⟩;have z:G.size = xs.length:=by simpa using U.1
  refine ⟨_,rfl,Ev.W6 w b R n _ os,rfl,G.toList,?_,?_,hk n os G z⟩
  ·have:=U.2.2;rw [Array.extract_size] at this;have Z:G.extract 0 xs.toArray.size = G:=by rw [<- U.1,Array.extract_size]
   rw [Z] at this;simpa using this
  ·rw [aaW];intro i j hi W V;rw [aa2] at hi W;have:=hS i j (Y4 _) V (by rw [<- U.1]; exact W);rw [nK,getElem!_pos G j W,getElem!_pos G i hi] at this;simpa using this
 ·have e:l = 0:=ω
  subst e;have ex:xs = []:=Y9 ω;subst ex;refine Calls.mono (AnyF.slices_SortFunc_none UH a c _ w) ?_;rintro e w' ⟨rfl,rfl⟩;exact ⟨_,rfl,Ev.refl _,rfl,[],.refl _,.nil,h⟩
theorem MC {a:aa3} {l c:Nat} {zs:List Int} (h:St w (own 1 a l c (iv zs) :: L)) (hb:l < 4611686018427387904) :
  rE pE [.slice a l c] w λv w'=>v = .tuple (Array.mk [])/\St w' (own 1 a l c (iv (zs.mergeSort λx y=>decide (x<=y))) :: L):=by
 rcases Nat.eq_zero_or_pos l with rfl | V
 ·have R:zs = []:=Y9 (by have:=jg h; simpa [iv] using this);subst R;refine Calls.mono (Any.slices_Sort_int_none UI a c w) ?_;rintro e w' ⟨rfl,rfl⟩;exact ⟨_,rfl,Ev.refl _,rfl,by simpa using h⟩
 obtain ⟨b,z,rfl,u,O,G,U⟩:=S3 (d:=zs.toArray) (enc:=Value.int .i64) (by simpa [iv] using h) V;simp only [List.size_toArray] at u;subst u;refine Calls.mono (Any.slices_Sort_int UI b z c zs w O G hb) ?_;rintro e w' ⟨rfl,n,os,rfl⟩;refine ⟨_,rfl,Ev.sort (enc:=Value.int .i64) w z n _ os,rfl,?_⟩;have:=U n os (zs.mergeSort λx y=>decide (x<=y)).toArray σ;have e:(zs.mergeSort λx y=>decide (x<=y)).toArray.toList.map (Value.int .i64) = iv (zs.mergeSort λx y=>decide (x<=y)):=by simp [iv]
 rw [e] at this;exact this
end
section
variable {P:Program} {Ty:TypeId->Option dg} {w:aa4} {L:List az}
theorem FU (hT:dP P Ty) {t e ty:TypeId} {i:dg} {z:Value} (hk:aj Ty t = .slice e) (hi:Ty e = some i) (hz:i.zero = some z) (hzs:(cellsOf z).length = i.size) (h1:∀ v∈cellsOf z,aG v = true) (h0:0 < i.size)
  {a:aa3} {l c kk c2:Nat} {us:List Value} (h:St w (own i.size a l c us :: L)) (hkl:kk<=l) :
  bf P (Builtin.clear_ (Array.mk [t]) ty (Array.mk [.slice (fT a kk c i.size) (l - kk) c2])) w λv w'=>∃ us' : List Value,us'.take (kk * i.size) = us.take (kk * i.size)/\St w' (own i.size a l c us' :: L):=by
 obtain ⟨d,W,U⟩:=db hT hk σ;rw [dQ U] at W;obtain ⟨a4,d2,ha⟩:=oV hT hi;have a1:(zeroValue e).run P w = .ok z w:=j9 ha.inf (by rw [<- ha.zero,hz]);have u:=jg h
 by_cases a5:kk < l
 ·have V:0 < us.length:=by rw [u]; exact Nat.mul_pos ω h0
  obtain ⟨Y,rfl⟩:=gV h V;have a6:=dI h
  have X:fT (some Y) kk c i.size = some (Y.add (kk * i.size)):=by
   unfold fT; rw [YZ ω,aN]; rfl
  obtain ⟨m,hm⟩ : ∃ m,l - kk = m + 1:=⟨l - kk - 1,ω⟩;have Z:z.cells = ⟨cellsOf z⟩:=by rw [dp]
  have a0:(Builtin.zeroCells z.cells (m + 1)).toList = (List.replicate (m + 1) (cellsOf z)).flatten:=by
   unfold Builtin.zeroCells;rw [Z];have:=C0 (cellsOf z) (m + 1);simp only [List.size_toArray] at this ⊢;rw [this]
  have O:∀ n,(List.replicate n (cellsOf z)).flatten.length = n * i.size:=λn=>by
   induction n with
   | zero=>simp
   | succ n ih=>rw [aar,List.flatten_cons,Y0,ih,hzs,aao,aaQ]
  have G:(m + 1) * i.size = l * i.size - kk * i.size:=by rw [<- hm,Nat.sub_mul]
  have a3:kk * i.size<=l * i.size:=aah _ hkl
  have R:=yR (i:=kk * i.size) (vs:=(List.replicate (m + 1) (cellsOf z)).flatten) (k:=λw'=>St w' (own i.size (some Y) l c (us.take (kk * i.size) ++ (List.replicate (m + 1) (cellsOf z)).flatten ++ us.drop (kk * i.size + (List.replicate (m + 1) (cellsOf z)).flatten.length)) :: L)) h rfl
   (by rw [O,u,G]; omega) (λv hv=>by
    obtain ⟨x,hx,hv⟩:=List.mem_flatten.1 hv;rw [List.eq_of_mem_replicate hx] at hv; exact h1 v hv) (by rw [O]; exact Nat.mul_pos ω h0) λw' h=>h
  refine ⟨.tuple #[],_,?_,Ev.cO w _ _ _ _ (Ev.refl _),_,?_,R.2 _ rfl⟩
  ·unfold Builtin.clear_;rw [X,hm];simp only;simp [Sem.run_bind,aZ W,a1,a0,jf _ _ _ _ R.1]
  ·rw [Y6,List.take_left' (by rw [Zj]; omega)]
 ·have e:l - kk = 0:=ω
  rw [e];refine ⟨.tuple #[],w,?_,Ev.refl _,us,rfl,h⟩;unfold Builtin.clear_;cases hs:fT a kk c i.size <;> simp [aZ W]
end
section
variable {w:aa4} {L:List az} {xs:List ai} {a:aa3} {l c:Nat}
theorem P1 {h:Hp} {ad:Addr} (r:au h ad (tv xs)) {i:Nat} {x:ai} (hx:xs[i]? = some x):au h (ad.add (cE i 2)) (cR x):=λj v hv=>by
 have u:j < 2:=(YT.1 hv).1
 rw [aN,add_add]
 refine r (i * 2 + j) v ?_
 rw [PY,show (i * 2 + j) / 2 = i by omega,show (i * 2 + j) % 2 = j by omega,hx]
 exact hv
theorem Cr {h:Hp} (hl:xs.length = l) (r:fo a (tv xs) h):bh h xs a l:=by
 refine ⟨hl,λi x u=>?_⟩
 rcases r with e | ⟨z,rfl,G⟩
 ·have O:=congrArg List.length e;rw [dX,ZJ] at O;have:=(YT.1 u).1;omega
 ·exact ⟨z,_,rfl,P1 G u,rfl⟩
theorem cU (h:St w (own 2 a l c (tv xs) :: L)):bh (hp w) xs a l:=by
 have u:=jg h;rw [dX] at u;obtain ⟨G,s,z⟩:=h.first;exact (Cr ω (cP z)).mono s
theorem cV {h:Hp} (r:bh h xs a l) {i:Nat} (hi:i < l):∃ x ad,xs[i]? = some x/\a = some ad/\∀ u:aa4,sub h (hp u)->rowAt u (ad.add (cE i 2)) 0 2 = some [.int .i64 x.prod,.int .i64 x.dot]:=by
 obtain ⟨x,ad,vs,z,O,G,rfl⟩:=r.get hi;exact ⟨x,ad,z,O,λu s=>G.at s rfl⟩
theorem VD {i:Nat} {x:ai} (hi:i < xs.length):(tv xs).take (i * 2) ++ [.int .i64 x.prod,.int .i64 x.dot] ++ (tv xs).drop (i * 2 + 2) = tv (xs.set i x):=by
 rw [List.set_eq_take_append_cons_drop,Y5 hi];have O:tv xs = tv (xs.take i) ++ tv (xs.drop i):=by rw [<- oh,Zk]
 have G:tv xs = tv (xs.take (i + 1)) ++ tv (xs.drop (i + 1)):=by rw [<- oh,Zk]
 have u:(tv (xs.take i)).length = i * 2:=by rw [dX,Zj]; omega
 have l2:(tv (xs.take (i + 1))).length = i * 2 + 2:=by rw [dX,Zj]; omega
 have R:(tv xs).take (i * 2) = tv (xs.take i):=by rw [O,List.take_left' u]
 have z:(tv xs).drop (i * 2 + 2) = tv (xs.drop (i + 1)):=by rw [G,List.drop_left' l2]
 rw [R,z,oh,yW];simp
theorem S9 (xs:List ai) (k:Nat):(tv xs).take (k * 2) = tv (xs.take k):=by
 by_cases h:k<=xs.length
 ·have u:tv xs = tv (xs.take k) ++ tv (xs.drop k):=by rw [<- oh,Zk]
  rw [u,List.take_left' (by rw [dX,Zj]; omega)]
 ·rw [Zb (by rw [dX]; omega),Zb ω]
theorem fK {sz:Nat} {vs:List Value} (h:St w (own sz a l c vs :: L)):St w (own sz (fT a 0 l sz) l l vs :: L):=by
 rcases cX h with ⟨rfl,rfl,rfl,rfl⟩ | ⟨b,pre,cs,post,rfl,z,u,G,O⟩
 ·have:fT none 0 0 sz = none:=by simp [fT]
  rw [this]; exact h
 ·have e:fT (some (⟨b,pre.length,none⟩ : Addr)) 0 l sz = some ⟨b,pre.length,none⟩:=by
   unfold fT; split
   ·rfl
   ·simp [aN,add_lit]
  rw [e];exact dS (cs:=[]) (post:=cs ++ post) (by simpa using z) u (by simpa using u) (Zc _)
theorem fL {a:aa3} {l c sz:Nat} {k:aa3->Nat->Nat->Prop} (h1:l<=c) (hk:k (fT a 0 l sz) l l):lR a l c none (some (l:Int)) (some (l:Int)) sz k :=
 ⟨.inr ⟨σ,by show (0:Int)<=(l:Int); omega,by show (l:Int)<=(c:Int); omega⟩,.inr ⟨by show (0:Int)<=(l:Int); omega,by show (l:Int)<=(l:Int); omega⟩,⟨by decide,by show (0:Int)<=(l:Int); omega⟩,by simpa using hk⟩
end
abbrev W7 (l:List ai):Prop:=l.Pairwise λx y=>¬y.lt x
theorem W7.at {xs:List ai} (h:W7 xs) {i j:Nat} {x y:ai} (hij:i < j) (hi:xs[i]? = some x) (hj:xs[j]? = some y):¬y.lt x:=by
 obtain ⟨z,rfl⟩:=YT.1 hi;obtain ⟨u,rfl⟩:=YT.1 hj;exact aaW.1 h i j z u hij
theorem MD {xs:List ai} {n:Nat} {x:ai} (h1:xs[n]? = some x) (h2:xs[n + 1]? = some x):lay (xs.take (n + 2)) = lay (xs.take (n + 1)) :=
 K5 (ga _) λy=>by
  rw [fx,Y2 (i:=n + 1),h2,Z6,YY,Zl]
  refine ⟨.inl,λh=>h.elim id ?_⟩
  rintro rfl
  exact YV (i:=n) (by rw [ZT,Y5 ω]; exact h1)
theorem ME {xs:List ai} (hs:W7 xs) {n:Nat} {x z:ai} (h1:xs[n]? = some z) (h2:xs[n + 1]? = some x) (hne:x≠z):lay (xs.take (n + 2)) = lay (xs.take (n + 1)) ++ [x]:=by
 refine K5 ?_ λy=>by rw [YY,fx,Y2 (i:=n + 1),h2,Z6,YY]
 rw [jb,aaZ];refine ⟨ga _,σ,λy W u U=>?_⟩;rw [Zl] at U;subst U;rw [fx] at W;obtain ⟨i,hi⟩:=Zr W;have R:i < n + 1:=by have:=(YT.1 hi).1; rw [Zj] at this; omega
 rw [ZT,Y5 R] at hi;have G:z.lt u:=(ai.Mz hne).resolve_left (hs.at (Nat.lt_succ_self n) h1 h2)
 by_cases e:i = n
 ·subst e; rw [h1] at hi; cases hi; exact G
 ·have O:=hs.at (show i < n by omega) hi h1
  by_cases V:y = z
  ·rw [V]; exact G
  ·exact ai.lt_trans ((ai.Mz V).resolve_right O) G
theorem P3 {xs:List ai} (hs:W7 xs) {n:Nat} {x z:ai} (h:jb (xs.take (n + 1))) (h1:xs[n]? = some z) (h2:xs[n + 1]? = some x) (hne:x≠z):jb (xs.take (n + 2)):=by
 have e:=ME hs h1 h2 hne;rw [pH h] at e;have u:xs.take (n + 2) = xs.take (n + 1) ++ [x]:=by rw [Y2 (i:=n + 1),h2]; rfl
 rw [u,<- e];exact ga _
section
variable {w:aa4} {L:List az}
theorem FV (w:aa4) (x y:ai):(Op.equalIn (9998 + 1 + 1) bM (.agg ⟨cR x⟩) (.agg ⟨cR y⟩)).run Tryz.prog w = .ok (decide (x = y)) w:=by
 have ht:Tryz.prog.underlying bM = some (.struct (Tryz.prog.fieldsOf bM)):=by kernel_rfl
 have hi:Tryz.prog.underlying dv = some (.int .i64):=bJ;have hf : (Tryz.prog.fieldsOf bM).toList = [{ name := "Prod", type := dv, offset := 0, embedded := false, tag := "", pkgPath := "", byteOffset := 0 }, { name := "Dot", type := dv, offset := 1, embedded := false, tag := "", pkgPath := "", byteOffset := 8 }] := by kernel_rfl
 have O:∀ (v u:Value) (w:aa4),(part dv #[v,u] 0).run Tryz.prog w = .ok v w:=λv u w=>by simp [part,dR hi,fb,Kd.isAgg]
 have G:∀ (v u:Value) (w:aa4),(part dv #[v,u] 1).run Tryz.prog w = .ok u w:=λv u w=>by simp [part,dR hi,fb,Kd.isAgg]
 have z:∀ n m d w,(Op.equalIn (d + 1) dv (.int .i64 n) (.int .i64 m)).run Tryz.prog w = .ok (n == m) w:=λn m d w=>run_equalIn_int w d _ _ _ _ _ hi
 have e:decide (x = y) = (x.prod == y.prod && x.dot == y.dot):=by
  rw [ZI]; simp only [Y7,Zd,aaR];exact ⟨λh=>by subst h; exact ⟨rfl,rfl⟩,λ⟨U,R⟩=>ai.ext' U R⟩
 unfold cR;rw [run_equalIn_agg w (9998 + 1) bM _ _ ht G7,hf,e];unfold Op.eqFields;simp only [ne_eq,String.reduceEq,not_false_eq_true,if_true,Sem.run_bind,O,Result.andThen_ok,z]
 cases hq:(x.prod == y.prod)
 ·simp
 ·unfold Op.eqFields;simp only [ne_eq,String.reduceEq,not_false_eq_true,if_true,Sem.run_bind,G,Result.andThen_ok,z,Bool.not_true,aav,if_false]
  cases hn:(x.dot == y.dot)
  ·simp
  ·unfold Op.eqFields; simp
theorem DF (w:aa4) (xo yo:Operand) (x y:ai):Sem.run Tryz.prog (je .eql bM xo yo (.agg ⟨cR x⟩) (.agg ⟨cR y⟩)) w = .ok (.bool (decide (x = y))) w:=by
 unfold je;rw [Sem.run_bind,run_eqGuard_agg w _ _ _ _ _ _ yG];simp only [Result.andThen_ok];rw [run_eql_struct]
 show ((Op.equalIn (9998 + 1 + 1) bM (.agg ⟨cR x⟩) (.agg ⟨cR y⟩)).run Tryz.prog w).andThen _ = _
 rw [FV];rfl
theorem Lb (w:aa4) (xo yo:Operand) (x y:ai):Sem.run Tryz.prog (je .neq bM xo yo (.agg ⟨cR x⟩) (.agg ⟨cR y⟩)) w = .ok (.bool (!decide (x = y))) w:=by
 unfold je;rw [Sem.run_bind,run_eqGuard_agg w _ _ _ _ _ _ yG];simp only [Result.andThen_ok];rw [run_neq_struct]
 show ((Op.equalIn (9998 + 1 + 1) bM (.agg ⟨cR x⟩) (.agg ⟨cR y⟩)).run Tryz.prog w).andThen _ = _
 rw [FV];rfl
end
theorem MF {xs:List ai} {n:Nat} (h:n<=1):jb (xs.take n):=by
 match n,h with
 | 0,_=>simp
 | 1,_=>cases xs <;> simp
theorem P4 {xs ys:List ai} (h:ys.Perm xs):lay ys = lay xs:=K5 (ga _) λy=>by rw [fx,h.mem_iff]
section
variable {w:aa4} {L:List az} {a:aa3} {l c:Nat} {xs:List ai}
theorem NV (h:St w (own 2 a l c (tv xs) :: L)) (hs:W7 xs) (hb:l < 4611686018427387904) :
  ρ gW [.slice a l c] w λv w'=>∃ a' c',v = .slice a' (lay xs).length c'/\St w' (own 2 a' (lay xs).length c' (tv (lay xs)) :: L):=by
 have a8:=jg h;rw [dX] at a8;have W:=dI h;have hl:xs.length = l:=ω
 refine gd (ae (λh1=>?_) λh1=>?_)
 ·have h1:l < 2:=by have:=YR h1; omega
  have e:lay xs = xs:=pH (by have:=MF (xs:=xs) (n:=l) ω; rwa [Zb ω] at this);rw [e,hl]; exact ⟨a,c,rfl,h⟩
 have h1:2<=l:=by have:=YS h1; omega
 refine ⟨λz w'=>∃ n:Nat,z = ((n + 1:Nat):Int)/\n + 1<=l/\jb (xs.take (n + 1))/\St w' (own 2 a l c (tv xs) :: L),λz _=>l - z.toNat,⟨0,rfl,ω,MF (Zc _),h⟩,?_⟩;clear h;rintro _ z w1 ⟨n,rfl,hn,hS,h⟩;refine ae (λR=>?_) λR=>?_
 rotate_left
 ·have R:l = n + 1:=by have:=YS R; omega
  have e:lay xs = xs:=pH (by rwa [Zb ω] at hS);rw [e,hl]; exact ⟨a,c,rfl,h⟩
 have R:n + 1 < l:=by have:=YR R; omega
 intro w2 hd;have h:=h.eq (aE hd);have Z:=cU h;obtain ⟨x,ad,hx,rfl,cx⟩:=cV Z R;obtain ⟨z,ac,hz,e2,cz⟩:=cV Z (by omega:n < l);cases e2;have e1:((n + 1:Nat):Int) - 1 = (n:Int):=ω
 rw [e1];refine ⟨λu=>Gr w2 u,Gr.refl _,aq rfl R ⟨_,_,cx,⟨ω,ω⟩,aq rfl ω ⟨_,_,cz,_,λu _=>DF u _ _ x z,_,rfl,ae (λG=>?_) λG=>?_⟩⟩⟩
 rotate_left
 ·have G:x≠z:=YS G;exact ⟨⟨ω,ω⟩,⟨n + 1,σ,R,P3 hs hS hz hx G,h⟩,bn R⟩
 have G:x = z:=YR G;subst G;refine ct ω W ?_
 refine ⟨λz y w'=>∃ (k t:Nat) (us:List ai),z = (k:Int)/\y = ((t + 1:Nat):Int)/\n + 1<=k/\k<=n + 1 + t/\n + 1 + t + 1<=l/\us.length = l/\us.drop k = xs.drop k/\us.take k = lay (xs.take (n + 1 + t + 1))/\St w' (own 2 (some ad) l c (tv us) :: L),λ_ y _=>l - y.toNat,
  ⟨n + 1,0,xs,rfl,rfl,Zc _,Zc _,ω,hl,rfl,?_,h⟩,?_⟩
 ·rw [show n + 1 + 0 + 1 = n + 2 by omega,MD hz hx,pH hS]
 clear h Z cx cz;rintro _ _ _ w3 ⟨k,t,us,rfl,rfl,a7,ab,ht,V,U,O,h⟩;have a0:(tv us).length = l * 2:=by rw [dX,V]
 refine ae (λG=>?_) λG=>?_
 rotate_left
 ·have G:l = n + 1 + t + 1:=by have:=YS G; omega
  rw [<- G,Zb (show xs.length<=l by omega)] at O;have a9:(lay xs).length = k:=by rw [<- O,Zj]; omega
  have hc:=FU (ty:=0) (c2:=c - k) aQ (rfl:aj Ty E2 = .slice _) (rfl:Ty bM = some _) rfl rfl (λv hv=>by rcases Ze.1 hv with rfl | hv; rfl; rw [Zl] at hv; subst hv; rfl) (by show 0 < 2; decide) h (show k<=l by omega);refine ct ω W (hc.mono ?_);rintro _ w4 ⟨vs,hv,h⟩;refine nJ ω ?_;have h:=Co h (k:=k) ω;have e:vs.take (k * 2) = tv (lay xs):=hv.trans (by rw [<- O]; exact S9 us k);rw [a9];exact ⟨_,_,rfl,by rw [<- e]; exact h⟩
 have G:t + 1 < l - (n + 1):=by have:=YR G; omega
 intro w4 hd;have h:=h.eq (aE hd);have Z:=(cU h).drop (k:=n + 1) (m:=c) ω W
 have same:∀ j,k<=j->us[j]? = xs[j]?:=λj hj=>by
  have:=congrArg (λl=>l[j - k]?) U;simp only [Zv] at this;rwa [show k + (j - k) = j by omega] at this
 obtain ⟨Y,aa,a1,e3,cx⟩:=cV Z G;obtain ⟨z2,am,a3,e4,cz⟩:=cV Z (by omega:t < l - (n + 1));rw [e3] at e4;cases e4;rw [Zv,same _ ω] at a1 a3;have e1:((t + 1:Nat):Int) - 1 = (t:Int):=ω
 have a5:xs[n + 1 + t + 1]? = some Y:=by rw [<- a1]; congr 1
 have a4:xs[n + 1 + t]? = some z2:=by rw [<- a3]
 rw [e1];refine ⟨λu=>Gr w4 u,Gr.refl _,aq e3 G ⟨_,_,cx,⟨ω,ω⟩,aq e3 ω ⟨_,_,cz,_,λu _=>Lb u _ _ Y z2,_,rfl,ae (λX=>?_) λX=>?_⟩⟩⟩
 rotate_left
 ·have X:Y = z2:=by simpa using X
  subst X;refine ⟨⟨ω,ω⟩,⟨k,t + 1,us,rfl,σ,a7,ω,ω,V,U,?_,h⟩,bn ω⟩;rw [O,show n + 1 + (t + 1) + 1 = n + 1 + t + 2 by omega,MD a4 a5]
 have X:Y≠z2:=by simpa using X
 refine aq e3 G ⟨_,_,cx _ (Gr.refl _),aq rfl ω ?_⟩;rw [aN];refine yR (i:=k * 2) h rfl (by rw [a0]; simp; omega) (by simp [aG]) σ λw5 h=>?_;rw [show (k * 2 + [Value.int .i64 Y.prod,Value.int .i64 Y.dot].length) = k * 2 + 2 from rfl,VD ω] at h
 refine ⟨⟨ω,ω⟩,⟨ω,ω⟩,⟨k + 1,t + 1,us.set k Y,σ,σ,ω,ω,ω,by rw [Zn,V],?_,?_,h⟩,bn ω⟩
 ·rw [List.drop_set_of_lt ω,<- List.drop_drop (i:=1),U,List.drop_drop]
 ·have a6:k < us.length:=ω
  rw [show n + 1 + (t + 1) + 1 = n + 1 + t + 2 by omega,ME hs a4 a5 X,<- O,Y2,aap a6,List.take_set_of_le (Zc _)];rfl
theorem P5 (h:St w (own 2 a l c (tv xs) :: L)) (hb:l < 4611686018427387904) :
  ρ K_ [.slice a l c] w λv w'=>∃ a',v = .slice a' (lay xs).length (lay xs).length/\St w' (own 2 a' (lay xs).length (lay xs).length (tv (lay xs)) :: L):=by
 refine Hg ((S8 h hb).mono ?_);rintro _ G ⟨rfl,ys,hp,z,h⟩;refine ⟨rfl,(NV h z hb).mono ?_⟩;rintro _ O ⟨a2,c2,rfl,h⟩;have u:=dI h;refine ⟨_,_,_,rfl,iE (fL u ?_)⟩;have h:=fK h;rw [P4 hp] at h ⊢;exact ⟨_,_,_,rfl,_,rfl,h⟩
end
section
open MapKept
section
variable {κ : Type} [DecidableEq κ] [MVal κ] {P:Program} {Ty:TypeId->Option dg} {w:aa4} {L:List az} {b r:Nat} {m:List (κ × Value)} {ks:List κ}
structure S_ (es:Array MapEntry) (seen:Array Nat) (m:List (κ × Value)) (ks:List κ):Prop where
 perm:(ks.map MVal.val ++ (leftOf es seen).toList.map (·.key)).Perm (m.map λx=>MVal.val x.1)
def FW (b r:Nat) (m:List (κ × Value)) (ks:List κ):az:=ex λ(x:Array MapEntry × Nat × Array Nat)=>aC [pu (wL x.1 x.2.1 m/\S_ x.1 x.2.2 m ks),blk b (.map x.1 x.2.1),blk r (.mapIter (some b) x.2.1 x.2.2 x.2.1)]
def Hi (b r:Nat) (m:List (κ × Value)) (ks:List κ) (k:κ) (u:Value):az:=ex λ(x:Array MapEntry × Nat × Array Nat × MapEntry) =>
 aC [pu (wL x.1 x.2.1 m/\S_ x.1 (x.2.2.1.push x.2.2.2.born) m ks/\x.2.2.2∈x.1.toList/\x.2.2.2.key = MVal.val k/\x.2.2.2.val = u),blk b (.map x.1 x.2.1),blk r (.mapIter (some b) x.2.1 (x.2.2.1.push x.2.2.2.born) x.2.1)]
theorem vi:St w (FW b r m ks :: L)↔∃ es cl seen,wL es cl m/\S_ es seen m ks/\St w (blk b (.map es cl) :: blk r (.mapIter (some b) cl seen cl) :: L):=by
 constructor
 ·intro h;obtain ⟨⟨es,cl,seen⟩,h⟩:=St.ex.1 h;obtain ⟨⟨G,u⟩,z⟩:=St.pu.1 (St.flat.1 h);exact ⟨es,cl,seen,G,u,z⟩
 ·rintro ⟨es,cl,seen,G,u,z⟩;exact St.ex.2 ⟨⟨es,cl,seen⟩,St.flat.2 (St.pu.2 ⟨⟨G,u⟩,z⟩)⟩
theorem xn {k:κ} {u:Value}:St w (Hi b r m ks k u :: L)↔∃ es cl,∃ (seen:Array Nat) (e:MapEntry),wL es cl m/\S_ es (seen.push e.born) m ks/\e∈es.toList/\e.key = MVal.val k/\e.val = u/\St w (blk b (.map es cl) :: blk r (.mapIter (some b) cl (seen.push e.born) cl) :: L):=by
 constructor
 ·intro h;obtain ⟨⟨es,cl,seen,e⟩,h⟩:=St.ex.1 h;obtain ⟨⟨U,O,R,z,V⟩,G⟩:=St.pu.1 (St.flat.1 h);exact ⟨es,cl,seen,e,U,O,R,z,V,G⟩
 ·rintro ⟨es,cl,seen,e,U,O,R,z,V,G⟩;exact St.ex.2 ⟨⟨es,cl,seen,e⟩,St.flat.2 (St.pu.2 ⟨⟨U,O,R,z,V⟩,G⟩)⟩
theorem NW {k:κ} {u:Value} (h:St w (Hi b r m ks k u :: L)):St w (FW b r m ks :: L):=by
 obtain ⟨es,cl,seen,e,O,G,_,_,_,z⟩:=xn.1 h;exact vi.2 ⟨es,cl,_,O,G,z⟩
theorem NX (h:St w (FW b r m ks :: L)):St w (mapA b m :: L):=by
 obtain ⟨es,cl,seen,z,G,u⟩:=vi.1 h;exact j4.2 ⟨es,cl,z,u.swap.tail⟩
theorem NY (hT:dP P Ty) {t kt et:TypeId} (hk:aj Ty t = .map kt et) (h:St w (mapA b m :: L)) :
  bf P (Instr.range t (.map (some b))) w λv w'=>∃ r,v = .pointer (some ⟨r,0,none⟩)/\St w' (FW b r m ([] : List κ) :: L):=by
 obtain ⟨d,z,u⟩:=db hT hk σ;rw [yE u] at z;obtain ⟨es,cl,G,h⟩:=j4.1 h
 refine ⟨_,_,run_range_map w t kt et b es cl z h.get,Ev.push w _,_,rfl,vi.2 ⟨es,cl,#[],G,⟨?_⟩,?_⟩⟩
 ·have R:leftOf es #[] = es:=by unfold leftOf; simp
  rw [R];have:=congrArg (List.map Prod.fst) G.eq;simp only [aay] at this;have O:es.toList.map (·.key) = m.map λx=>MVal.val x.1:=this;rw [O]; exact .refl _
 ·exact (h.push (.mapIter (some b) cl #[] cl)).swap
theorem Jh (e:MapEntry):∀ (l:List MapEntry),(l.map (·.born)).Nodup->e∈l->l.Perm (e :: l.filter λx=>decide (x.born≠e.born))
 | x :: l,hn,he=>by
  have hn' : x.born∉l.map (·.born)/\(l.map (·.born)).Nodup:=ZR.1 hn
  rcases Ze.1 he with rfl | h
  ·have:l.filter (λx=>decide (x.born≠e.born)) = l:=List.filter_eq_self.2 λx hx=>by
    rw [Y7]
    intro e'; exact hn'.1 (Zh.2 ⟨x,hx,e'⟩)
   rw [Z_,YZ σ,this]
  ·have hx:x.born≠e.born:=λe'=>hn'.1 (by rw [e']; exact Zh.2 ⟨e,h,rfl⟩)
   rw [Z_,Y5 (by simpa using hx)]
   exact (List.Perm.cons x (Jh e l hn'.2 h)).trans (.swap _ _ _)
theorem St.setIter {b' : Option Nat} {s c:Nat} {seen:Array Nat} (h:St w (blk r (.mapIter b' s seen c) :: L)) {w1:aa4} (hw:w1 = w\/w1 = w.drew) (o:Obj) (ho:H5 o = true:=by rfl):Ev w (ChangeMaps.setBlock w1 r o)/\St (ChangeMaps.setBlock w1 r o) (blk r o :: L):=by
 have z:St w1 (blk r (.mapIter b' s seen c) :: L):=by
  rcases hw with rfl | rfl
  ·exact h
  ·exact h.same rfl
 have G:Ev w w1:=by
  rcases hw with rfl | rfl
  ·exact Ev.refl _
  ·exact Ev.drew _ _
 refine ⟨G.trans ⟨rfl,rfl,rfl,by simp [ChangeMaps.setBlock],?_,?_⟩,z.setObj o ho⟩ <;>
 ·intro x d u;unfold ChangeMaps.setBlock;rw [aad]; exact u;intro e; subst e; rw [z.get] at u; cases u
theorem VE {es:Array MapEntry} {cl:Nat} {e:MapEntry} (h:wL es cl m) (he:e∈es.toList):∃ k,(k,e.val)∈m/\e.key = MVal.val k:=by
 have:(e.key,e.val)∈es.toList.map λe=>(e.key,e.val):=Zh.2 ⟨e,he,rfl⟩;rw [h.eq] at this;obtain ⟨x,u,O⟩:=Zh.1 this;injection O with z G
 refine ⟨x.1,?_,z.symm⟩;rw [<- G]; exact u
theorem val_inj {a c:κ} (h:MVal.val a = MVal.val c):a = c:=MVal.inj a c h
theorem Ji {α β : Type} {f:α->β} (hf:∀ a c,f a = f c->a = c):∀ {l l' : List α},(l.map f).Perm (l'.map f)->l.Perm l'
 | [],[],_=>.refl _
 | [],_ :: _,h=>by have:=h.length_eq; simp at this
 | a :: l,l',h=>by
  have hm:f a∈l'.map f:=h.subset σ
  obtain ⟨x,hx,e⟩:=Zh.1 hm
  have:=hf _ _ e
  subst this
  obtain ⟨s,t,rfl⟩:=aaS hx
  have h2:(f x :: l.map f).Perm (f x :: (s ++ t).map f):=h.trans (by
   rw [Zg,ZF,Zg]; exact ZQ)
  exact (List.Perm.cons x (Ji hf ((List.perm_cons _).1 h2))).trans ZQ.symm
theorem P6 {ty:TypeId} (h:St w (FW b r m ks :: L)):bf P (Instr.next (.pointer (some ⟨r,0,none⟩)) false ty) w λv w' =>
  (v = .tuple #[.bool false]/\ks.Perm (m.map Prod.fst)/\St w' (mapA b m :: L)) \/
  ∃ (k:κ) (u:Value),(k,u)∈m/\v = .tuple #[.bool true,MVal.val k,u]/\ks.length < m.length/\St w' (Hi b r m (ks ++ [k]) k u :: L):=by
 have G:=NX h;obtain ⟨es,cl,seen,V,h2,h3⟩:=vi.1 h
 rcases run_next_at (P:=P) w ty r b cl cl seen es cl h3.swap.get h3.get V.lt (Zc _) with ⟨h4,Y⟩ | ⟨e,U,w1,hw,Y⟩
 ·refine ⟨_,_,Y,Ev.refl _,.inl ⟨rfl,?_,G⟩⟩;have W:=h2.perm;have e1:(leftOf es seen).toList = []:=Y9 (by simpa using h4);rw [e1,List.map_nil,Zm] at W;have e2:(m.map λx=>MVal.val (κ:=κ) x.1) = (m.map Prod.fst).map MVal.val:=by rw [aay]; rfl
  rw [e2] at W;exact Ji (λa c=>val_inj) W
 ·have O:e∈es.toList:=by unfold leftOf at U; simp at U ⊢; exact U.1
  obtain ⟨k,a0,hk⟩:=VE V O;obtain ⟨Z,a1⟩:=St.setIter (h3.swap) hw (.mapIter (some b) cl (seen.push e.born) cl)
  have X:((leftOf es seen).toList.map (·.born)).Nodup:=by
   refine V.nd.sublist ?_;unfold leftOf;rw [Array.toList_filter];exact List.Sublist.map _ List.filter_sublist
  have z:=Jh e _ X U
  have e3:(leftOf es seen).toList.filter (λx=>decide (x.born≠e.born)) = (leftOf es (seen.push e.born)).toList:=by
   unfold leftOf;rw [Array.toList_filter,Array.toList_filter,List.filter_filter];congr 1
   funext x
   simp only [Array.contains_push,ne_eq];rw [ZI];simp only [Zd,Y7,aag,aaY,aaA,ne_eq]
   constructor
   ·rintro ⟨a,c⟩; exact ⟨c,λe'=>a e'⟩
   ·rintro ⟨a,c⟩; exact ⟨λe'=>c e',a⟩
  rw [e3] at z;have hp:=h2.perm
  have R:(MVal.val k :: (leftOf es (seen.push e.born)).toList.map (·.key)).Perm ((leftOf es seen).toList.map (·.key)):=by
   have:=(z.map (·.key)).symm;rw [ZF,hk] at this;exact this
  refine ⟨_,_,Y,Z,.inr ⟨k,e.val,a0,by rw [hk],?_,xn.2 ⟨es,cl,seen,e,V,⟨?_⟩,O,hk,rfl,a1.swap⟩⟩⟩
  ·have:=hp.length_eq;have l2:=R.length_eq;simp at this l2; omega
  ·refine List.Perm.trans ?_ hp;rw [Zg,ZF,List.map_nil,Y6];exact aaC _ R
theorem NZ {k:κ} {u:Value} (h:St w (Hi b r m ks k u :: L)):bf P (Instr.entry (.pointer (some ⟨r,0,none⟩))) w λv w'=>v = .tuple #[MVal.val k,u]/\w' = w:=by
 obtain ⟨es,cl,seen,e,U,V,z,O,R,G⟩:=xn.1 h;have:=run_entry_at (P:=P) w r b cl seen es cl e G.swap.get G.get z U.nd;rw [O,R] at this;exact ⟨_,_,this,Ev.refl _,rfl,rfl⟩
end
section
variable {κ α : Type} [DecidableEq κ] {w:aa4} {L:List az} {b sz:Nat} {f:List α->List Value} {s t:κ}
abbrev Lq (α : Type):=(aa3 × Nat) × List α
def bF (q:Lq α):Value:=.slice q.1.1 q.2.length q.1.2
def bB (sz:Nat) (f:List α->List Value) (q:Lq α):az:=own sz q.1.1 q.2.length q.1.2 (f q.2)
def mV (ps:List (κ × Lq α)):List (κ × Value):=ps.map λq=>(q.1,bF q.2)
def mO (sz:Nat) (f:List α->List Value) (ps:List (κ × Lq α)):List az:=ps.map λq=>bB sz f q.2
def dw (s:κ):List (κ × Lq α)->Option (Lq α)
 | []=>none
 | (a,q) :: m=>if s = a then some q else dw s m
def gZ (s:κ) (ps:List (κ × Lq α)):List α:=match dw s ps with | some q=>q.2 | none=>[]
def kO (s:κ) (q:Lq α):List (κ × Lq α)->List (κ × Lq α)
 | []=>[(s,q)]
 | (a,u) :: m=>if s = a then (s,q) :: m else (a,u) :: kO s q m
theorem g_:∀ ps:List (κ × Lq α),assoc s (mV ps) = (dw s ps).map bF
 | []=>rfl
 | (a,q) :: m=>by
  show (if s = a then some (bF q) else assoc s (mV m)) = _
  unfold dw
  split
  ·rfl
  ·exact g_ m
theorem P7 (q:Lq α):∀ ps:List (κ × Lq α),mV (kO s q ps) = bU s (bF q) (mV ps)
 | []=>rfl
 | (a,u) :: m=>by
  unfold kO
  show _ = (if s = a then (s,bF q) :: mV m else (a,bF u) :: bU s (bF q) (mV m))
  split
  ·rfl
  ·rw [<- P7 q m]; rfl
theorem Jj (q:Lq α):∀ ps:List (κ × Lq α),dw t (kO s q ps) = if t = s then some q else dw t ps
 | []=>by simp [kO,dw]
 | (a,u) :: m=>by
  unfold kO
  by_cases h:s = a
  ·subst h
   by_cases ht:t = s <;> simp [dw,ht]
  ·rw [YZ h]
   unfold dw
   rw [Jj q m]
   by_cases ht:t = a
   ·subst ht; simp [aaw h]
   ·simp [ht]
theorem kA (q:Lq α) (ps:List (κ × Lq α)):gZ t (kO s q ps) = if t = s then q.2 else gZ t ps:=by
 unfold gZ; rw [Jj]; by_cases h:t = s <;> simp [h]
theorem Ae (q:Lq α):∀ ps:List (κ × Lq α),(kO s q ps).map Prod.fst = if s∈ps.map Prod.fst then ps.map Prod.fst else ps.map Prod.fst ++ [s]
 | []=>by simp [kO]
 | (a,u) :: m=>by
  unfold kO
  by_cases h:s = a
  ·subst h; simp
  ·rw [YZ h,ZF,Ae q m]
   by_cases h2:s∈m.map Prod.fst
   ·simp [h,h2]
   ·simp [h,h2]
theorem Hj (q:Lq α) {ps:List (κ × Lq α)} (h:(ps.map Prod.fst).Nodup):((kO s q ps).map Prod.fst).Nodup:=by
 rw [Ae]
 split
 ·exact h
 ·rename_i hn;rw [ZE];exact ⟨h,σ,λa z c u e=>by simp at u; subst u; subst e; exact hn z⟩
theorem DG {q:Lq α}:∀ {ps:List (κ × Lq α)},dw s ps = some q->(s,q)∈ps
 | [],h=>by cases h
 | (a,u) :: m,h=>by
  unfold dw at h
  split at h
  ·rename_i e; subst e; cases h; simp
  ·exact aaH _ (DG h)
theorem P8 {ps:List (κ × Lq α)}:(dw s ps).isSome = true↔s∈ps.map Prod.fst:=by
 induction ps with
 | nil=>simp [dw]
 | cons x m ih =>
  obtain ⟨a,u⟩:=x;unfold dw
  by_cases h:s = a
  ·simp [h]
  ·rw [YZ h,ih]; simp [h]
theorem Jk (sz:Nat) (f:List α->List Value) (s:κ):∀ ps:List (κ × Lq α),
  (∃ q M,dw s ps = some q/\(mO sz f ps).Perm (bB sz f q :: M)/\∀ q',(mO sz f (kO s q' ps)).Perm (bB sz f q' :: M))\/(dw s ps = none/\∀ q',(mO sz f (kO s q' ps)).Perm (bB sz f q' :: mO sz f ps))
 | []=>.inr ⟨rfl,λq'=>.refl _⟩
 | (a,u) :: m=>by
  by_cases h:s = a
  ·refine .inl ⟨u,mO sz f m,by simp [dw,h],.refl _,λq'=>?_⟩
   simp only [kO,h,if_true]; exact .refl _
  ·rcases Jk sz f s m with ⟨q,M,h1,h2,h3⟩ | ⟨h1,h2⟩
   ·refine .inl ⟨q,bB sz f u :: M,by simp [dw,h,h1],(List.Perm.cons _ h2).trans (.swap _ _ _),λq'=>?_⟩
    simp only [kO,h,if_false]
    exact (List.Perm.cons _ (h3 q')).trans (.swap _ _ _)
   ·refine .inr ⟨by simp [dw,h,h1],λq'=>?_⟩
    simp only [kO,h,if_false]
    exact (List.Perm.cons _ (h2 q')).trans (.swap _ _ _)
theorem qB (hf:f [] = []) {ps:List (κ × Lq α)} (h:St w (aC (mO sz f ps) :: L)) (s:κ):∃ (q:Lq α) (M:List az),(assoc s (mV ps)).getD (.slice none 0 0) = bF q/\q.2 = gZ s ps/\St w (bB sz f q :: aC M :: L) /\
  ∀ (w' : aa4) (L' : List az) (q' : Lq α),St w' (bB sz f q' :: aC M :: L')->St w' (aC (mO sz f (kO s q' ps)) :: L'):=by
 have back:∀ (M:List az) (q' : Lq α),(mO sz f (kO s q' ps)).Perm (bB sz f q' :: M)->∀ (w' : aa4) (L' : List az),St w' (bB sz f q' :: aC M :: L')->St w' (aC (mO sz f (kO s q' ps)) :: L'):=λM q' hp w' L' h=>by
  have u:=St.flat.1 h.swap;have z:St w' ((bB sz f q' :: M) ++ L'):=u.perm ZQ;exact St.flat.2 (z.perm (hp.symm.append_right _))
 rcases Jk sz f s ps with ⟨q,M,u,z,O⟩ | ⟨u,z⟩
 ·refine ⟨q,M,by rw [g_,u]; rfl,by unfold gZ; rw [u],?_,λw' L' q'=>back M q' (O q') w' L'⟩;have G:=(St.flat.1 h).perm (z.append_right _);have R:St w (M ++ (bB sz f q :: L)):=G.perm ZQ.symm;exact (St.flat.2 R).swap
 ·refine ⟨((none,0),[]),mO sz f ps,by rw [g_,u]; rfl,by unfold gZ; rw [u],?_,λw' L' q'=>back _ q' (z q') w' L'⟩;unfold bB; rw [hf]; exact ay sz h
theorem DH:∀ {L:List az} {i:Nat} (h:i < L.length),qm L i = L[i]
 | [],i,h=>by simp at h
 | A :: L,0,_=>rfl
 | A :: L,i + 1,h=>by
  show qm L i = _
  rw [DH (L:=L) (by simpa using h)]; rfl
theorem MG {ps:List (κ × Lq α)} {h:Hp} (hs:aD (aC (mO sz f ps) :: L) h) {q:Lq α} (hq:dw s ps = some q):∃ h1,sub h1 h/\bB sz f q h1:=by
 have O:=lZ.1 hs;have R:bB sz f q∈mO sz f ps:=Zh.2 ⟨(s,q),DG hq,rfl⟩;obtain ⟨i,hi⟩:=Zr R;have u:=(YT.1 hi).1;obtain ⟨h1,G,z⟩:=dm i (by rw [Y0]; omega) O
 have e:qm (mO sz f ps ++ L) i = bB sz f q:=by
  rw [DH (by rw [Y0]; omega),List.getElem_append_left u];exact (YT.1 hi).2
 rw [e] at z;exact ⟨h1,G,z⟩
end
section
variable {κ : Type} [DecidableEq κ] [MVal κ] {P:Program} {Ty:TypeId->Option dg} {w:aa4} {b:Nat} {m:List (κ × Value)} {h:Hp}
theorem xp {α : Type} {sz:Nat} {f:List α->List Value} {L:List az} {s:κ} {ps:List (κ × Lq α)} {M:List az} (back:∀ (w' : aa4) (L' : List az) (q' : Lq α),St w' (bB sz f q' :: aC M :: L')->St w' (aC (mO sz f (kO s q' ps)) :: L'))
  {o:aa3} {n c:Nat} (us:List α) {vs:List Value} (hn:n = us.length) (hv:vs = f us) (h:St w (mapA b (bU s (.slice o n c) (mV ps)) :: own sz o n c vs :: aC M :: L)) :
  St w (mapA b (mV (kO s ((o,c),us) ps)) :: aC (mO sz f (kO s ((o,c),us) ps)) :: L):=by
 subst hn; subst hv;have e:mV (kO s ((o,c),us) ps) = bU s (.slice o us.length c) (mV ps):=P7 _ _;rw [e];exact (back w _ ((o,c),us) (h.pick 3 [1,2,0])).swap
theorem lX {A:az} (hA:A h):aD [A] h:=⟨h,λ_=>none,λ_=>.inr rfl,sub.refl _,λ_ _ h=>(nomatch h),hA,trivial⟩
theorem dY {h' : Hp} (s:sub h h') (hm:mapA b m h):mapA b m h':=by
 obtain ⟨es,cl,z,u⟩:=hm;exact ⟨es,cl,s _ _ z,u⟩
theorem dG (hm:mapA b m h) (s:sub h (hp w)) (hT:dP P Ty) {t kt et:TypeId} {i:dg} {z:Value} (hk:aj Ty t = .map kt et) (hkt:ua P kt κ) (hi:Ty et = some i) (hz:i.zero = some z) (k:κ) :
  bf P (Instr.lookup t (.map (some b)) (MVal.val k) false) w λv w'=>v = (assoc k m).getD z/\w' = w :=
 nH (L:=[]) hT hk hkt hi hz (lX (dY s hm)) k
end
section
variable {κ : Type} [DecidableEq κ] [yD κ] {P:Program} {Ty:TypeId->Option dg} {w:aa4} {b:Nat} {m:List (κ × Value)} {h:Hp}
theorem Jl (hm:mapA b m h) (s:sub h (hp w)) (hT:dP P Ty) {t kt et:TypeId} {i:dg} {z:Value} (hk:aj Ty t = .map kt et) (hkt:P.underlying kt = some (yD.kd κ)) (hi:Ty et = some i) (hz:i.zero = some z) (k:κ) :
  bf P (Instr.lookup t (.map (some b)) (MVal.val k) false) w λv w'=>v = (assoc k m).getD z/\w' = w:=dG hm s hT hk (ua.Dm hkt) hi hz k
end
def OO (g:af) (j:Nat) (s:Int):List Nat:=(List.range j).filter λi=>decide ((g.prods[i]?.map aP.left) = some s)
abbrev DI (g:af) (s:Int):List Nat:=OO g g.prods.length s
theorem ur {g:af} {j:Nat} {p:aP} (h:g.prods[j]? = some p) (s:Int):OO g (j + 1) s = OO g j s ++ if s = p.left then [j] else []:=by
 unfold OO;rw [Z1,Zs];congr 1
 by_cases e:s = p.left
 ·subst e; simp [h]
 ·simp [h,e,aaw e]
theorem Hk (g:af) (j:Nat) (s:Int):(OO g j s).length<=j:=by
 have:=Zt (λi=>decide ((g.prods[i]?.map aP.left) = some s)) (List.range j);rwa [ZX] at this
theorem qC {g:af} {s:Int} {i:Nat}:i∈DI g s↔∃ p,g.prods[i]? = some p/\p.left = s:=by
 unfold DI OO;rw [ZA,Zo,Y7]
 constructor
 ·rintro ⟨u,z⟩;refine ⟨g.prods[i],YU u,?_⟩;rw [YU u] at z;exact Option.some.inj z
 ·rintro ⟨p,u,rfl⟩;exact ⟨(YT.1 u).1,by rw [u]; rfl⟩
structure UK (h:Hp) (g:af) (k:Nat):Prop where
 ex:∃ (x:GA) (kb:Nat) (m:List (Int × Value)),au h (aM k) (x.cells ++ [.map (some kb)])/\gR h g x/\mapA kb m h /\
  ∀ s:Int,∃ (a:aa3) (c:Nat),(assoc s m).getD (.slice none 0 0) = .slice a (DI g s).length c/\bh h ((DI g s).map Int.ofNat) a (DI g s).length
theorem UK.mono {h h' : Hp} {g:af} {k:Nat} (s:sub h h') (r:UK h g k):UK h' g k:=by
 obtain ⟨x,G,m,U,O,R,u⟩:=r.ex;exact ⟨x,G,m,U.mono s,O.mono s,dY s R,λz=>by obtain ⟨a,c,e,r⟩:=u z; exact ⟨a,c,e,r.mono s⟩⟩
end
section
variable {w:aa4} {L:List az} {a:aa3} {l c:Nat} {xs:List ai} {g:af} {x:GA}
theorem W8 (hg:gR (hp w) g x) (hb:jd g):ρ PX [.agg ⟨x.cells⟩] w λv w'=>∃ (k kb:Nat) (ps:List (Int × Lq Int)),v = .pointer (some (aM k))/\(∀ s,gZ s ps = (DI g s).map Int.ofNat)/\St w' (aH k (x.cells ++ [.map (some kb)]) :: mapA kb (mV ps) :: aC (mO 1 iv ps) :: all w):=by
 refine K9 ?_;refine cG hg λk1 w1 gw hg B=>?_;have pl:=hg.p.1;obtain ⟨_,_,_,b4,_,_,_⟩:=hb;refine ⟨_,_,_,_,_,_,_,_,_,_,_,_,_,B.row (sub.refl _),?_⟩;refine nD (St.all w1) λkb w2 h=>?_;have h:=dV (κ:=Int) h;refine ag (vs:=x.cells ++ [.map (some kb)]) h λY w3 h=>?_
 refine ⟨_,_,_,B.c4 (aR 2 h.l),λz w'=>∃ (j:Nat) (ps:List (Int × Lq Int)),z = j/\j<=x.pl/\(∀ s,gZ s ps = (OO g j s).map Int.ofNat)/\St w' (aH Y (x.cells ++ [.map (some kb)]) :: mapA kb (mV ps) :: aC (mO 1 iv ps) :: all w1),λz _=>x.pl - z.toNat,
  ⟨0,[],rfl,Y4 _,λs=>rfl,(show St w3 (aH Y (x.cells ++ [.map (some kb)]) :: mapA kb ([] : List (Int × Value)) :: aC [] :: all w1) from by
   have h:=h.pick 2 [1,0];exact ((St.flat (M:=[])).2 h).pick 3 [2,1,0])⟩,?_⟩
 clear h;rintro _ _ w4 ⟨j,ps,rfl,hj,G,h⟩;have s4:sub (hp w1) (hp w4):=aR 3 h.l;refine ae (λO=>?_) λO=>?_
 rotate_left
 ·have O:j = x.pl:=by have:=YS O; omega
  subst O;rw [<- pl] at G;exact ⟨Y,kb,ps,rfl,G,St.on (N:=[_,_,_]) h (bH gw)⟩
 have O:j < x.pl:=by have:=YR O; omega
 obtain ⟨p,ad,vs,a0,a6,a5,ra,rl,rc,rfl,a8,a7⟩:=hg.p.get O;refine aq a6 O ⟨_,_,_,_,_,a5.at s4 rfl,ag h λR w5 h=>aU h rfl (by simp [aG]) λw6 h=>?_⟩;intro w7 hd;have h:=h.eq (aE hd);have W:∀ {u:aa4} {L' : List az},St u (aH Y (x.cells ++ [.map (some kb)]) :: L')->u.cell? ((aM Y).add 5) = some (.map (some kb)):=λh=>(ah 0 h.l).cell (sub.refl _) (j:=5) rfl;have U:∀ {u:aa4} {L' : List az},St u (aH R [.int .i64 p.left,.slice ra rl rc,.int .i64 p.level] :: L')->u.cell? (aM R) = some (.int .i64 p.left):=λh=>(ah 0 h.l).cell0 (sub.refl _)
 refine ⟨λu=>u.cell? ((aM Y).add 5) = some (.map (some kb))/\u.cell? (aM R) = some (.int .i64 p.left),⟨W (h.pick 2 [1]),U h⟩,_,λu X=>X.1,_,λu X=>X.2,_,λu X=>X.1,_,λu X=>X.2,?_,?_⟩
 ·refine (cF (κ:=Int) aQ (rfl:aj Ty _ = .map _ _) bJ rfl rfl (h.pick 3 [2]) p.left).mono ?_;rintro _ _ ⟨rfl,rfl⟩;obtain ⟨q,M,e1,Z,V,back⟩:=qB rfl (h.pick 4 [3,0,1,2]) p.left;have a3:q.2.length<=j:=by rw [Z,G,Y3]; exact Hk _ _ _
  refine ⟨_,_,_,e1,⟨W (V.pick 4 [3]),U (V.pick 3 [2])⟩,ag V λab ac h=>⟨⟨W (h.pick 5 [4]),U (h.pick 4 [3])⟩,?_⟩⟩;refine (aL (us:=iv q.2) aQ (rfl:aj Ty _ = .slice _) (rfl:aj Ty _ = .slice _) rfl rfl rfl h rfl (by simp [aG]) (by show (q.2.length + 1) * 8<=_; omega) ω).mono ?_;rintro _ a4 ⟨o,c',rfl,h⟩;refine ⟨_,_,_,rfl,⟨W (h.pick 5 [4]),U (h.pick 4 [3])⟩,(dr (κ:=Int) aQ (rfl:aj Ty _ = .map _ _) bJ (h.pick 7 [5,0,2,4,6]) p.left _).mono ?_⟩;rintro _ a1 h;have h:=xp back (q.2 ++ [(j:Int)]) σ (by simp [iv]) h;exact ⟨⟨ω,ω⟩,⟨j + 1,_,σ,O,λs=>by rw [kA,ur a0,Z,G]; by_cases e:s = p.left <;> simp [e,G],h.pick 4 [2,0,1,3]⟩,bn O⟩
 ·refine ag h λa9 aa h=>⟨⟨W (h.pick 3 [2]),U (h.pick 2 [1])⟩,(cF (κ:=Int) aQ (rfl:aj Ty _ = .map _ _) bJ rfl rfl (h.pick 4 [3]) p.left).mono ?_⟩;rintro _ _ ⟨rfl,rfl⟩;obtain ⟨q,M,e1,Z,V,back⟩:=qB rfl (h.pick 5 [4,0,1,2,3]) p.left;have a3:q.2.length<=j:=by rw [Z,G,Y3]; exact Hk _ _ _
  refine ⟨_,_,_,e1,⟨W (V.pick 5 [4]),U (V.pick 4 [3])⟩,?_⟩;refine (aL (us:=iv q.2) aQ (rfl:aj Ty _ = .slice _) (rfl:aj Ty _ = .slice _) rfl rfl rfl (V.pick 3 [2,0,1]) rfl (by simp [aG]) (by show (q.2.length + 1) * 8<=_; omega) ω).mono ?_;rintro _ a4 ⟨o,c',rfl,h⟩;refine ⟨_,_,_,rfl,⟨W (h.pick 5 [4]),U (h.pick 4 [3])⟩,(dr (κ:=Int) aQ (rfl:aj Ty _ = .map _ _) bJ (h.pick 7 [5,0,2,4,6]) p.left _).mono ?_⟩;rintro _ a1 h;have h:=xp back (q.2 ++ [(j:Int)]) σ (by simp [iv]) h;exact ⟨⟨ω,ω⟩,⟨j + 1,_,σ,O,λs=>by rw [kA,ur a0,Z,G]; by_cases e:s = p.left <;> simp [e,G],h.pick 4 [2,0,1,3]⟩,bn O⟩
theorem W9 {h:Hp} {k kb:Nat} {ps:List (Int × Lq Int)} (hg:gR h g x) (hps:∀ s,gZ s ps = (DI g s).map Int.ofNat) (hs:aD (aH k (x.cells ++ [.map (some kb)]) :: mapA kb (mV ps) :: aC (mO 1 iv ps) :: L) h):UK h g k:=by
 obtain ⟨W,V,hA⟩:=Se 1 hs;refine ⟨x,kb,mV ps,ah 0 hs,hg,dY V hA,λs=>?_⟩;have e:=hps s;cases hq:dw s ps with
 | none =>
  have u:gZ s ps = []:=by unfold gZ; rw [hq]
  rw [u] at e;have R:DI g s = []:=List.map_eq_nil_iff.1 e.symm;rw [g_,hq,R];exact ⟨none,0,rfl,bh.nil⟩
 | some q =>
  have u:gZ s ps = q.2:=by unfold gZ; rw [hq]
  rw [u] at e;obtain ⟨G,U,O⟩:=MG (aY (aY hs)) hq;have z:q.2.length = (DI g s).length:=by rw [e,Y3]
  refine ⟨q.1.1,q.1.2,by rw [g_,hq]; show bF q = _; unfold bF; rw [z],?_⟩;rw [<- e,<- z];exact (eO rfl (cP O)).mono U
def yX (g:af) (I:List ai):Prop:=∀ x∈I,kN g x
theorem Jm {k:Nat} {y:ai} (hm:UK (hp w) g k) (hf:kN g y) :
  ρ xm [.pointer (some (aM k)),.agg (cR y).toArray] w λv w'=>v = .int .i64 (di g y)/\Gr w w':=by
 obtain ⟨x,kb,m,h1,hg,_,_⟩:=hm.ex;obtain ⟨h2,h3,p,z,h4⟩:=hf;refine um (ag (St.all w) λk1 w1 h=>?_);intro Z hd;have h:=h.eq (aE hd);have X:Gr w Z:=h.aW;have r2:au (hp Z) (aM k1) [.int .i64 y.prod,.int .i64 y.dot]:=ah 0 h.l;obtain ⟨n,hn⟩ : ∃ n:Nat,y.prod = n:=⟨y.prod.toNat,ω⟩;obtain ⟨d,U⟩ : ∃ d:Nat,y.dot = d:=⟨y.dot.toNat,ω⟩;have V:g.prods[n]? = some p:=by rw [hn] at z; exact z
 have O:n < x.pl:=by have:=(YT.1 V).1; have:=hg.p.1; omega
 obtain ⟨p',a6,vs,W,a3,a1,ra,Y,rc,rfl,a4,G⟩:=hg.p.get O;rw [V] at W; cases W;have a5:=G.1;refine ⟨λu=>Gr Z u,Gr.refl _,x.pa,x.pl,x.pc,λu s=>h1.cell (sub.trans X s) (j:=4) rfl,_,λu s=>r2.cell0 s,?_⟩;rw [hn];refine aq a3 O ⟨_,_,_,λu s=>a1.cell (sub.trans X s) (j:=1) rfl,_,r2.cell (sub.refl _) (j:=1) rfl,?_⟩;rw [kz z,U,Za]
 refine ae (λR=>?_) λR=>?_
 ·have R:d = Y:=by have:=eq_of_beq R; omega
  rw [YX,Zf ω];exact ⟨rfl,X⟩
 ·have R:d≠Y:=λe=>by subst e; simp at R
  obtain ⟨v,ad,hv,a0,cv⟩:=G.cY (i:=d) ω;refine ⟨_,(r2.cell (sub.refl _) (j:=1) rfl),?_⟩
  show idx ra Y y.dot 1 _
  rw [U];refine aw a0 ω ⟨v,cv _ X,?_⟩;rw [YX,hv];exact ⟨rfl,X⟩
end
theorem W_ {n:Nat} (h:(n + 1) * 16<=140737488355328):n < 9223372036854775807:=ω
theorem jR {α : Type}:∀ {l m:List α},l.Nodup->(∀ x∈l,x∈m)->l.length<=m.length
 | [],m,_,_=>Y4 _
 | a :: l,m,h,hs=>by
  obtain ⟨m1,m2,rfl⟩:=aaS (hs a σ)
  rw [ZR] at h
  have:=jR (l:=l) (m:=m1 ++ m2) h.2 λx hx=>by
   have h1:=hs x (by simp [hx])
   rw [YY,Ze] at h1
   rw [YY]
   rcases h1 with h1 | rfl | h1
   ·exact .inl h1
   ·exact absurd hx h.1
   ·exact .inr h1
  simp at this ⊢; omega
def FX (i:Nat):ai:=⟨(i:Int),0⟩
theorem pI.or {g:af} {I:List ai} {x:ai} (h:pI g I x):x∈I\/∃ i,i < g.prods.length/\x = FX i:=by
 cases h with
 | base h=>exact .inl h
 | step _ _ hp _=>exact .inr ⟨_,(YT.1 hp).1,rfl⟩
theorem yY (g:af) (I:List ai):(cls g I).length<=I.length + g.prods.length:=by
 have:=jR (m:=I ++ (List.range g.prods.length).map FX) (yT (g:=g) (I:=I)).nodup λx u=>by
  rw [YY]
  rcases (jn.1 u).or with h | ⟨i,hi,rfl⟩
  ·exact .inl h
  ·exact .inr (Zh.2 ⟨i,Zo.2 hi,rfl⟩)
 simpa using this
theorem uu {h:Hp} {xs:List ai} {a:aa3} {l:Nat} (r:bh h xs a l):fo a (tv xs) h:=by
 cases xs with
 | nil=>exact .inl rfl
 | cons x0 xs' =>
  obtain ⟨u,vs,rfl,_⟩:=r.2 0 x0 rfl;refine .inr ⟨u,rfl,vf (n:=2) (λ_=>rfl) _ u λi x G=>?_⟩;obtain ⟨O,vs,e,z,R⟩:=r.2 i x G;cases e;rw [show vs = cR x from R] at z;exact z
theorem DJ (xs:List ai):∀ v∈tv xs,aG v = true:=λv hv=>by
 obtain ⟨x,_,hv⟩:=aaa.1 hv
 rcases Ze.1 hv with rfl | hv
 ·rfl
 ·rw [Zl] at hv; subst hv; rfl
theorem qD {P:Program} {Ty:TypeId->Option dg} {w:aa4} {L:List az} {e e' : TypeId} (hT:dP P Ty) {t tx ty:TypeId} {i:dg} {z:Value} (hk:aj Ty t = .slice e) (hkx:aj Ty tx = .slice e') (hi:Ty e = some i) (hz:i.zero = some z) (hzs:(cellsOf z).length = i.size)
  {a a2:aa3} {l c n c2:Nat} {us news:List Value} (h:St w (own i.size a l c us :: L)) (hn:news.length = n * i.size) (h0:0 < i.size) (hx:fo a2 news (hp w)) (h1:∀ u∈news,aG u = true) (hb:(l + n) * i.bytes<=140737488355328) (h63:l + n<=9223372036854775807) :
  bf P (Builtin.append_ (Array.mk [t,tx]) ty (Array.mk [.slice a l c,.slice a2 n c2])) w λv w'=>∃ a' c',v = .slice a' (l + n) c'/\St w' (own i.size a' (l + n) c' (us ++ news) :: L):=by
 refine jh hT hk hi hz hzs h (n:=n) (news:=news) (fY hT hkx hn ?_ h1) hb h63
 rcases hx with rfl | ⟨O,rfl,R⟩
 ·left
  rcases Nat.eq_zero_or_pos n with h | h
  ·exact h
  ·have:=Nat.mul_pos h h0; simp at hn; omega
 ·exact .inr ⟨O,rfl,λj u G=>lB (R j u G)⟩
structure xq (g:af) (I:List ai) (m:List (Int × Value)) (H:List Int) (i:Nat) (ls:List ai):Prop where
 nd:H.Nodup
 eq:ls = I ++ (H.flatMap (DI g)).map FX
 of:∀ s∈H,0<=s/\∃ y,pI g I y/\di g y = s
 mp:∀ s,(assoc s m).getD (.int .i64 0) = .int .i64 (if s∈H then 1 else 0)
 dn:∀ (j:Nat) y,j < i->ls[j]? = some y->0<=di g y->di g y∈H
section
variable {g:af} {I ls:List ai} {m:List (Int × Value)} {H:List Int} {i:Nat}
theorem MH:∀ {H:List Int},H.Nodup->(H.flatMap (DI g)).Nodup
 | [],_=>σ
 | s :: H,h=>by
  rw [ZR] at h
  rw [Zw,ZE]
  refine ⟨List.nodup_range.filter _,MH h.2,λa ha b hb e=>?_⟩
  subst e
  obtain ⟨t,ht,hb⟩:=aaa.1 hb
  obtain ⟨p,h1,rfl⟩:=qC.1 ha
  obtain ⟨q,h2,rfl⟩:=qC.1 hb
  rw [h1] at h2; cases h2
  exact h.1 ht
theorem xq.len (h:xq g I m H i ls):ls.length<=I.length + g.prods.length:=by
 have:=jR (m:=List.range g.prods.length) (MH (g:=g) h.nd) λx u=>by
  obtain ⟨t,_,z⟩:=aaa.1 u;obtain ⟨p,G,_⟩:=qC.1 z;exact Zo.2 (YT.1 G).1
 rw [ZX] at this;rw [h.eq,Y0,Y3]; omega
theorem xq.sound (h:xq g I m H i ls) {x:ai} (hx:x∈ls):pI g I x:=by
 rw [h.eq,YY] at hx
 rcases hx with hx | hx
 ·exact .base hx
 ·obtain ⟨n,u,rfl⟩:=Zh.1 hx;obtain ⟨s,G,u⟩:=aaa.1 u;obtain ⟨p,hp,e⟩:=qC.1 u;obtain ⟨h0,y,O,z⟩:=h.of s G;exact .step O ω hp (by rw [e,z])
theorem xq.start:xq g I [] [] 0 I:=⟨σ,σ,λs u=>by simp at u,λs=>by simp [assoc],λj y z=>ω⟩
theorem xq.skip (h:xq g I m H i ls) {y:ai} (hy:ls[i]? = some y) (hs:di g y < 0\/di g y∈H):xq g I m H (i + 1) ls :=
 ⟨h.nd,h.eq,h.of,h.mp,λj z G u h0=>by
  by_cases e:j = i
  ·subst e; rw [hy] at u; cases u
   rcases hs with hs | hs
   ·omega
   ·exact hs
  ·exact h.dn j z ω u h0⟩
theorem xq.more (h:xq g I m H i ls) {y:ai} (hy:ls[i]? = some y) (h0:0<=di g y) (hs:di g y∉H):xq g I (bU (di g y) (.int .i64 1) m) (H ++ [di g y]) (i + 1) (ls ++ (DI g (di g y)).map FX):=by
 have W:=YV hy
 refine ⟨?_,?_,λs u=>?_,λs=>?_,λj z X G V=>?_⟩
 ·rw [ZE];exact ⟨h.nd,σ,λa U b R e=>by simp at R; subst R; subst e; exact hs U⟩
 ·rw [ZB,Zg,<- Y6,<- h.eq]; simp
 ·rw [YY,Zl] at u
  rcases u with u | rfl
  ·exact h.of s u
  ·exact ⟨h0,y,h.sound W,rfl⟩
 ·rw [dU]
  by_cases e:s = di g y
  ·simp [e]
  ·rw [YZ e,h.mp s]; simp [e]
 ·rw [YY,Zl];have O:j < ls.length:=by have:=(YT.1 hy).1; omega
  rw [Y8 O] at G
  by_cases e:j = i
  ·subst e; rw [hy] at G; cases G; exact .inr rfl
  ·exact .inl (h.dn j z ω G V)
theorem xq.fin (h:xq g I m H i ls) (hi:i = ls.length):lay ls = cls g I:=by
 refine MA (ga _) λx=>?_;rw [fx];refine ⟨h.sound,λu=>?_⟩
 induction u with
 | base u=>rw [h.eq]; exact aaI _ u
 | @step y k p _ h1 h2 h3 ih =>
  obtain ⟨j,z⟩:=Zr ih;have:=h.dn j y (by have:=(YT.1 z).1; omega) z h1;rw [h.eq,YY];exact .inr (Zh.2 ⟨k,aaa.2 ⟨_,this,qC.2 ⟨p,h2,h3⟩⟩,rfl⟩)
end
section
variable {w:aa4} {L:List az} {a:aa3} {l c:Nat} {I:List ai} {g:af}
theorem Ta (hr:bh (hp w) I a l) (hb:l * 16<=140737488355328):ρ jc [.slice a l c] w λv w'=>∃ o c',v = .slice o l c'/\St w' (own 2 o l c' (tv I) :: all w):=by
 have z:=hr.1
 refine gY (ae (λh=>?_) λh=>?_)
 ·have O:a = none:=by simpa using h
  subst O
  have G:I = []:=by
   cases I with
   | nil=>rfl
   | cons x _=>obtain ⟨W,_,e,_⟩:=hr.2 0 x rfl; cases e
  subst G;have:l = 0:=z.symm;subst this;exact ⟨_,_,rfl,ay 2 (St.all w)⟩
 ·refine ag (St.all w) λk u h=>?_;have V:Gr w u:=h.aW;have h:St u (own 2 (some (aM k)) 0 0 [] :: all w):=dz (cs:=[]) h rfl rfl (Zc _);refine (qD (us:=[]) (news:=tv I) aQ (rfl:aj Ty _ = .slice _) (rfl:aj Ty _ = .slice _) rfl rfl rfl h (by rw [dX,z]) (by show 0 < 2; decide) (uu (hr.mono V)) (DJ I) (by show (0 + l) * 16<=_; omega) ω).mono ?_;rintro _ U ⟨o,c',rfl,h⟩;refine ⟨_,_,_,rfl,o,c',σ,?_⟩;have R:St U (own 2 o (0 + l) c' (tv I) :: all w):=h;rwa [ZV] at R
theorem N1 {k:Nat} (hm:UK (hp w) g k) (hr:bh (hp w) I a l) (hf:yX g I) (hb:(l + g.prods.length + 1) * 16<=140737488355328) :
  ρ vF [.pointer (some (aM k)),.slice a l c] w λv w'=>∃ o,v = .slice o (cls g I).length (cls g I).length/\St w' (own 2 o (cls g I).length (cls g I).length (tv (cls g I)) :: all w):=by
 have hl:=hr.1;refine sC ((Ta hr ω).mono ?_);rintro _ w1 ⟨o,c',rfl,h⟩;refine ⟨_,_,_,rfl,nD h λkh w2 h=>?_⟩;have h:=dV (κ:=Int) h
 refine ⟨λo n c z w'=>∃ (i:Nat) (ls:List ai) (m:List (Int × Value)) (H:List Int),z = i/\n = ls.length/\i<=ls.length/\xq g I m H i ls/\St w' (own 2 o n c (tv ls) :: mapA kh m :: all w),λ_ _ _ z _=>(l + g.prods.length) - z.toNat,
  ⟨0,I,[],[],rfl,hl.symm,Y4 _,.start,h.pick 2 [1,0]⟩,?_⟩
 clear h;rintro _ o _ c2 _ w3 ⟨i,ls,m,H,rfl,rfl,hi,hC,h⟩;have R:=hC.len;rw [hl] at R;refine ae (λG=>?_) λG=>?_
 rotate_left
 ·have G:i = ls.length:=by have:=YS G; omega
  refine (P5 h ω).mono ?_;rintro _ aa ⟨a',rfl,h⟩;rw [hC.fin G] at h ⊢;exact ⟨_,_,_,rfl,_,rfl,h.pick 3 [0,2]⟩
 have G:i < ls.length:=by have:=YR G; omega
 obtain ⟨y,ad,hy,rfl,cy⟩:=cV (cU h) G;have a6:=YV hy;have a5:kN g y:=(hC.sound a6).fit hf;have s3:sub (hp w) (hp w3):=aR 2 h.l;refine aq rfl G ⟨_,_,cy _ (sub.refl _),(Jm (hm.mono s3) a5).mono ?_⟩;rintro _ w4 ⟨rfl,g4⟩;have h:=h.gr g4
 refine ⟨_,rfl,ae (λV=>?_) λV=>?_⟩
 ·have V:=YR V;exact ⟨⟨ω,ω⟩,⟨i + 1,ls,m,H,σ,rfl,G,hC.skip hy (.inl V),h⟩,bn ω⟩
 have V:0<=di g y:=by have:=YS V; omega
 refine (cF (κ:=Int) aQ (rfl:aj Ty _ = .map _ _) bJ rfl rfl (h.pick 3 [1,0,2]) _).mono ?_;rintro _ _ ⟨rfl,rfl⟩
 refine ⟨_,hC.mp _,ae (λU=>?_) λU=>?_⟩
 ·have U:di g y∈H:=by
   have:=YR U;refine Z3 λX=>?_;rw [YZ X] at this; omega
  exact ⟨⟨ω,ω⟩,⟨i + 1,ls,m,H,σ,rfl,G,hC.skip hy (.inr U),h⟩,bn ω⟩
 have U:di g y∉H:=λX=>by
  have:=YS U;rw [Y5 X] at this; omega
 refine (cF (κ:=Int) aQ (rfl:aj Ty _ = .map _ _) bJ rfl rfl (h.pick 3 [1,0,2]) _).mono ?_;rintro _ _ ⟨rfl,rfl⟩;refine ⟨_,hC.mp _,⟨by split <;> omega,by split <;> omega⟩,(dr (κ:=Int) aQ (rfl:aj Ty _ = .map _ _) bJ (h.pick 3 [1,0,2]) _ _).mono ?_⟩;rintro _ w7 h;rw [YZ U,show (0:Int) + 1 = 1 from rfl] at h;have W:=hC.more hy V U;have u:=W.len;rw [hl,Y0,Y3] at u;have s7:sub (hp w) (hp w7):=aR 2 h.l;obtain ⟨x,kb,mb,r1,hg,Y,a0⟩:=hm.ex;obtain ⟨ab,cb,eb,rb⟩:=a0 (di g y);refine ⟨_,r1.cell s7 (j:=5) rfl,(Jl (κ:=Int) Y s7 aQ (rfl:aj Ty _ = .map _ _) bJ rfl rfl _).mono ?_⟩;rintro _ w8 ⟨rfl,e8⟩;rw [e8];refine ⟨_,_,_,eb,?_⟩
 refine ⟨λo n c z w'=>∃ j:Nat,z = j/\j<=(DI g (di g y)).length/\n = ls.length + j/\St w' (own 2 o n c (tv (ls ++ ((DI g (di g y)).take j).map FX)) :: mapA kh (bU (di g y) (.int .i64 1) m) :: all w),λ_ _ _ z _=>(DI g (di g y)).length - z.toNat,
  ⟨0,rfl,Y4 _,rfl,?_⟩,?_⟩
 ·rw [List.take_zero,List.map_nil,Zm]; exact h.pick 3 [1,0,2]
 clear h;rintro _ o _ c9 _ w9 ⟨j,rfl,hj,rfl,h⟩;have s9:sub (hp w) (hp w9):=aR 2 h.l;refine ae (λO=>?_) λO=>?_
 rotate_left
 ·have O:j = (DI g (di g y)).length:=by have:=YS O; omega
  subst O;rw [Zi] at h;exact ⟨⟨ω,ω⟩,⟨i + 1,_,_,_,σ,σ,by rw [Y0]; exact Nat.le_add_right_of_le G,W,h⟩,bn (aaF G R)⟩
 have O:j < (DI g (di g y)).length:=by have:=YR O; omega
 obtain ⟨n,X⟩ : ∃ n,(DI g (di g y))[j]? = some n:=⟨_,YU O⟩;obtain ⟨v,a9,hv,a3,cb⟩:=rb.cY O;have a1:v = (n:Int):=by rw [YW,X] at hv; exact (Option.some.inj hv).symm
 subst a1;have Z:(ls.length + j + 1) * 16<=140737488355328:=Zq (aah 16 (Nat.succ_le_succ (Zq (Nat.add_le_add_left (Nat.le_of_lt O) _) u))) hb;have a4:=W_ Z;clear R u W a0 Y;refine aw a3 O ⟨_,cb _ s9,ag h λac a7 h=>?_⟩;refine (aL (us:=tv (ls ++ ((DI g (di g y)).take j).map FX)) aQ (rfl:aj Ty _ = .slice _) (rfl:aj Ty _ = .slice _) rfl rfl rfl h rfl (by simp [aG]) Z a4).mono ?_;rintro _ am ⟨o6,a8,rfl,h⟩;refine ⟨_,_,_,rfl,⟨ω,ω⟩,⟨j + 1,σ,O,rfl,?_⟩,bn O⟩
 have e:tv (ls ++ ((DI g (di g y)).take (j + 1)).map FX) = tv (ls ++ ((DI g (di g y)).take j).map FX) ++ [.int .i64 (n:Int),.int .i64 0]:=by
  rw [Y2,X,Z6,Zg,<- Y6,oh]; rfl
 rw [e];exact h.pick 4 [0,2,3]
def eF (g:af) (K:List ai) (s:Int):List ai:=(K.filter λx=>decide (di g x = s)).map λx=>⟨x.prod,x.dot + 1⟩
theorem DK {g:af} {K:List ai} {x:ai} {s:Int}:eF g (K ++ [x]) s = if s = di g x then eF g K s ++ [⟨x.prod,x.dot + 1⟩] else eF g K s:=by
 unfold eF;rw [Zs,Zg]
 by_cases e:s = di g x
 ·simp [e]
 ·simp [e,aaw e]
theorem vj (g:af) (K:List ai) (s:Int):(eF g K s).length<=K.length:=by
 unfold eF; rw [Y3]; exact Zt _ _
theorem N2 {k:Nat} (hm:UK (hp w) g k) (hr:bh (hp w) I a l) (hf:yX g I) (hb:(l + g.prods.length + 1) * 16<=140737488355328) (hbr:∀ p∈g.prods,p.right.length<=17592186043904) :
  ρ vE [.pointer (some (aM k)),.slice a l c] w λv w'=>∃ (kk:Nat) (ps:List (Int × Lq ai)),v = .map (some kk)/\(∀ s,0<=s->gZ s ps = aO g I s)/\(ps.map Prod.fst).Nodup/\(∀ s,s∈ps.map Prod.fst↔0<=s/\aO g I s≠[])/\St w' (mapA kk (mV ps) :: aC (mO 2 tv ps) :: all w):=by
 have hl:=hr.1;refine sA (nD (St.all w) λkk w1 h=>?_);have h:=dV (κ:=Int) h;have g1:Gr w w1:=aR 1 h.l;refine ((N1 (hm.mono g1) (hr.mono g1) hf hb).mono ?_);rintro _ w2 ⟨o,rfl,O⟩;have h:=O.nf h.l;have X:=yY g I;rw [hl] at X;refine ⟨_,_,_,rfl,?_⟩
 refine ⟨λz w'=>∃ (j:Nat) (ps:List (Int × Lq ai)),z = j/\j<=(cls g I).length/\(∀ s,0<=s->gZ s ps = eF g ((cls g I).take j) s)/\(ps.map Prod.fst).Nodup/\(∀ s,s∈ps.map Prod.fst↔0<=s/\eF g ((cls g I).take j) s≠[]) /\
   St w' (mapA kk (mV ps) :: aC (mO 2 tv ps) :: own 2 o (cls g I).length (cls g I).length (tv (cls g I)) :: all w),λz _=>(cls g I).length - z.toNat,
  ⟨0,[],rfl,Y4 _,λs _=>by simp [eF]; rfl,σ,λs=>by simp [eF],?_⟩,?_⟩
 ·have h3:St w2 (mapA kk ([] : List (Int × Value)) :: own 2 o (cls g I).length (cls g I).length (tv (cls g I)) :: all w):=h.pick 3 [1,0,2];exact ((St.flat (M:=[])).2 h3).swap
 clear h O;rintro _ _ w3 ⟨j,ps,rfl,hj,u,V,R,h⟩;refine ae (λG=>?_) λG=>?_
 rotate_left
 ·have G:j = (cls g I).length:=by have:=YS G; omega
  rw [G,Zi] at u R;exact ⟨kk,ps,rfl,u,V,R,h.pick 4 [0,1,3]⟩
 have G:j < (cls g I).length:=by have:=YR G; omega
 obtain ⟨y,ad,hy,rfl,cy⟩:=cV (cU (h.pick 3 [2])) G;have W:kN g y:=(jn.1 (YV hy)).fit hf
 have a4:y.dot + 1<=9223372036854775807:=by
  obtain ⟨_,_,p,hp,h5⟩:=W;have:=hbr p (YV hp); omega
 have a3:=W.2.1;have s3:sub (hp w) (hp w3):=aR 3 h.l
 have U:∀ s,eF g ((cls g I).take (j + 1)) s = if s = di g y then eF g ((cls g I).take j) s ++ [⟨y.prod,y.dot + 1⟩] else eF g ((cls g I).take j) s:=λs=>by
  rw [Y2,hy,Z6,DK]
 refine aq rfl G ⟨_,_,cy _ (sub.refl _),ag h λk4 w4 h=>aU h rfl (by simp [aG]) λw5 h=>⟨_,_,(ah 0 h.l).at (sub.refl _) rfl,(Jm (hm.mono (aR 4 h.l)) W).mono ?_⟩⟩;rintro _ w6 ⟨rfl,g6⟩;have h:=h.gr g6;refine ⟨_,rfl,ae (λO=>?_) λO=>?_⟩
 rotate_left
 ·have O:di g y < 0:=by have:=YS O; omega
  refine ⟨⟨ω,ω⟩,⟨j + 1,ps,σ,G,λs Z=>?_,V,λs=>?_,h.pick 5 [1,2,3,4]⟩,bn G⟩
  ·rw [U,YZ ω]; exact u s Z
  ·rw [R,U]
   by_cases e:s = di g y
   ·constructor <;> (rintro ⟨e2,_⟩; omega)
   ·rw [YZ e]
 have O:0<=di g y:=YR O;refine (cF (κ:=Int) aQ (rfl:aj Ty _ = .map _ _) bJ rfl rfl (h.pick 5 [1,0,2,3,4]) _).mono ?_;rintro _ w7 ⟨rfl,e7⟩;rw [e7];obtain ⟨q,M,e1,e2,hq,back⟩:=qB rfl (h.pick 5 [2,0,1,3,4]) (di g y)
 have a0:q.2.length<=(cls g I).length:=by
  rw [e2,u _ O];refine Zq (vj _ _ _) (by rw [Zj]; omega)
 have r4:au (hp w6) (aM k4) [.int .i64 y.prod,.int .i64 y.dot]:=ah 2 hq.l;have Y:(q.2.length + 1) * 16<=140737488355328:=Zq (aah 16 (Nat.succ_le_succ (Zq a0 X))) hb;have a1:=W_ Y;refine ⟨_,_,_,e1,_,r4.cell0 (sub.refl _),_,r4.cell (sub.refl _) (j:=1) rfl,⟨ω,ω⟩,ag hq λk7 w8 h=>?_⟩;refine (aL (us:=tv q.2) aQ (rfl:aj Ty _ = .slice _) (rfl:aj Ty _ = .slice _) rfl rfl rfl h rfl (by simp [aG]) Y a1).mono ?_;rintro _ w9 ⟨o3,c3,rfl,h⟩;refine ⟨_,_,_,rfl,(dr (κ:=Int) aQ (rfl:aj Ty _ = .map _ _) bJ (h.pick 7 [4,0,2,5,6]) (di g y) _).mono ?_⟩;rintro _ a5 h;have h:=xp back (q.2 ++ [⟨y.prod,y.dot + 1⟩]) σ (by rw [oh]; rfl) h
 refine ⟨⟨ω,ω⟩,⟨j + 1,_,σ,G,λs Z=>?_,Hj _ V,λs=>?_,h⟩,bn G⟩
 ·rw [kA,U,e2]
  by_cases e:s = di g y
  ·subst e; rw [Y5 rfl,Y5 rfl,u _ Z]
  ·rw [YZ e,YZ e,u _ Z]
 ·rw [Ae,U];have:=R s
  by_cases e:s = di g y
  ·subst e;rw [Y5 rfl];refine ⟨λ_=>⟨O,σ⟩,λ_=>?_⟩
   split
   ·assumption
   ·simp
  ·rw [YZ e,<- this]
   split
   ·exact Iff.rfl
   ·rw [YY,Zl]; simp [e]
end
section
variable {α : Type} {f:α->List Value} {n:Nat}
theorem om (hf:∀ x,(f x).length = n):∀ xs:List α,(xs.flatMap f).length = xs.length * n
 | []=>σ
 | x :: xs=>by rw [Zw,Y0,hf,om hf xs,ZC,aao,aaQ]
theorem P9 (hf:∀ x,(f x).length = n):∀ (xs:List α) (i j:Nat) (x y:α) (v:Value),xs[i]? = some x->j < n->f y = (f x).set j v->(xs.flatMap f).set (i * n + j) v = (xs.set i y).flatMap f
 | [],i,j,x,y,v,h,_,_=>by simp at h
 | z :: xs,0,j,x,y,v,h,hj,he=>by
  simp at h; subst h
  rw [Nat.zero_mul,ZV,aaU,Zw,Zw,List.set_append_left _ _ (by rw [hf]; exact hj),he]
 | z :: xs,i + 1,j,x,y,v,h,hj,he=>by
  rw [List.set_cons_succ,Zw,Zw,aae _ _ (by rw [hf,aao]; omega),hf,show (i + 1) * n + j - n = i * n + j by rw [aao]; omega]
  rw [P9 hf xs i j x y v (by simpa using h) hj he]
end
theorem lF {M L:List az} {h:Hp} {i:Nat} {A:az} (hs:aD (aC M :: L) h) (hi:M[i]? = some A):∃ h1,sub h1 h/\A h1:=by
 have O:=lZ.1 hs;obtain ⟨u,e⟩:=YT.1 hi;obtain ⟨h1,G,z⟩:=dm i (by rw [Y0]; omega) O;rw [DH (by rw [Y0]; omega),List.getElem_append_left u,e] at z;exact ⟨h1,G,z⟩
def P_ (x:aS):List Value:=[.int .i64 x.sym,.int .i64 x.to]
def Kq (xs:List aS):List Value:=xs.flatMap P_
theorem Tb (xs:List aS):(Kq xs).length = xs.length * 2:=om (f:=P_) (n:=2) (λ_=>rfl) xs
abbrev SQ:=Lq ai × Lq aS
def N3 (q:SQ):List Value:=[bF q.1,bF q.2]
def xZ (ss:List SQ):List Value:=ss.flatMap N3
def BU (ss:List SQ):List az:=ss.map λq=>bB 2 tv q.1
def x_ (ss:List SQ):List az:=ss.map λq=>bB 2 Kq q.2
def bV (ss:List SQ):List cQ:=ss.map λq=>q.1.2
def bq (ss:List SQ):List (List aS):=ss.map λq=>q.2.2
theorem Hl (ss:List SQ):(xZ ss).length = ss.length * 2:=om (f:=N3) (n:=2) (λ_=>rfl) ss
theorem Jn (ss:List SQ) (q:SQ):xZ (ss ++ [q]) = xZ ss ++ N3 q:=by unfold xZ; rw [ZB]; simp
def jo (x:ai):Prop:=0<=x.prod/\x.prod < 256/\0<=x.dot/\x.dot < 65536
def BV (x:ai):List UInt8:=[UInt8.ofNat x.prod.toNat,UInt8.ofNat (x.dot.toNat % 256),UInt8.ofNat (x.dot.toNat / 256)]
def qE (K:List ai):List UInt8:=K.flatMap BV
def jS (K:List ai):ByteArray:=⟨(qE K).toArray⟩
def WM (b:UInt8):Value:=.int .u8 (b.toNat:Int)
theorem Qa {x y:ai} (hx:jo x) (hy:jo y) (h:BV x = BV y):x = y:=by
 obtain ⟨a1,a2,V,Z⟩:=hx;obtain ⟨Y,X,W,b4⟩:=hy;unfold BV at h;simp only [List.cons.injEq,and_true] at h;obtain ⟨O,z,G⟩:=h;have U:=congrArg UInt8.toNat O;have R:=congrArg UInt8.toNat z;have u:=congrArg UInt8.toNat G;simp only [UInt8.toNat_ofNat'] at U R u;exact ai.ext' ω ω
theorem Jo:∀ {K M:List ai},(∀ x∈K,jo x)->(∀ x∈M,jo x)->qE K = qE M->K = M
 | [],[],_,_,_=>rfl
 | [],y :: M,_,_,h=>by simp [qE,BV] at h
 | x :: K,[],_,_,h=>by simp [qE,BV] at h
 | x :: K,y :: M,hk,hm,h=>by
  unfold qE at h
  rw [Zw,Zw] at h
  obtain ⟨h1,h2⟩:=List.append_inj h rfl
  rw [Qa (hk x σ) (hm y σ) h1,Jo (λz hz=>hk z (by simp [hz])) (λz hz=>hm z (by simp [hz])) h2]
theorem Lc {K M:List ai} (hk:∀ x∈K,jo x) (hm:∀ x∈M,jo x) (h:jS K = jS M):K = M:=by
 refine Jo hk hm ?_;have:=congrArg (λb:ByteArray=>b.data.toList) h;simpa [jS] using this
theorem N4 (K:List ai) (x:ai):qE (K ++ [x]) = qE K ++ BV x:=by unfold qE; rw [ZB]; simp
theorem Jp (K:List ai):(qE K).length = K.length * 3:=by
 induction K with
 | nil=>rfl
 | cons x K ih=>unfold qE at *; rw [Zw,Y0,ih,ZC]; simp [BV]; omega
theorem X0 {x:ai} (h:jo x):[Value.int .u8 (IntKind.u8.wrap x.prod),Value.int .u8 (IntKind.u8.wrap x.dot),Value.int .u8 (IntKind.u8.wrap (bQ .i64 x.dot 8))] = (BV x).map WM:=by
 obtain ⟨V,a2,O,U⟩:=h
 have e:bQ .i64 x.dot 8 = x.dot / 256:=by
  simp only [bQ,IntKind.bits];rw [show min (Int.toNat 8) 64 = 8 from rfl,Int.fdiv_eq_ediv_of_nonneg _ (by decide)];rfl
 rw [e];simp only [BV,ZF,List.map_nil,WM,UInt8.toNat_ofNat',IntKind.wrap,IntKind.signed,IntKind.bits];have R:∀ z:Int,0<=z->z < 256->z % 256 = z:=λz G u=>Int.emod_eq_of_lt G u;simp;refine ⟨?_,?_,?_⟩ <;> omega
def BW (m:List (ByteArray × Value)) (st:List cQ):Prop:=∀ K,(∀ x∈K,jo x)->(assoc (jS K) m).getD (.int .i64 0) = .int .i64 (if K∈st then ((st.idxOf K:Nat):Int) + 1 else 0)
theorem BW.start:BW [] []:=λK _=>by simp [assoc]
theorem BW.put {m:List (ByteArray × Value)} {st:List cQ} {K:cQ} (h:BW m st) (hK:∀ x∈K,jo x) (hn:K∉st):BW (bU (jS K) (.int .i64 ((st.length + 1:Nat):Int)) m) (st ++ [K]):=λM G=>by
 rw [dU]
 by_cases e:jS M = jS K
 ·have:=Lc G hK e
  subst this
  rw [Y5 rfl,Y5 σ,List.idxOf_append,YZ hn]
  simp
 ·rw [YZ e,h M G]
  have z:M≠K:=λh=>e (by rw [h])
  by_cases u:M∈st
  ·rw [Y5 u,Y5 (by simp [u]),List.idxOf_append,Y5 u]
  ·rw [YZ u,YZ (by simp [u,z])]
section
variable {w:aa4} {L:List az} {a:aa3} {l c:Nat} {K:List ai}
theorem Xa (hr:bh (hp w) K a l) (hK:∀ x∈K,jo x) (hne:K≠[]) (hb:l * 16<=140737488355328) :
  ρ NU [.slice a l c] w λv w'=>v = .string (jS K)/\Gr w w':=by
 have hl:=hr.1;refine Jg ⟨λo n c z w'=>∃ j:Nat,z = j/\j<=l/\n = (qE (K.take j)).length/\St w' (own 1 o n c ((qE (K.take j)).map WM) :: all w),λ_ _ _ z _=>l - z.toNat,⟨0,rfl,Y4 _,rfl,ay 1 (St.all w)⟩,?_⟩;rintro _ o _ c1 _ W ⟨j,rfl,Y,rfl,h⟩;have s1:sub (hp w) (hp W):=aR 1 h.l
 refine ae (λu=>?_) λu=>?_
 ·have u:j < l:=by have:=YR u; omega
  obtain ⟨x,X,Z,rfl,cx⟩:=cV hr u;have R:=hK x (YV Z);refine aq rfl u ⟨_,_,cx _ s1,ag h λk3 w2 h=>aU h rfl (by simp [aG]) λw3 h=>?_⟩;have O:au (hp w3) (aM k3) [.int .i64 x.prod,.int .i64 x.dot]:=ah 0 h.l;refine ⟨_,O.cell0 (sub.refl _),_,O.cell (sub.refl _) (j:=1) rfl,_,O.cell (sub.refl _) (j:=1) rfl,by show (0:Int)<=8; decide,?_⟩;refine ag h λk4 w4 h=>?_;rw [X0 R] at h;have V:=Jp (K.take j);rw [Zj] at V;refine (qD (n:=3) (us:=(qE (K.take j)).map WM) (news:=(BV x).map WM) aQ (rfl:aj Ty _ = .slice _) (rfl:aj Ty _ = .slice _) rfl rfl rfl (h.pick 3 [2,0]) rfl (by show 0 < 1; decide) (.inr ⟨_,rfl,ah 0 h.l⟩) (λu hu=>by obtain ⟨b,_,rfl⟩:=Zh.1 hu; rfl) (by show ((qE (K.take j)).length + 3) * 1<=_; omega) ω).mono ?_;rintro _ w5 ⟨o2,c2,rfl,h⟩;have e:qE (K.take (j + 1)) = qE (K.take j) ++ BV x:=by rw [Y2,Z,Z6,N4]
  refine ⟨_,_,_,rfl,⟨ω,ω⟩,⟨j + 1,σ,u,by rw [e,Y0]; rfl,?_⟩,bn u⟩;rw [e,Zg];exact h.pick 3 [0,2]
 ·have u:j = l:=by have:=YS u; omega
  subst u;rw [<- hl,Zi] at h ⊢
  have G:0 < ((qE K).map WM).length:=by
   rw [Y3,Jp];have:=aas.2 hne; omega
  obtain ⟨X,rfl⟩:=gV h G;have U:=run_convert_bytes_back (P:=Tryz.prog) W KU pD PI X c1 (qE K) IQ NP mi λj Y=>Ck h rfl (by rw [YW,YU Y]; rfl);exact ⟨_,_,U,Ev.refl _,_,rfl,rfl,h.aW⟩
end
abbrev Ld (kt ka:Nat) (o:aa3) (c:Nat) (asked int:Int) (m:List (ByteArray × Value)) (ss:List SQ) (L:List az):List az :=
 aH kt [.slice o ss.length c,.int .i64 asked,.int .i64 int,.map (some ka)] :: own 2 o ss.length c (xZ ss) :: mapA ka m :: aC (BU ss) :: aC (x_ ss) :: L
def fM (ss:List SQ) (b:aa3) (d:Nat) (K:cQ):List SQ:=if K∈bV ss then ss else ss ++ [(((b,d),K),((none,0),[]))]
theorem Ct (ss:List SQ) (b:aa3) (d:Nat) (K:cQ):bV (fM ss b d K) = rK (bV ss) K:=by
 unfold fM rK; split <;> simp [bV]
theorem dZ (ss:List SQ):(bV ss).length = ss.length:=Y3 _
theorem VF {ss:List SQ} {K:cQ} (h:K∈bV ss):∃ q,ss[(bV ss).idxOf K]? = some q/\q.1.2 = K:=by
 have z:=aaN h;rw [dZ] at z;refine ⟨ss[(bV ss).idxOf K],YU z,?_⟩;have u:(bV ss)[(bV ss).idxOf K]'(by rw [dZ]; exact z) = K:=List.getElem_idxOf _;unfold bV at u ⊢;rw [List.getElem_map] at u;exact u
theorem Af {h:Hp} {o:aa3} {ss:List SQ} {i:Nat} {q:SQ} (r:fo o (xZ ss) h) (hq:ss[i]? = some q):∃ ad,o = some ad/\au h (ad.add (cE i 2)) (N3 q):=by
 rcases r with e | ⟨ad,rfl,r⟩
 ·have u:=congrArg List.length e;rw [Hl,ZJ] at u;have:=(YT.1 hq).1; omega
 ·exact ⟨ad,rfl,bY (n:=2) (λ_=>rfl) ss ad r i q hq⟩
theorem Hm {ss:List SQ} {i:Nat} {q:SQ} (hq:ss[i]? = some q):(BU ss)[i]? = some (bB 2 tv q.1):=by unfold BU; rw [YW,hq]; rfl
theorem MI {ss:List SQ} {i:Nat} {q:SQ} (hq:ss[i]? = some q):(x_ ss)[i]? = some (bB 2 Kq q.2):=by unfold x_; rw [YW,hq]; rfl
theorem Hn {q:Lq ai} {h:Hp} (ha:bB 2 tv q h):bh h q.2 q.1.1 q.2.length:=Cr rfl (cP ha)
section
variable {w:aa4} {L:List az}
theorem Jq {kt ka c l d:Nat} {o b:aa3} {asked int:Int} {m:List (ByteArray × Value)} {ss:List SQ} {K:cQ} (h:St w (Ld kt ka o c asked int m ss (own 2 b l d (tv K) :: L)))
  (hK:BW m (bV ss)) (hne:K≠[]) (hsm:∀ x∈K,jo x) (ha:0<=asked/\asked < 4611686018427387904) (hi:0<=int/\int < 4611686018427387904) (hn:ss.length<=300) (hl:l * 16<=140737488355328) :
  ρ xl [.pointer (some (aM kt)),.slice b l d] w λv w'=>v = .int .i64 ((bV ss).idxOf K:Nat)/\∃ o' c' m',BW m' (rK (bV ss) K) /\
   St w' (Ld kt ka o' c' (asked + 1) (int + ((fM ss b d K).length - ss.length:Nat)) m' (fM ss b d K) L):=by
 have O:l = K.length:=by have:=jg (h.pick 6 [5]); rw [dX] at this; omega
 have a0:0 < l:=by rw [O]; exact aas.2 hne
 have hz:K[0]? = some K[0]:=YU ω;refine uj ⟨_,(ah 0 h.l).cell (sub.refl _) (j:=1) rfl,⟨ω,ω⟩,?_⟩
 show st1 w ((aM kt).add 1) _ _
 rw [aK];refine bj h σ λw1 h=>?_;obtain ⟨h5,s5,a1⟩:=Se 5 h.l;have z:bh (hp w1) K b l:=(Cr O.symm (cP a1)).mono s5;refine (Xa z hsm hne hl).mono ?_;rintro _ w2 ⟨rfl,g2⟩;have h:=h.gr g2;have z:=z.mono g2;clear s5 a1
 refine ⟨_,rfl,λu=>K∉bV ss/\St u (Ld kt ka o c (asked + 1) int m ss (own 2 b l d (tv K) :: L)),?_,?_⟩
 ·intro R hd;have h:=h.eq (aE hd);have z:bh (hp R) K b l:=z.mono (Gr.drawn hd);have W:au (hp R) (aM kt) [.slice o ss.length c,.int .i64 (asked + 1),.int .i64 int,.map (some ka)]:=ah 0 h.l
  have lk:bf Tryz.prog (Instr.lookup BO (.map (some ka)) (.string (jS K)) false) R λv w'=>v = .int .i64 (if K∈bV ss then (((bV ss).idxOf K:Nat):Int) + 1 else 0)/\w' = R:=by
   refine (cF (κ:=ByteArray) aQ (rfl:aj Ty _ = .map _ _) mi rfl rfl (h.pick 3 [2]) (jS K)).mono ?_;rintro _ _ ⟨rfl,rfl⟩;exact ⟨hK K hsm,rfl⟩
  refine ⟨λu=>Gr R u,Gr.refl _,_,λu s=>W.cell s (j:=3) rfl,lk.mono ?_⟩;rintro _ w5 ⟨rfl,e5⟩;rw [e5];refine ⟨_,rfl,λu=>Gr R u,Gr.refl _,λ_ h=>h,ae (λh1=>?_) λh1=>?_⟩
  rotate_left
  ·refine ⟨λG=>?_,h⟩;rw [Y5 G] at h1;have:=YS h1; omega
  have G:K∈bV ss:=Z3 λhn=>by rw [YZ hn] at h1; exact absurd (YR h1) ω
  obtain ⟨q,hq,Z⟩:=VF G;have a3:=(YT.1 hq).1;obtain ⟨ad,rfl,rs⟩:=Af (dJ 1 h.l) hq;obtain ⟨h6,s6,am⟩:=lF (h.pick 4 [3]).l (Hm hq);have a6:bh (hp R) K q.1.1.1 q.1.2.length:=by have:=(Hn am).mono s6; rwa [Z] at this ⊢
  have b2:q.1.2.length = l:=by rw [Z,O]
  obtain ⟨x,b3,hx,aa,cx⟩:=cV z a0;obtain ⟨y,aT,hy,a5,cy⟩:=cV a6 (by omega:0 < q.1.2.length);rw [hx] at hy; cases hy;rw [Vz] at cx cy;refine ⟨_,_,_,λu s=>W.cell0 s,_,λu s=>W.cell s (j:=3) rfl,iW aa a0 ⟨_,_,cx,lk.mono ?_⟩⟩;rintro _ b1 ⟨rfl,aI⟩;rw [aI,Y5 G];have e1:(((bV ss).idxOf K:Nat):Int) + 1 - 1 = (((bV ss).idxOf K:Nat):Int):=ω
  refine ⟨_,rfl,λu=>Gr R u,Gr.refl _,λ_ h=>h,⟨ω,ω⟩,?_⟩;rw [e1];refine aq rfl a3 ⟨_,_,_,λu s=>rs.cell0 s,iW a5 ω ⟨_,_,cy,_,λu _=>DF u _ _ x x,_,rfl,vC σ ⟨_,W.cell (sub.refl _) (j:=3) rfl,lk.mono ?_⟩⟩⟩;rintro _ b0 ⟨rfl,a8⟩;rw [a8,Y5 G]
  refine ⟨_,rfl,⟨ω,ω⟩,by rw [e1],some ad,c,m,?_,?_⟩
  ·unfold rK; rw [Y5 G]; exact hK
  ·unfold fM; rw [Y5 G,Z0];rw [show int + ((0:Nat):Int) = int by omega];exact h.pick 6 [0,1,2,3,4]
 clear h z;rintro _ a7 ⟨G,h⟩;refine ⟨_,(ah 0 h.l).cell (sub.refl _) (j:=2) rfl,⟨ω,ω⟩,?_⟩
 show st1 a7 ((aM kt).add 2) _ _
 rw [aK];refine bj h σ λb7 h=>?_;refine ⟨_,_,_,(ah 0 h.l).cell0 (sub.refl _),ag h λk7 ba h=>?_⟩;refine (aL (us:=xZ ss) aQ (rfl:aj Ty _ = .slice _) (rfl:aj Ty _ = .slice _) rfl rfl rfl (h.pick 3 [0,2,1]) rfl (by simp [aG]) (by show (ss.length + 1) * 48<=_; omega) ω).mono ?_;rintro _ b5 ⟨X,Y,rfl,h⟩;refine ⟨_,_,_,rfl,bj (h.pick 3 [2,0]) σ λb6 h=>?_⟩;intro U hd;have h:=h.eq (aE hd);have h:St U (aH kt [.slice X (ss.length + 1) Y,.int .i64 (asked + 1),.int .i64 (int + 1),.map (some ka)] :: own 2 X (ss.length + 1) Y (xZ ss ++ [.slice b l d,.slice none 0 0]) :: mapA ka m :: aC (BU ss) :: aC (x_ ss) :: own 2 b l d (tv K) :: L):=h;have W:au (hp U) (aM kt) [.slice X (ss.length + 1) Y,.int .i64 (asked + 1),.int .i64 (int + 1),.map (some ka)]:=ah 0 h.l;refine ⟨λu=>Gr U u,Gr.refl _,_,λu s=>W.cell s (j:=3) rfl,_,_,_,λu s=>W.cell0 s,(dr (κ:=ByteArray) aQ (rfl:aj Ty _ = .map _ _) mi (h.pick 3 [2,0,1]) (jS K) _).mono ?_⟩;rintro _ ac h;have V:=hK.put hsm G;rw [dZ] at V;refine ⟨_,(ah 1 h.l).cell (sub.refl _) (j:=3) rfl,(cF (κ:=ByteArray) aQ (rfl:aj Ty _ = .map _ _) mi rfl rfl h (jS K)).mono ?_⟩;rintro _ b4 ⟨rfl,a4⟩;rw [a4];have e1:=V K hsm;have e2:[K].idxOf K = 0:=σ
 rw [Y5 σ,List.idxOf_append,YZ G,e2,ZV,dZ] at e1;have a9:fM ss b d K = ss ++ [(((b,d),K),((none,0),[]))]:=by unfold fM; rw [YZ G]
 have ab:rK (bV ss) K = bV ss ++ [K]:=by unfold rK; rw [YZ G]
 refine ⟨_,e1,⟨ω,ω⟩,?_,X,Y,bU (jS K) (.int .i64 ((ss.length + 1:Nat):Int)) m,?_,?_⟩
 ·rw [List.idxOf_eq_length G,dZ]
  show Value.int .i64 _ = _
  rw [show ((ss.length:Nat):Int) + 1 - 1 = (ss.length:Int) by omega]
 ·rw [ab]; exact V
 ·rw [a9];have h:=St.snoc ((ay 2 h).pick 7 [0,5,1,2,3,4,6]);have h:=(St.snoc (h.pick 6 [5,4,0,1,2,3])).pick 5 [3,4,2,0,1];have e3:xZ (ss ++ [(((b,d),K),((none,0),[]))]) = xZ ss ++ [.slice b l d,.slice none 0 0]:=by rw [Jn,O]; rfl
  have e4:BU (ss ++ [(((b,d),K),((none,0),[]))]) = BU ss ++ [own 2 b l d (tv K)]:=by rw [O]; simp [BU,bB]
  have e5:x_ (ss ++ [(((b,d),K),((none,0),[]))]) = x_ ss ++ [own 2 none 0 0 []]:=by simp [x_,bB,Kq]
  have e6:(ss ++ [(((b,d),K),(((none,0),[]):Lq aS))]).length = ss.length + 1:=σ
  show St ac (aH kt [.slice X _ Y,_,.int .i64 (int + _),_] :: own 2 X _ Y _ :: _ :: _ :: _ :: L)
  rw [e3,e4,e5,e6,show ((ss.length + 1 - ss.length:Nat):Int) = 1 by omega];exact h
end
section
variable {g:af} {K:cQ} {x:ai} {s:Int} {i:Nat}
theorem ak.b9 (h:ak g):g.T<=65/\g.N<=65/\g.prods.length<=97/\2<=g.prods.length/\1<=g.T/\2<=g.N:=by
 obtain ⟨_,u,z,_⟩:=h;have ht:0 < g.terms.length:=by have:=(YT.1 u.1).1; exact this
 exact ⟨u.2.2.1,u.2.2.2.1,z.2.1,z.1,ht,u.2.1⟩
theorem ak.sym (h:ak g) {p:aP} (hp:p∈g.prods) (hs:s∈p.right):1<=s/\s < g.T + g.N:=by
 obtain ⟨_,U,G,V,u,_,O,_⟩:=h;obtain ⟨n,z⟩:=Zr hp;cases n with
 | zero =>
  rw [u] at z; cases z;rw [O,Zl] at hs;have:=G.2.2.2;have ht:0 < g.terms.length:=by have:=(YT.1 U.1).1; exact this
  have W:g.T = g.terms.length:=rfl;omega
 | succ n =>
  have R:p∈g.prods.drop 1:=by
   refine YV (i:=n) ?_;rw [Zv,aaQ]; exact z
  have:=(G.2.2.1 p R).2 s hs;exact ⟨this.1,this.2.1⟩
theorem uv (hc:ak g) (hf:∀ x∈K,kN g x) (h0:0<=s) (hne:aO g K s≠[]):1<=s/\s < g.T + g.N:=by
 obtain ⟨x,u⟩:=aai _ hne;obtain ⟨y,O,z,_⟩:=de.1 u;obtain ⟨p,hp,_,G⟩:=DC (O.fit hf) z h0;exact hc.sym (YV hp) (YV G)
theorem yZ (hp:g.prods.length<=97) (hs:jb K) (hf:∀ x∈K,kN g x) (hd:∀ x∈K,x.dot<=299):K.length<=29100:=by
 have:=jR (m:=(List.range 29100).map λn=>(⟨((n / 300:Nat):Int),((n % 300:Nat):Int)⟩ : ai)) hs.nodup λx u=>by
  obtain ⟨R,O,p,z,_⟩:=hf x u;have G:=(YT.1 z).1;have U:=hd x u;refine Zh.2 ⟨x.prod.toNat * 300 + x.dot.toNat,Zo.2 ω,?_⟩;exact ai.ext' (by show (((x.prod.toNat * 300 + x.dot.toNat) / 300:Nat):Int) = _; omega) (by show (((x.prod.toNat * 300 + x.dot.toNat) % 300:Nat):Int) = _; omega)
 rwa [Y3,ZX] at this
theorem Qb (hp:g.prods.length<=97) (hf:kN g x) (hd:x.dot < 65536):jo x:=by
 obtain ⟨G,u,p,z,_⟩:=hf;have O:=(YT.1 z).1;exact ⟨G,ω,u,hd⟩
theorem xr (g:af) (K:cQ):(bL g K).Pairwise (· < ·):=(List.pairwise_lt_range (n:=g.T + g.N)).filter _
theorem Tc {ks:List Int} (hc:ak g) (hf:∀ x∈K,kN g x) (hn:ks.Nodup) (hk:∀ s,s∈ks↔0<=s/\aO g K s≠[]):ks.mergeSort (λx y=>decide (x<=y)) = (bL g K).map Int.ofNat:=by
 have hp:=List.mergeSort_perm ks (λx y=>decide (x<=y))
 have G:(ks.mergeSort λx y=>decide (x<=y)).Pairwise (·<=·):=by
  have:=List.pairwise_mergeSort (le:=λx y:Int=>decide (x<=y)) (λa b c G z=>by simp at *; omega) (λa b=>by simp; omega) ks;exact this.imp λh=>by simpa using h
 have z:((bL g K).map Int.ofNat).Pairwise (·<=·):=by
  rw [ZO];exact (xr g K).imp λh=>by simp; omega
 have R:((bL g K).map Int.ofNat).Nodup:=by
  rw [ZH,ZO];exact (xr g K).imp λh e=>by simp at e; omega
 have W:ks.Perm ((bL g K).map Int.ofNat):=(List.perm_ext_iff_of_nodup hn R).2 λs=>by
  rw [hk,Zh]
  constructor
  ·rintro ⟨h0,u⟩;obtain ⟨_,O⟩:=uv hc hf h0 u;refine ⟨s.toNat,ZA.2 ⟨Zo.2 ω,?_⟩,by simp; omega⟩;rw [Y7,Int.toNat_of_nonneg h0]; exact u
  ·rintro ⟨n,V,rfl⟩;exact ⟨σ,YR (ZA.1 V).2⟩
 exact List.Perm.eq_of_pairwise (λa b _ _ U O=>Int.le_antisymm U O) G z (hp.trans W)
end
section
variable {κ α : Type} [DecidableEq κ]
def DL (s:κ) (ps:List (κ × Lq α)):Lq α:=(dw s ps).getD ((none,0),[])
theorem Le {ps:List (κ × Lq α)} (hn:(ps.map Prod.fst).Nodup) {s:κ} {q:Lq α} (hm:(s,q)∈ps):dw s ps = some q:=by
 induction ps with
 | nil=>simp at hm
 | cons x m ih =>
  obtain ⟨a,u⟩:=x;rw [ZF,ZR] at hn;unfold dw
  rcases Ze.1 hm with e | z
  ·cases e; rw [Y5 rfl]
  ·have:s≠a:=λe=>hn.1 (by subst e; exact Zh.2 ⟨_,z,rfl⟩);rw [YZ this]; exact ih hn.2 z
theorem Qc {sz:Nat} {f:List α->List Value} {ps:List (κ × Lq α)} (hn:(ps.map Prod.fst).Nodup) {ks:List κ} (hp:ks.Perm (ps.map Prod.fst)):(mO sz f ps).Perm (ks.map λs=>bB sz f (DL s ps)):=by
 have e:mO sz f ps = (ps.map Prod.fst).map λs=>bB sz f (DL s ps):=by
  unfold mO;rw [aay];refine ZP λx u=>?_
  show bB sz f x.2 = bB sz f (DL x.1 ps)
  unfold DL;rw [Le hn u]; rfl
 rw [e];exact (hp.map _).symm
end
theorem Qd {w:aa4} {L M N:List az} (h:St w (aC M :: L)) (hp:M.Perm N):St w (aC N :: L):=St.flat.2 ((St.flat.1 h).perm (hp.append_right _))
theorem Td {w:aa4} {L M:List az} {A:az} (h:St w (aC (A :: M) :: L)):St w (A :: aC M :: L):=by
 have z:St w (A :: (M ++ L)):=St.flat.1 h;have u:St w (M ++ (A :: L)):=z.perm ZQ.symm;exact (St.flat.2 u).swap
def y6 (es:List (List aS)):Nat:=(es.map List.length).sum
theorem Ag (es:List (List aS)) (x:List aS):y6 (es ++ [x]) = y6 es + x.length:=by unfold y6; simp
theorem ml {g:af} {K:cQ}:∀ (l:List Nat) (acc:List cQ × List aS),(lW g K l acc).2.length = acc.2.length + l.length
 | [],_=>rfl
 | s :: l,acc=>by
  show (lW g K l _).2.length = _
  rw [ml l]; simp; omega
theorem Ah {ss:List SQ} {i:Nat} {q:SQ} (hq:ss[i]? = some q) (e:Lq aS):bV (ss.set i (q.1,e)) = bV ss/\BU (ss.set i (q.1,e)) = BU ss/\bq (ss.set i (q.1,e)) = (bq ss).set i e.2/\x_ (ss.set i (q.1,e)) = (x_ ss).set i (bB 2 Kq e):=by
 refine ⟨?_,?_,?_,?_⟩
 ·unfold bV; rw [ZM];exact pG (by rw [YW,hq]; rfl)
 ·unfold BU; rw [ZM];exact pG (by rw [YW,hq]; rfl)
 ·unfold bq; rw [ZM]
 ·unfold x_; rw [ZM]
theorem MJ {ss:List SQ} {i:Nat} {q:SQ} (hq:ss[i]? = some q) (e:Lq aS):(xZ ss).set (i * 2 + 1) (bF e) = xZ (ss.set i (q.1,e)) :=
 P9 (f:=N3) (n:=2) (λ_=>rfl) ss i 1 q (q.1,e) _ hq (by decide) rfl
structure bw (g:af) (ss:List SQ):Prop where
 dn:Jd g ss.length
 ks:bV ss = (cN g ss.length).1
 es:bq ss = (cN g ss.length).2
structure N5 (g:af) (ss:List SQ) (m:List (ByteArray × Value)) (asked:Int) (i:Nat):Prop where
 ks:bV ss = (cN g i).1
 es:bq ss = (cN g i).2 ++ List.replicate (ss.length - i) []
 lt:∀ j,j < i->j < (cN g j).1.length
 le:ss.length<=256
 key:BW m (bV ss)
 ask:asked = 1 + (y6 (cN g i).2:Int)
structure Js (g:af) (K:cQ) (ss:List SQ) (m:List (ByteArray × Value)) (asked:Int) (i t:Nat) (es:List aS):Prop where
 ks:bV ss = (lW g K ((bL g K).take t) ((cN g i).1,[])).1
 ed:es = (lW g K ((bL g K).take t) ((cN g i).1,[])).2
 es:bq ss = (cN g i).2 ++ List.replicate (ss.length - i) []
 le:ss.length<=256
 key:BW m (bV ss)
 ask:asked = 1 + (y6 (cN g i).2:Int) + t
section
variable {g:af} {K:cQ} {ss:List SQ} {m m' : List (ByteArray × Value)} {asked:Int} {i t:Nat} {es:List aS}
theorem N5.start {b:aa3} {d:Nat} (h:BW m (rK [] [⟨0,0⟩])):N5 g (fM [] b d [⟨0,0⟩]) m 1 0:=by
 have e:fM [] b d [⟨0,0⟩] = [(((b,d),[⟨0,0⟩]),((none,0),[]))]:=by simp [fM,bV]
 have u:rK [] [(⟨0,0⟩ : ai)] = [[⟨0,0⟩]]:=by simp [rK]
 rw [u] at h;rw [e];exact ⟨rfl,rfl,λj z=>ω,σ,h,rfl⟩
theorem N5.inner (h:N5 g ss m asked i) (hK:(cN g i).1[i]? = some K):Js g K ss m asked i 0 [] :=
 ⟨h.ks,rfl,h.es,h.le,h.key,by rw [h.ask]; omega⟩
theorem Js.next (h:Js g K ss m asked i t es) {s:Nat} (hs:(bL g K)[t]? = some s) (hi:i<=ss.length) {b:aa3} {d:Nat} (hk:BW m' (rK (bV ss) (aO g K s))) (hle:(fM ss b d (aO g K s)).length<=256) :
  Js g K (fM ss b d (aO g K s)) m' (asked + 1) i (t + 1) (es ++ [⟨(s:Int),(((bV ss).idxOf (aO g K s):Nat):Int)⟩]):=by
 have e:=Jb (g:=g) (K:=K) (acc:=((cN g i).1,[])) hs
 refine ⟨?_,?_,?_,hle,by rw [Ct]; exact hk,by rw [h.ask]; omega⟩
 ·rw [Ct,e,h.ks]
 ·rw [e,h.ed,h.ks]
 ·unfold fM
  split
  ·exact h.es
  ·have:bq (ss ++ [(((b,d),aO g K s),(((none,0),[]):Lq aS))]) = bq ss ++ [[]]:=by simp [bq]
   rw [this,h.es,Y0,aaT,show ss.length + 1 - i = (ss.length - i) + 1 by omega,List.replicate_succ',Y6]
theorem Js.done (h:Js g K ss m asked i (bL g K).length es) (hb:∀ j,j < i->j < (cN g j).1.length) (hK:(cN g i).1[i]? = some K) (hes:(cN g i).2.length = i) (hi:i < ss.length) {q:SQ} (hq:ss[i]? = some q) (e:Lq aS) (he:e.2 = es) :
  N5 g (ss.set i (q.1,e)) m asked (i + 1):=by
 have z:=Ah hq e;have O:=h.ks;have G:=h.ed;rw [Zi] at O G;have u:=ff hK
 refine ⟨by rw [z.1,u,O],?_,λj U=>?_,by rw [Zn]; exact h.le,by rw [z.1]; exact h.key,?_⟩
 ·rw [z.2.2.1,h.es,u,he,<- G,Zn,aae _ _ ω,hes,Z0,show ss.length - i = (ss.length - (i + 1)) + 1 by omega,aar,aaU,Y6];rfl
 ·by_cases R:j = i
  ·subst R; exact (YT.1 hK).1
  ·exact hb j ω
 ·rw [u,Ag,h.ask,ml];simp; omega
end
theorem Cu {g:af}:∀ i,y6 (cN g i).2<=i * (g.T + g.N)
 | 0=>Y4 _
 | i + 1=>by
  cases h:(cN g i).1[i]? with
  | none=>rw [pJ h,aao]; exact Zq (Cu i) (Nat.le_add_right _ _)
  | some K =>
   rw [ff h,Ag,ml,aao]
   have h1:(bL g K).length<=g.T + g.N:=by
    have:=Zt (λs=>decide (aO g K (s:Nat)≠[])) (List.range (g.T + g.N))
    rwa [ZX] at this
   have:=Cu (g:=g) i
   simp; omega
theorem DM (ss:List SQ) (b:aa3) (d:Nat) (K:cQ):ss.length<=(fM ss b d K).length/\(fM ss b d K).length<=ss.length + 1:=by
 unfold fM; split <;> simp
theorem Te {κ α : Type} (ps:List (κ × Lq α)):(mV ps).map Prod.fst = ps.map Prod.fst:=by unfold mV; rw [aay]; rfl
theorem VG {κ α : Type} (ps:List (κ × Lq α)):(mV ps).length = ps.length:=Y3 _
abbrev z3:List Value:=[.slice none 0 0,.int .i64 0,.int .i64 0]
section
variable {w:aa4} {L:List az} {g:af} {x:GA}
theorem Tf (hg:gR (hp w) g x) (hb:jd g):ρ Bq [.agg ⟨x.cells⟩] w λv w' =>
  (¬ak g/\v = .tuple #[.agg #[.slice none 0 0,.int .i64 0,.int .i64 0],.int .i64 1]/\Gr w w') \/
  (ak g/\S6 g/\v = .tuple #[.agg #[.slice none 0 0,.int .i64 0,.int .i64 0],.int .i64 11]/\Gr w w') \/
  (ak g/\∃ (o:aa3) (ss:List SQ),bw g ss/\v = .tuple #[.agg #[.slice o ss.length ss.length,.int .i64 (1 + (y6 (bq ss):Int)),.int .i64 (ss.length:Int)],.int .i64 0] /\
   St w' (own 2 o ss.length ss.length (xZ ss) :: aC (BU ss) :: aC (x_ ss) :: all w)):=by
 refine E8 (cG hg λk1 w1 gw hg B=>?_);refine ag (St.all w1) λk2 w2 h=>?_;refine ⟨_,_,_,_,_,_,_,_,_,_,_,_,_,B.row h.aW,(yK (hg.mono h.aW) hb).mono ?_⟩;rintro _ w3 ⟨⟨rb,rfl,ac⟩,g3⟩;have h:=h.gr g3;have s3:sub (hp w1) (hp w3):=h.aW
 refine ⟨_,rfl,ae (λU=>?_) λU=>?_⟩
 ·have hn:¬ak g:=λhc=>by rw [ac.2 hc] at U; simp at U
  exact aU h rfl (by simp [aG]) λw4 h=>⟨_,_,_,_,_,(ah 0 h.l).at (sub.refl _) rfl,.inl ⟨hn,rfl,gw.trans h.aW⟩⟩
 have hc:ak g:=ac.1 (by simpa using U);obtain ⟨hT,hN,hP,ek,d5,e5⟩:=hc.b9;obtain ⟨_,_,_,_,_,_,c6⟩:=id hb;refine ⟨_,_,_,_,_,_,_,_,_,_,_,_,_,B.row s3,(W8 (hg.mono s3) hb).mono ?_⟩;rintro _ w5 ⟨km,kb,pb,rfl,bC,h5⟩;have h:=(St.on (N:=[_,_,_]) h5 h.l).pick 5 [3,0,1,2,4];obtain ⟨H,a7,sH,h⟩:=St.freeze h;have bd:sub (hp w1) H:=aR 3 a7;have hm:UK H g km:=W9 (hg.mono bd) bC a7;have sw:sub (hp w) H:=sub.trans gw bd;clear a7 h5 sH B s3 g3;refine ⟨_,rfl,nD h λka w6 h=>?_⟩;have h:=dV (κ:=ByteArray) h;refine ag h λkt w7 h=>ag h λk3 w8 h=>?_;have h:St w8 (own 2 (some (aM k3)) 1 1 (tv [⟨0,0⟩]) :: aH kt [.slice none 0 0,.int .i64 0,.int .i64 0,.map (some ka)] :: mapA ka ([] : List (ByteArray × Value)) :: aH k2 z3 :: [has H]):=dz (cs:=[]) h rfl rfl (Zc _);have h:=ay 2 ((St.flat (M:=[])).2 ((St.flat (M:=[])).2 h));refine (Jq (ss:=[]) (h.pick 8 [4,0,5,1,2,3,6,7]) BW.start σ (by simp [jo]) ⟨by decide,by decide⟩ ⟨by decide,by decide⟩ σ (by decide)).mono ?_;rintro _ w9 ⟨rfl,o1,c1,m1,b6,h⟩
 refine ⟨_,rfl,λz w'=>∃ (i:Nat) (ss:List SQ) (o:aa3) (c:Nat) (m:List (ByteArray × Value)) (asked:Int),z = i/\i<=ss.length/\N5 g ss m asked i/\St w' (Ld kt ka o c asked ss.length m ss (aH k2 z3 :: [has H])),λz _=>300 - z.toNat,
  ⟨0,fM [] (some (aM k3)) 1 [⟨0,0⟩],o1,c1,m1,1,rfl,Y4 _,.start b6,?_⟩,?_⟩
 ·have e:(0:Int) + (((fM [] (some (aM k3)) 1 [⟨0,0⟩]).length - ([] : List SQ).length:Nat):Int) = ((fM [] (some (aM k3)) 1 [⟨0,0⟩]).length:Int):=σ
  rw [e] at h;exact h
 clear h b6;rintro _ _ b4 ⟨i,ss,o,c,m,asked,rfl,hi,hB,h⟩;have b1:ss.length<=256:=hB.le;refine ⟨_,_,_,(ah 0 h.l).cell0 (sub.refl _),ae (λU=>?_) λU=>?_⟩
 rotate_left
 ·have U:i = ss.length:=by have:=YS U; omega
  subst U;have W:=dZ ss;have X:=hB.es;rw [Z0,List.replicate_zero,Zm] at X;have hA:bw g ss:=⟨⟨by rw [<- hB.ks,W],b1,hB.lt⟩,hB.ks,X⟩;refine ⟨_,_,_,(ah 0 h.l).cell0 (sub.refl _),gD (fL (dI (h.pick 2 [1])) ⟨_,_,_,rfl,?_⟩)⟩;have h:=fK (h.pick 7 [1,0,3,4,5,6]);refine bj (h.pick 2 [1,0]) σ λbl h=>?_;have c5:au (hp bl) (aM kt) ([.slice (fT o 0 ss.length 2) ss.length ss.length,.int .i64 asked,.int .i64 (ss.length:Int)] ++ [.map (some ka)]):=ah 0 h.l
  refine ⟨_,_,_,_,_,c5.take.at (sub.refl _) rfl,aU (h.pick 6 [4,1,2,3,5]) rfl (by simp [aG]) λej h=>⟨_,_,_,_,_,(ah 0 h.l).at (sub.refl _) rfl,.inr (.inr ⟨hc,fT o 0 ss.length 2,ss,hA,?_,?_⟩)⟩⟩
  ·rw [X,<- hB.ask]
  ·exact St.on (N:=[_,_,_]) (h.pick 5 [1,2,3,4]) (bH sw)
 have U:i < ss.length:=by have:=YR U; omega
 obtain ⟨q,hq⟩ : ∃ q,ss[i]? = some q:=⟨_,YU U⟩;obtain ⟨K,a1⟩ : ∃ K,K = q.1.2:=⟨_,rfl⟩;have hK:(cN g i).1[i]? = some K:=by rw [<- hB.ks]; unfold bV; rw [YW,hq,a1]; rfl
 have hI:=dE (g:=g) ω i;have b5:=YV hK;have Y:=hI.fit K b5;have bb:∀ x∈K,x.dot<=i:=hI.dots i K hK;have ec:=yZ hP (hI.Rq K b5) Y λx hx=>by have:=bb x hx; omega
 have am:=Cu (g:=g) i;have bT:y6 (cN g i).2<=33280:=Zq am (aaG (show i<=256 by omega) (show g.T + g.N<=130 by omega));have X:=He (g:=g) i (by rw [<- hB.ks,dZ]; omega);obtain ⟨ad,rfl,rs⟩:=Af (dJ 1 h.l) hq;obtain ⟨h6,s6,be⟩:=lF (h.pick 4 [3]).l (Hm hq);have b2:bh (hp b4) K q.1.1.1 q.1.2.length:=by have:=(Hn be).mono s6; rwa [a1]
 have b7:q.1.2.length = K.length:=by rw [a1]
 clear be s6;have aT:sub H (hp b4):=aR 6 h.l;refine ⟨_,_,_,(ah 0 h.l).cell0 (sub.refl _),aq rfl U ⟨_,_,_,rs.cell0 (sub.refl _),(N2 (hm.mono aT) b2 Y (by rw [b7]; omega) c6).mono ?_⟩⟩;rintro _ ea ⟨kk,ps,rfl,bG,a6,a8,h2⟩;have h:=h2.Mr h.l;clear rs b2 h2 aT
 have bi:ps.length<=130:=by
  have:=jR (m:=(List.range 130).map Int.ofNat) a6 λs hs=>by
   obtain ⟨h0,cg⟩:=(a8 s).1 hs;obtain ⟨_,h4⟩:=uv hc Y h0 cg;exact Zh.2 ⟨s.toNat,Zo.2 ω,by simp; omega⟩
  rwa [Y3,Y3,ZX] at this
 refine ⟨_,rfl,(NY aQ (rfl:aj Ty _ = .map _ _) h).mono ?_⟩;rintro _ e3 ⟨r,rfl,h⟩;refine ⟨_,rfl,λo n c' w'=>∃ ks:List Int,n = ks.length/\St w' (own 1 o n c' (iv ks) :: FW kk r (mV ps) ks :: aC (mO 2 tv ps) :: Ld kt ka (some ad) c asked ss.length m ss (aH k2 z3 :: [has H])),λ_ n _ _=>ps.length - n,⟨[],rfl,ay 1 h⟩,?_⟩;clear h;rintro _ cp _ c9 ei ⟨ks,rfl,h⟩;refine (P6 (h.pick 2 [1,0])).mono ?_;rintro _ e8 (⟨rfl,O,h⟩ | ⟨s,u,e7,rfl,W,h⟩)
 rotate_left
 ·rw [VG] at W;refine .inr ⟨s,u,rfl,(NZ h).mono ?_⟩;rintro _ dc ⟨rfl,cm⟩;rw [cm];refine ⟨s,u,rfl,ag (NW h) λe4 e0 h=>?_⟩;refine (aL (us:=iv ks) aQ (rfl:aj Ty _ = .slice _) (rfl:aj Ty _ = .slice _) rfl rfl rfl (h.pick 3 [0,2,1]) rfl (by simp [aG]) (by show (ks.length + 1) * 8<=_; omega) ω).mono ?_;rintro _ d9 ⟨dt,eg,rfl,h⟩;refine ⟨_,_,_,rfl,⟨ks ++ [s],σ,?_⟩,by dsimp only; omega⟩;have e:iv (ks ++ [s]) = iv ks ++ [.int .i64 s]:=by simp [iv]
  rw [e];exact h.pick 3 [0,2]
 rw [Te] at O;obtain ⟨S,hS⟩ : ∃ S,S = bL g K:=⟨_,rfl⟩;have Z:=Tc (ks:=ks) hc Y (O.nodup_iff.2 a6) λs=>by rw [O.mem_iff]; exact a8 s
 rw [<- hS] at Z;have ab:(S.map Int.ofNat).Perm (ps.map Prod.fst):=by rw [<- Z]; exact (List.mergeSort_perm ks _).trans O
 have cy:ks.length = S.length:=by rw [O.length_eq,<- ab.length_eq,Y3]
 have d7:S.length<=130:=by have:=ab.length_eq; rw [Y3,Y3] at this; omega
 refine .inl ⟨rfl,(MC (h.pick 2 [1,0]) ω).mono ?_⟩;rintro _ cB ⟨rfl,h⟩;rw [Z] at h;have h:=Qd (h.pick 3 [2,0,1]) (Qc a6 ab)
 refine ⟨rfl,λo n c' z w'=>∃ (t:Nat) (es:List aS) (ss' : List SQ) (o' : aa3) (a3 : Nat) (m' : List (ByteArray × Value)) (G : Int),z = t/\t<=S.length/\n = es.length/\Js g K ss' m' G i t es/\ss.length<=ss'.length /\
   St w' (own 2 o n c' (Kq es) :: own 1 cp ks.length c9 (iv (S.map Int.ofNat)) :: mapA kk (mV ps) :: aC (((S.map Int.ofNat).drop t).map λs=>bB 2 tv (DL s ps)) :: Ld kt ka o' a3 G ss'.length m' ss' (aH k2 z3 :: [has H])),λ_ _ _ z _=>S.length - z.toNat,
  ⟨0,[],ss,some ad,c,m,asked,rfl,Y4 _,rfl,hB.inner hK,Zc _,ay 2 (h.pick 3 [1,2,0])⟩,?_⟩
 clear h hq a1 b7;rintro _ a4 _ dk _ d1 ⟨t,es,ss',o',a3,m',G,rfl,ht,rfl,R,dF,h⟩;have cx:ss'.length<=256:=R.le
 have cu:es.length = t:=by
  rw [R.ed,ml,Zj,<- hS,aak ht]; simp
 refine ae (λh3=>?_) λh3=>?_
 ·have h3:t < S.length:=by have:=YR h3; omega
  obtain ⟨s,hs⟩ : ∃ s,S[t]? = some s:=⟨_,YU h3⟩;have aI:(S.map Int.ofNat)[t]? = some (s:Int):=by rw [YW,hs]; rfl
  obtain ⟨d6,bA,bP⟩:=cr (h.pick 2 [1]) (j:=t) (v:=.int .i64 (s:Int)) (by unfold iv; rw [YW,aI]; rfl);have b0:aO g K (s:Int)≠[]:=vh s (by rw [<- hS]; exact YV hs);have ch:(s:Int)∈ps.map Prod.fst:=(a8 s).2 ⟨ω,b0⟩;obtain ⟨Q,hQ⟩ : ∃ Q,dw (s:Int) ps = some Q:=aaE.1 (P8.2 ch);have ci:DL (s:Int) ps = Q:=by unfold DL; rw [hQ]; rfl
  have a9:Q.2 = aO g K (s:Int):=by rw [<- bG s ω]; unfold gZ; rw [hQ]
  have aa:(S.map Int.ofNat).drop t = (s:Int) :: (S.map Int.ofNat).drop (t + 1):=by
   rw [Zy (by rw [Y3]; exact h3)];congr 1;exact (YT.1 aI).2
  have W:=yY g K;have ba:(aO g K (s:Int)).length<=(cls g K).length:=vj g _ _;have d2:Q.2.length<=29300:=by rw [a9]; exact Zq ba (Zq W ω)
  refine aw bA ω ⟨_,bP,(cF (κ:=Int) aQ (rfl:aj Ty _ = .map _ _) bJ rfl rfl (h.pick 3 [2]) (s:Int)).mono ?_⟩;rintro _ d3 ⟨rfl,ck⟩;rw [ck];rw [aa,ZF,ci] at h;have h:=Td (h.pick 4 [3,0,1,2]);refine ⟨Q.1.1,Q.2.length,Q.1.2,by rw [g_,hQ]; rfl,(P5 h ω).mono ?_⟩;rintro _ dl ⟨V,rfl,h⟩;rw [a9,pH DA] at h ⊢
  have a5:∀ x∈aO g K (s:Int),jo x:=λx hx=>by
   refine Qb hP (DD Y (Zx _) x hx) ?_;obtain ⟨y,U,_,rfl⟩:=de.1 hx;have:=U.dot bb (Zx _)
   show y.dot + 1 < 65536
   omega
  have cv:=R.ask;refine ⟨_,_,_,rfl,(Jq (h.pick 10 [5,6,7,8,9,0,1,2,3,4]) R.key b0 a5 ⟨ω,ω⟩ ⟨ω,ω⟩ ω (by rw [<- a9]; omega)).mono ?_⟩;rintro _ e6 ⟨rfl,cb,cc,c7,ca,h⟩;have ef:=DM ss' V (aO g K (s:Int)).length (aO g K (s:Int));have bc:(ss'.length:Int) + (((fM ss' V (aO g K (s:Int)).length (aO g K (s:Int))).length - ss'.length:Nat):Int) = ((fM ss' V (aO g K (s:Int)).length (aO g K (s:Int))).length:Int):=ω
  rw [bc] at h;refine ⟨_,rfl,ag h λcD eb h=>?_⟩;refine (aL (us:=Kq es) aQ (rfl:aj Ty _ = .slice _) (rfl:aj Ty _ = .slice _) rfl rfl rfl (h.pick 8 [0,7,1,2,3,4,5,6]) rfl (by simp [aG]) (by show (es.length + 1) * 16<=_; omega) ω).mono ?_;rintro _ d8 ⟨e9,d4,rfl,h⟩
  refine ⟨_,_,_,rfl,_,_,_,(ah 2 h.l).cell0 (sub.refl _),ae (λh4=>?_) λh4=>?_⟩
  ·have h4:256 < (fM ss' V (aO g K (s:Int)).length (aO g K (s:Int))).length:=by have:=YR h4; omega
   refine aU (h.pick 12 [10,11]) rfl (by simp [aG]) λcC h=>⟨_,_,_,_,_,(ah 0 h.l).at (sub.refl _) rfl,.inr (.inl ⟨hc,⟨i,K,t + 1,hK,λj hj=>?_,?_⟩,rfl,sub.trans sw (aR 1 h.l)⟩)⟩
   ·by_cases e:j = i
    ·subst e; exact (YT.1 hK).1
    ·exact hB.lt j ω
   ·rw [hS] at hs;rw [Jb hs,<- R.ks];have:=dZ (fM ss' V (aO g K (s:Int)).length (aO g K (s:Int)));rw [Ct] at this
    show 256 < (rK _ _).length
    omega
  ·have h4:(fM ss' V (aO g K (s:Int)).length (aO g K (s:Int))).length<=256:=by have:=YS h4; omega
   refine ⟨⟨ω,ω⟩,⟨t + 1,es ++ [⟨(s:Int),(((bV ss').idxOf (aO g K (s:Int)):Nat):Int)⟩],_,cb,cc,c7,_,σ,h3,σ,R.next (by rw [<- hS]; exact hs) ω ca h4,ω,?_⟩,bn h3⟩;have e:Kq (es ++ [⟨(s:Int),(((bV ss').idxOf (aO g K (s:Int)):Nat):Int)⟩]) = Kq es ++ [.int .i64 (s:Int),.int .i64 (((bV ss').idxOf (aO g K (s:Int)):Nat):Int)]:=by unfold Kq; rw [ZB]; rfl
   rw [e];exact h.pick 10 [0,8,9,7,2,3,4,5,6]
 ·have h3:t = S.length:=by have:=YS h3; omega
  intro b3 hd;have h:=h.eq (aE hd);obtain ⟨q',a0⟩ : ∃ q',ss'[i]? = some q':=⟨_,YU ω⟩;have rt:au (hp b3) (aM kt) [.slice o' ss'.length a3,.int .i64 G,.int .i64 (ss'.length:Int),.map (some ka)]:=ah 4 h.l;obtain ⟨c8,rfl,_⟩:=Af (dJ 5 h.l) a0;refine ⟨λu=>Gr b3 u,Gr.refl _,_,_,_,λu s=>rt.cell0 s,iC (fL (dI h) ⟨_,_,_,rfl,Gr.refl _,aq rfl ω ?_⟩)⟩;have h:=fK h;rw [add_add,aN];refine nF (h.pick 6 [5,0,4]) rfl (by rw [Hl]; omega) λd0 h=>?_;rw [h3] at R;have cz:(fT a4 0 es.length 2,es.length,es).2.2 = es:=rfl;have e1:=MJ a0 ((fT a4 0 es.length 2,es.length),es);have e2:=Ah a0 ((fT a4 0 es.length 2,es.length),es);have h:=(St.PT (n:=i) (h.pick 6 [1,5,0,2,3,4]) (by unfold x_; rw [Y3]; omega)).pick 5 [2,1,3,4,0];refine ⟨⟨ω,ω⟩,⟨i + 1,ss'.set i (q'.1,((fT a4 0 es.length 2,es.length),es)),some c8,a3,m',G,σ,by rw [Zn]; omega,(by rw [<- hS]; exact R:Js g K ss' m' G i (bL g K).length es).done hB.lt hK X ω a0 _ rfl,?_⟩,by dsimp only; omega⟩;unfold Ld;rw [Zn,e2.2.1,e2.2.2.2,<- e1];exact h
abbrev kB:FuncId:=43
def qF:bm:={ rngs:=[],loops:=[(7,[(6,(.one (.int .i64)))]),(11,[(8,(.one (.int .i64)))])],joins:=[],blocks:=[] }
section
variable {a b c d e f:aa3} {i j k l m n o p q r s t:Nat} {A B C D:Int} {w:aa4} {R:Value->WP}
theorem qG (h:new w (ψ a i j b k l c m n A d o p) λa b=>new b (oC [vS none 0 0,iI 0,iI 0] 45) λb c=>χ c (aM a) λd=>rE 39 [d] c λc d=>∃ e,c = vB e/\br (!e) (da d (aM b) [vS none 0 0,iI 0,iI 0] λa=>∃ c d e f g,rA a (aM b) 3 [vS c d e,iI f,iI g]/\R (vU [vG [vS c d e,iI f,iI g],iI 1]) a) (new d (oC [vS none 0 0,iI 0,iI 0] 45) λc d=>da d (aM c) [vS none 0 0,iI 1,iI 1] λd=>∃ e f g,cL d (aM c) (vS e f g)/\new d (oC [iI 0,iI 0] 104) λd h=>new h (oC [vS (some (aM d)) 1 1,vS none 0 0] 54) λd h=>rS (fe 43 (Array.mk [vS e f g,vS (some (aM d)) 1 1])) h λd e=>∃ f g h,d = vS f g h/\st1 e (aM c) (vS f g h) λd=>τ [(6,aB)] λe f=>e 0 d/\∀ (_:ν) d g,e d g->∃ h i j,cL g (aM c) (vS h i j)/\br (decide (d < (i:Int))) (∀ h,drawn g h->∃ (i:WP),i h/\∃ j k l m n o p q r s t u v,(∀ b,i b->rA b (aM a) 5 [vS j k l,vS m n o,vS p q r,iI s,vS t u v])/\∃ w x y,(∀ a,i a->cL a (aM c) (vS w x y))/\idx w x d 2 λw=>∃ x y z,(∀ a,i a->cL a w (vS x y z))/\rE 76 [vG [vS j k l,vS m n o,vS p q r,iI s,vS t u v],vS x y z] h λh j=>∃ k l m,h = vS k l m/\i j/\τ [(8,aB)] λh i=>h 1 j/\∀ (_:ν) j n,h j n->χ n (aM a) λo=>rE 72 [o] n λo p=>∃ q,o = iI q/\br (decide (j < q)) (χ p (aM a) λa=>rE 77 [a,iI j,vS k l m] p λa e=>∃ f g k,a = vS f g k/\br ((g:Int) == 0) (ax (j + 1)/\h (j + 1) e/\i (j + 1) e < i j n) (∃ a,cL e (Addr.add (aM c) 1) (iI a)/\ax (a + 1)/\st1 e (Addr.add (aM c) 1) (iI (a + 1)) λa=>∃ e l m,cL a (aM c) (vS e l m)/\rE 78 [vS e l m,vS f g k] a λa e=>∃ l,a = iI l/\br (decide (l < 0)) (∃ a l m,cL e (aM c) (vS a l m)/\br (decide (256<=(l:Int))) (da e (aM b) [vS none 0 0,iI 0,iI 0] λa=>∃ c d e f g,rA a (aM b) 3 [vS c d e,iI f,iI g]/\R (vU [vG [vS c d e,iI f,iI g],iI 11]) a) (∃ a,cL e (Addr.add (aM c) 2) (iI a)/\ax (a + 1)/\st1 e (Addr.add (aM c) 2) (iI (a + 1)) λa=>∃ b e m,cL a (aM c) (vS b e m)/\new a (oC [vS f g k,vS none 0 0] 54) λa f=>rS (fe 43 (Array.mk [vS b e m,vS (some (aM a)) 1 1])) f λa b=>∃ e f g,a = vS e f g/\st1 b (aM c) (vS e f g) λa=>∀ b,drawn a b->∃ (a:WP),a b/\∃ e f g,(∀ b,a b->cL b (aM c) (vS e f g))/\∃ g k m,(∀ b,a b->cL b (aM c) (vS g k m))/\idx g k d 2 λc=>∃ g k m,(∀ b,a b->cL b (Addr.add c 1) (vS g k m))/\new b (oC [iI j,iI (l:Int)] 56) λb c=>a c/\rS (fe 52 (Array.mk [vS g k m,vS (some (aM b)) 1 1])) c λb c=>∃ g k l,b = vS g k l/\a c/\idx e f d 2 λa=>st1 c (Addr.add a 1) (vS g k l) λa=>ax (j + 1)/\h (j + 1) a/\i (j + 1) a < i j n)) (∀ a,drawn e a->∃ (b:WP),b a/\∃ e f g,(∀ a,b a->cL a (aM c) (vS e f g))/\∃ g k m,(∀ a,b a->cL a (aM c) (vS g k m))/\idx g k d 2 λc=>∃ g k m,(∀ a,b a->cL a (Addr.add c 1) (vS g k m))/\new a (oC [iI j,iI l] 56) λa c=>b c/\rS (fe 52 (Array.mk [vS g k m,vS (some (aM a)) 1 1])) c λa c=>∃ g k l,a = vS g k l/\b c/\idx e f d 2 λa=>st1 c (Addr.add a 1) (vS g k l) λa=>ax (j + 1)/\h (j + 1) a/\i (j + 1) a < i j n))) (ax (d + 1)/\e (d + 1) p/\f (d + 1) p < f d g)) (∃ a d e f h,rA g (aM c) 3 [vS a d e,iI f,iI h]/\da g (aM b) [vS a d e,iI f,iI h] λa=>∃ c d e f g,rA a (aM b) 3 [vS c d e,iI f,iI g]/\R (vU [vG [vS c d e,iI f,iI g],iI 0]) a))):ρ 43 [φ a i j b k l c m n A d o p] w R:=rv Tryz.func43 qF (by kernel_rfl) h
abbrev vH:FuncId:=73
def sE:bm:={ rngs:=[],loops:=[(3,[(8,(.one (.int .i64)))])],joins:=[],blocks:=[] }
theorem sF (h:new w (oC [vS a i j,iI A,iI B] 45) λa b=>∃ c d e,cL b (aM a) (vS c d e)/\idx c d C 2 λa=>∃ c d e,cL b (Addr.add a 1) (vS c d e)/\τ [(8,aB)] λa e=>a 0 b/\∀ (_:ν) b f,a b f->br (decide (b < (d:Int))) (idx c d b 2 λg=>∃ h,cL f g (iI h)/\br (h == D) (idx c d b 2 λa=>∃ b,cL f (Addr.add a 1) (iI b)/\R (iI b) f) (ax (b + 1)/\a (b + 1) f/\e (b + 1) f < e b f)) (R (iI (-1)) f)):ρ 73 [(.agg #[(.slice a i j),(.int .i64 A),(.int .i64 B)]),(.int .i64 C),(.int .i64 D)] w R:=rv Tryz.func73 sE (by kernel_rfl) h
abbrev sG:FuncId:=76
def pK:bm:={ rngs:=[],loops:=[(4,[(5,(.one .slice)),(7,(.one (.int .i64)))]),(10,[(5,(.one .slice)),(9,(.one (.int .i64)))])],joins:=[],blocks:=[] }
theorem pM (h:new w (ψ a i j b k l c m n A d o p) λa b=>rE 129 [vS e q r] b λb c=>∃ d e f,b = vS d e f/\χ c (aM a) λb=>rE 72 [b] c λb c=>∃ g,b = iI g/\tE g g 1/\new c (Obj.cells (Array.mk (ir (Int.toNat g) [vB false])) 4) λb c=>τ [(5,fD),(7,aB)] λh i=>h d e f 0 c/\∀ (_:ν) c d e f j,h c d e f j->br (decide (f < (d:Int))) (∀ k,drawn j k->∃ (l:WP),l k/\∃ m n o p q r s t u v w x y,(∀ b,l b->rA b (aM a) 5 [vS m n o,vS p q r,vS s t u,iI v,vS w x y])/\idx c d f 2 λz=>∃ a0 a1,(∀ a,l a->rA a z 2 [iI a0,iI a1])/\rE 83 [vG [vS m n o,vS p q r,vS s t u,iI v,vS w x y],vG [iI a0,iI a1]] k λk m=>∃ n,k = iI n/\l m/\∃ k l o,cL m (aM a) (vS k l o)/\br (decide (n < (l:Int))) (ax (f + 1)/\h c d e (f + 1) m/\i c d e (f + 1) m < i c d e f j) (idx (some (aM b)) (Int.toNat g) n 1 λk=>∃ l,cL m k (vB l)/\br l (ax (f + 1)/\h c d e (f + 1) m/\i c d e (f + 1) m < i c d e f j) (idx (some (aM b)) (Int.toNat g) n 1 λb=>st1 m b (vB true) λb=>τ [(5,fD),(9,aB)] λg k=>g c d e 0 b/\∀ (_:ν) b l m o p,g b l m o p->∃ q r s,cL p (Addr.add (aM a) 4) (vS q r s)/\br (decide (o < (r:Int))) (new p (oC [iI 0,iI 0] 104) λc d=>da d (aM c) [iI o,iI 0] λd=>∃ e f h,cL d (Addr.add (aM a) 4) (vS e f h)/\idx e f o 3 λa=>∃ e,cL d a (iI e)/\br (e != n) (ax (o + 1)/\g b l m (o + 1) d/\k b l m (o + 1) d < k b l m o p) (∃ a e,rA d (aM c) 2 [iI a,iI e]/\rE 130 [vS b l m,vG [iI a,iI e]] d λa d=>∃ e,a = vB e/\br (!e) (∃ a e,rA d (aM c) 2 [iI a,iI e]/\new d (oC [iI a,iI e] 104) λa c=>rS (fe 51 (Array.mk [vS b l m,vS (some (aM a)) 1 1])) c λa c=>∃ d e f,a = vS d e f/\ax (o + 1)/\g d e f (o + 1) c/\k d e f (o + 1) c < k b l m o p) (ax (o + 1)/\g b l m (o + 1) d/\k b l m (o + 1) d < k b l m o p))) (ax (f + 1)/\h b l m (f + 1) p/\i b l m (f + 1) p < i c d e f j)))) (rE 129 [vS c d e] j λa b=>∃ c d e,a = vS c d e/\R (vS c d e) b)):ρ 76 [φ a i j b k l c m n A d o p,(.slice e q r)] w R:=rv Tryz.func76 pK (by kernel_rfl) h
abbrev vJ:FuncId:=77
def sI:bm:={ rngs:=[],loops:=[(3,[(7,(.one .slice)),(8,(.one (.int .i64)))])],joins:=[],blocks:=[] }
theorem sJ (h:new w (ψ a i j b k l c m n A d o p) λa b=>τ [(7,fD),(8,aB)] λc d=>c none 0 0 0 b/\∀ (_:ν) b f g h i,c b f g h i->br (decide (h < (q:Int))) (∀ j,drawn i j->∃ (k:WP),k j/\∃ l m n o p r s t u v w x y,(∀ b,k b->rA b (aM a) 5 [vS l m n,vS o p r,vS s t u,iI v,vS w x y])/\idx e q h 2 λa=>∃ z a0,(∀ b,k b->rA b a 2 [iI z,iI a0])/\rE 83 [vG [vS l m n,vS o p r,vS s t u,iI v,vS w x y],vG [iI z,iI a0]] j λa j=>∃ l,a = iI l/\k j/\br (l == B) (∀ a,drawn j a->∃ (j:WP),j a/\idx e q h 2 λk=>∃ l,(∀ a,j a->cL a k (iI l))/\idx e q h 2 λe=>∃ k,(∀ a,j a->cL a (Addr.add e 1) (iI k))/\ax (k + 1)/\new a (oC [iI l,iI (k + 1)] 104) λa e=>j e/\rS (fe 51 (Array.mk [vS b f g,vS (some (aM a)) 1 1])) e λa e=>∃ k l m,a = vS k l m/\j e/\ax (h + 1)/\c k l m (h + 1) e/\d k l m (h + 1) e < d b f g h i) (ax (h + 1)/\c b f g (h + 1) j/\d b f g (h + 1) j < d b f g h i)) (rE 129 [vS b f g] i λa b=>∃ c d e,a = vS c d e/\R (vS c d e) b)):ρ 77 [φ a i j b k l c m n A d o p,(.int .i64 B),(.slice e q r)] w R:=rv Tryz.func77 sI (by kernel_rfl) h
abbrev uw:FuncId:=78
def qH:bm:={ rngs:=[],loops:=[(2,[(5,(.one (.int .i64)))])],joins:=[],blocks:=[] }
theorem qI (h:τ [(5,aB)] λc d=>c 0 w/\∀ (_:ν) e f,c e f->br (decide (e < (i:Int))) (idx a i e 2 λa=>∃ g h i,cL f a (vS g h i)/\rE 131 [vS g h i,vS b k l] f λa b=>∃ g,a = vB g/\br g (R (iI e) b) (ax (e + 1)/\c (e + 1) b/\d (e + 1) b < d e f)) (R (iI (-1)) f)):ρ 78 [(.slice a i j),(.slice b k l)] w R:=rv Tryz.func78 qH (by kernel_rfl) h
abbrev ux:FuncId:=80
def qJ:bm:={ rngs:=[],loops:=[(3,[(4,(.one (.int .i64)))]),(10,[(6,(.one .bool))]),(13,[(6,(.one .bool)),(7,(.one (.int .i64)))])],joins:=[],blocks:=[] }
theorem qK (h:new w (ψ a i j b k l c m n A d o p) λa b=>∀ c,drawn b c->∃ (b:WP),b c/\∃ d e f g h i j k l m n o p,(∀ c,b c->rA c (aM a) 5 [vS d e f,vS g h i,vS j k l,iI m,vS n o p])/\∃ q r s t u v w x y z a0 a1 a2,(∀ c,b c->rA c (aM a) 5 [vS q r s,vS t u v,vS w x y,iI z,vS a0 a1 a2])/\rE 132 [vG [vS q r s,vS t u v,vS w x y,iI z,vS a0 a1 a2]] c λc q=>∃ r s t,c = vS r s t/\b q/\new q (oC [vS d e f,vS g h i,vS j k l,iI m,vS n o p,vS r s t,vS none 0 0] 220) λc d=>b d/\τ [(4,aB)] λb e=>b 0 d/\∀ (_:ν) d f,b d f->χ f (aM a) λg=>rE 72 [g] f λg h=>∃ i,g = iI i/\br (decide (d < i)) (∃ g i j,cL h (aM a) (vS g i j)/\tE (i:Int) (i:Int) 1/\new h (Obj.cells (Array.mk (ir (Int.toNat (i:Int)) [vB false])) 4) λg h=>∃ j k l,cL h (aM a) (vS j k l)/\br (decide (d < (k:Int))) (idx (some (aM g)) (Int.toNat (i:Int)) d 1 λa=>st1 h a (vB true) λa=>∃ h j k,cL a (Addr.add (aM c) 6) (vS h j k)/\new a (oC [vS (some (aM g)) (Int.toNat (i:Int)) (Int.toNat (i:Int))] 149) λa g=>rS (fe 148 (Array.mk [vS h j k,vS (some (aM a)) 1 1])) g λa g=>∃ h i j,a = vS h i j/\st1 g (Addr.add (aM c) 6) (vS h i j) λa=>ax (d + 1)/\b (d + 1) a/\e (d + 1) a < e d f) (∃ a j k,cL h (Addr.add (aM c) 6) (vS a j k)/\new h (oC [vS (some (aM g)) (Int.toNat (i:Int)) (Int.toNat (i:Int))] 149) λg h=>rS (fe 148 (Array.mk [vS a j k,vS (some (aM g)) 1 1])) h λa g=>∃ h i j,a = vS h i j/\st1 g (Addr.add (aM c) 6) (vS h i j) λa=>ax (d + 1)/\b (d + 1) a/\e (d + 1) a < e d f)) (τ [(6,jD)] λb d=>b true h/\∀ (_:ν) e f,b e f->br e (τ [(6,jD),(7,aB)] λg h=>g false 0 f/\∀ (_:ν) i j k,g i j k->∃ l m n,cL k (Addr.add (aM a) 4) (vS l m n)/\br (decide (j < (m:Int))) (∀ b,drawn k b->∃ (d:WP),d b/\∃ e f l,(∀ b,d b->cL b (Addr.add (aM a) 4) (vS e f l))/\idx e f j 3 λe=>∃ f l m,(∀ a,d a->cL a (Addr.add e 1) (vS f l m))/\∃ e n o,(∀ a,d a->cL a (Addr.add (aM c) 6) (vS e n o))/\∃ o p q,(∀ b,d b->cL b (Addr.add (aM a) 4) (vS o p q))/\idx o p j 3 λa=>∃ o,(∀ b,d b->cL b a (iI o))/\idx e n o 1 λa=>∃ e n o,(∀ b,d b->cL b a (vS e n o))/\rE 133 [vP (some (aM c)),vS f l m,vS e n o] b λa b=>∃ c,a = vB c/\d b/\br i (ax (j + 1)/\g true (j + 1) b/\h true (j + 1) b < h i j k) (ax (j + 1)/\g c (j + 1) b/\h c (j + 1) b < h i j k)) (b i k/\d i k < d e f)) (R (vP (some (aM c))) f))):ρ 80 [φ a i j b k l c m n A d o p] w R:=rv Tryz.func80 qJ (by kernel_rfl) h
abbrev uy:FuncId:=83
def qL:bm:={ rngs:=[],loops:=[],joins:=[],blocks:=[] }
theorem qM (h:new w (ψ a i j b k l c m n A d o p) λa b=>new b (oC [iI B,iI C] 104) λb c=>∃ d e f,cL c (Addr.add (aM a) 4) (vS d e f)/\∃ a,cL c (aM b) (iI a)/\idx d e a 3 λa=>∃ d e f,cL c (Addr.add a 1) (vS d e f)/\∃ a,cL c (Addr.add (aM b) 1) (iI a)/\br (a == (e:Int)) (R (iI (-1)) c) (∃ a,cL c (Addr.add (aM b) 1) (iI a)/\idx d e a 1 λa=>∃ b,cL c a (iI b)/\R (iI b) c)):ρ 83 [φ a i j b k l c m n A d o p,(.agg #[(.int .i64 B),(.int .i64 C)])] w R:=rv Tryz.func83 qL (by kernel_rfl) h
abbrev vK:FuncId:=84
def sK:bm:={ rngs:=[],loops:=[(3,[(3,(.one .slice)),(4,(.one (.int .i64)))])],joins:=[],blocks:=[] }
theorem sM (h:τ [(3,fD),(4,aB)] λb c=>b none 0 0 0 w/\∀ (_:ν) d e f g h,b d e f g h->br (decide (g < (i:Int))) (idx a i g 1 λa=>∃ i,cL h a (vB i)/\br i (new h (oC [iI g] 3) λa i=>rS (fe 24 (Array.mk [vS d e f,vS (some (aM a)) 1 1])) i λa i=>∃ j k l,a = vS j k l/\ax (g + 1)/\b j k l (g + 1) i/\c j k l (g + 1) i < c d e f g h) (ax (g + 1)/\b d e f (g + 1) h/\c d e f (g + 1) h < c d e f g h)) (R (vS d e f) h)):ρ 84 [(.slice a i j)] w R:=rv Tryz.func84 sK (by kernel_rfl) h
abbrev vL:FuncId:=129
def sO:bm:={ rngs:=[],loops:=[(3,[(3,(.one .slice)),(4,(.one (.int .i64)))]),(6,[(5,(.one (.int .i64)))])],joins:=[(8,[(5,(.one (.int .i64)))])],blocks:=[] }
theorem sQ (h:τ [(3,fD),(4,aB)] λb c=>b none 0 0 0 w/\∀ (_:ν) d e f g h,b d e f g h->br (decide (g < (i:Int))) (∃ (j:lP [(5,aB)]),(τ [(5,aB)] λb c=>b 0 h/\∀ (_:ν) f h,b f h->∀ k,drawn h k->∃ (l:WP),l k/\br (decide (f < (e:Int))) (idx d e f 2 λm=>∃ n,(∀ a,l a->cL a m (iI n))/\idx a i g 2 λm=>∃ o,(∀ a,l a->cL a m (iI o))/\br (decide (n < o)) (ax (f + 1)/\b (f + 1) k/\c (f + 1) k < c f h) (idx d e f 2 λm=>∃ n,(∀ a,l a->cL a m (iI n))/\idx a i g 2 λm=>∃ o,(∀ a,l a->cL a m (iI o))/\br (n == o) (idx d e f 2 λd=>∃ e,(∀ a,l a->cL a (Addr.add d 1) (iI e))/\idx a i g 2 λa=>∃ d,(∀ b,l b->cL b (Addr.add a 1) (iI d))/\br (decide (e < d)) (ax (f + 1)/\b (f + 1) k/\c (f + 1) k < c f h) (j f k)) (j f k))) (j f k))/\∀ (_:ν) k l,j k l->∀ j,drawn l j->∃ (l:WP),l j/\br (decide (k < (e:Int))) (idx d e k 2 λm=>∃ n o,(∀ a,l a->rA a m 2 [iI n,iI o])/\idx a i g 2 λm=>∃ p q,(∀ a,l a->rA a m 2 [iI p,iI q])/\∃ m,(∀ a,l a->Sem.run Proofs.Tryz.prog (je BinOp.eql 104 (Operand.tmp 66) (Operand.tmp 70) (vG [iI n,iI o]) (vG [iI p,iI q])) a = Result.ok m a)/\∃ l,m = vB l/\br l (ax (g + 1)/\b d e f (g + 1) j/\c d e f (g + 1) j < c d e f g h) (lR d e f none (some k) none 2 λ(l:aa3) (m n:Nat)=>rS (fe 51 (Array.mk [vS none 0 0,vS l m n])) j λj l=>∃ m n o,j = vS m n o/\idx a i g 2 λa=>∃ i j,rA l a 2 [iI i,iI j]/\new l (oC [iI i,iI j] 104) λa i=>rS (fe 51 (Array.mk [vS m n o,vS (some (aM a)) 1 1])) i λa i=>∃ j l m,a = vS j l m/\lR d e f (some k) none none 2 λ(a:aa3) (k n:Nat)=>rS (fe 51 (Array.mk [vS j l m,vS a k n])) i λa i=>∃ j k l,a = vS j k l/\ax (g + 1)/\b j k l (g + 1) i/\c j k l (g + 1) i < c d e f g h)) (lR d e f none (some k) none 2 λ(l:aa3) (m n:Nat)=>rS (fe 51 (Array.mk [vS none 0 0,vS l m n])) j λj l=>∃ m n o,j = vS m n o/\idx a i g 2 λa=>∃ i j,rA l a 2 [iI i,iI j]/\new l (oC [iI i,iI j] 104) λa i=>rS (fe 51 (Array.mk [vS m n o,vS (some (aM a)) 1 1])) i λa i=>∃ j l m,a = vS j l m/\lR d e f (some k) none none 2 λ(a:aa3) (k n:Nat)=>rS (fe 51 (Array.mk [vS j l m,vS a k n])) i λa i=>∃ j k l,a = vS j k l/\ax (g + 1)/\b j k l (g + 1) i/\c j k l (g + 1) i < c d e f g h)) (R (vS d e f) h)):ρ 129 [(.slice a i j)] w R:=rv Tryz.func129 sO (by kernel_rfl) h
abbrev xt:FuncId:=130
def uz:bm:={ rngs:=[],loops:=[(2,[(5,(.one (.int .i64)))])],joins:=[],blocks:=[] }
theorem uA (h:new w (oC [iI A,iI B] 104) λb c=>τ [(5,aB)] λd e=>d 0 c/\∀ (_:ν) c f,d c f->br (decide (c < (i:Int))) (∀ g,drawn f g->∃ (h:WP),h g/\idx a i c 2 λa=>∃ i j,(∀ b,h b->rA b a 2 [iI i,iI j])/\∃ a k,(∀ c,h c->rA c (aM b) 2 [iI a,iI k])/\∃ b,(∀ c,h c->Sem.run Proofs.Tryz.prog (je BinOp.eql 104 (Operand.tmp 15) (Operand.tmp 16) (vG [iI i,iI j]) (vG [iI a,iI k])) c = Result.ok b c)/\∃ a,b = vB a/\br a (R (vB true) g) (ax (c + 1)/\d (c + 1) g/\e (c + 1) g < e c f)) (R (vB false) f)):ρ 130 [(.slice a i j),(.agg #[(.int .i64 A),(.int .i64 B)])] w R:=rv Tryz.func130 uz (by kernel_rfl) h
abbrev oq:FuncId:=131
def mn:bm:={ rngs:=[],loops:=[(4,[(5,(.one (.int .i64)))])],joins:=[],blocks:=[] }
theorem mo (h:br ((i:Int) != (k:Int)) (R (vB false) w) (τ [(5,aB)] λc d=>c 0 w/\∀ (_:ν) e f,c e f->br (decide (e < (i:Int))) (∀ g,drawn f g->∃ (h:WP),h g/\idx a i e 2 λa=>∃ i j,(∀ b,h b->rA b a 2 [iI i,iI j])/\idx b k e 2 λa=>∃ b k,(∀ c,h c->rA c a 2 [iI b,iI k])/\∃ a,(∀ c,h c->Sem.run Proofs.Tryz.prog (je BinOp.neq 104 (Operand.tmp 20) (Operand.tmp 24) (vG [iI i,iI j]) (vG [iI b,iI k])) c = Result.ok a c)/\∃ b,a = vB b/\br b (R (vB false) g) (ax (e + 1)/\c (e + 1) g/\d (e + 1) g < d e f)) (R (vB true) f))):ρ 131 [(.slice a i j),(.slice b k l)] w R:=rv Tryz.func131 mn (by kernel_rfl) h
abbrev vM:FuncId:=132
def sR:bm:={ rngs:=[],loops:=[(3,[(4,(.one .bool))]),(6,[(4,(.one .bool)),(5,(.one (.int .i64)))])],joins:=[],blocks:=[] }
theorem sU (h:new w (ψ a i j b k l c m n A d o p) λa b=>∃ c d e,cL b (Addr.add (aM a) 1) (vS c d e)/\tE (d:Int) (d:Int) 1/\new b (Obj.cells (Array.mk (ir (Int.toNat (d:Int)) [vB false])) 4) λb c=>τ [(4,jD)] λe f=>e true c/\∀ (_:ν) c g,e c g->br c (τ [(4,jD),(5,aB)] λh i=>h false 0 g/\∀ (_:ν) j k l,h j k l->∃ m n o,cL l (Addr.add (aM a) 4) (vS m n o)/\br (decide (k < (n:Int))) (∀ c,drawn l c->∃ (e:WP),e c/\∃ f g m,(∀ b,e b->cL b (Addr.add (aM a) 4) (vS f g m))/\idx f g k 3 λf=>∃ g,(∀ a,e a->cL a f (iI g))/\∃ f m n,(∀ b,e b->cL b (aM a) (vS f m n))/\ax (g - (m:Int))/\idx (some (aM b)) (Int.toNat (d:Int)) (g - (m:Int)) 1 λe=>∃ f,cL c e (vB f)/\br f (ax (k + 1)/\h j (k + 1) c/\i j (k + 1) c < i j k l) (∀ e,drawn c e->∃ (c:WP),c e/\∃ f n o p q r s t u v w x y,(∀ b,c b->rA b (aM a) 5 [vS f n o,vS p q r,vS s t u,iI v,vS w x y])/\∃ z a0 a1,(∀ b,c b->cL b (Addr.add (aM a) 4) (vS z a0 a1))/\idx z a0 k 3 λa=>∃ z a0 a1,(∀ b,c b->cL b (Addr.add a 1) (vS z a0 a1))/\rE 180 [vG [vS f n o,vS p q r,vS s t u,iI v,vS w x y],vS (some (aM b)) (Int.toNat (d:Int)) (Int.toNat (d:Int)),vS z a0 a1] e λa c=>∃ e,a = vB e/\br e (idx (some (aM b)) (Int.toNat (d:Int)) (g - (m:Int)) 1 λa=>st1 c a (vB true) λa=>ax (k + 1)/\h true (k + 1) a/\i true (k + 1) a < i j k l) (ax (k + 1)/\h j (k + 1) c/\i j (k + 1) c < i j k l))) (e j l/\f j l < f c g)) (R (vS (some (aM b)) (Int.toNat (d:Int)) (Int.toNat (d:Int))) g)):ρ 132 [φ a i j b k l c m n A d o p] w R:=rv Tryz.func132 sR (by kernel_rfl) h
abbrev ot:FuncId:=133
def mq:bm:={ rngs:=[],loops:=[(3,[(7,(.one .bool)),(8,(.one (.int .i64)))]),(7,[(7,(.one .bool)),(10,(.one (.int .i64)))])],joins:=[],blocks:=[] }
theorem mr (h:τ [(7,jD),(8,aB)] λd e=>d false 0 w/\∀ (_:ν) f g h,d f g h->br (decide (g < (i:Int))) (∀ j,drawn h j->∃ (l:WP),l j/\nn a λm=>∃ n o p,(∀ a,l a->cL a (Addr.add m 6) (vS n o p))/\idx b i g 1 λm=>∃ p,(∀ a,l a->cL a m (iI p))/\idx n o p 1 λm=>∃ n o p,(∀ a,l a->cL a m (vS n o p))/\τ [(7,jD),(10,aB)] λl m=>l f 0 j/\∀ (_:ν) j p q,l j p q->br (decide (p < (o:Int))) (idx n o p 1 λa=>∃ b,cL q a (vB b)/\br b (idx c k p 1 λa=>∃ b,cL q a (vB b)/\br (!b) (idx c k p 1 λa=>st1 q a (vB true) λa=>ax (p + 1)/\l true (p + 1) a/\m true (p + 1) a < m j p q) (ax (p + 1)/\l j (p + 1) q/\m j (p + 1) q < m j p q)) (ax (p + 1)/\l j (p + 1) q/\m j (p + 1) q < m j p q)) (∀ c,drawn q c->∃ (k:WP),k c/\idx b i g 1 λl=>∃ m,(∀ a,k a->cL a l (iI m))/\nn a λl=>∃ n o p,(∀ a,k a->cL a l (vS n o p))/\br (decide (m < (o:Int))) (R (vB j) c) (nn a λl=>∃ m n o,(∀ a,k a->cL a (Addr.add l 5) (vS m n o))/\idx b i g 1 λb=>∃ i,(∀ a,k a->cL a b (iI i))/\nn a λa=>∃ b l o,(∀ c,k c->cL c a (vS b l o))/\ax (i - (l:Int))/\idx m n (i - (l:Int)) 1 λa=>∃ b,(∀ c,k c->cL c a (vB b))/\br (!b) (R (vB j) c) (ax (g + 1)/\d j (g + 1) c/\e j (g + 1) c < e f g h)))) (R (vB f) h)):ρ 133 [(.pointer a),(.slice b i j),(.slice c k l)] w R:=rv Tryz.func133 mq (by kernel_rfl) h
abbrev pO:FuncId:=135
def ng:bm:={ rngs:=[],loops:=[],joins:=[],blocks:=[] }
theorem nh (h:nn a λc=>∃ d e f,cL w c (vS d e f)/\tE (e:Int) (e:Int) 1/\new w (Obj.cells (Array.mk (ir (Int.toNat (e:Int)) [vB false])) 4) λc d=>rE 133 [vP a,vS b i j,vS (some (aM c)) (Int.toNat (e:Int)) (Int.toNat (e:Int))] d λd f=>∃ g,d = vB g/\∀ d,drawn f d->∃ (f:WP),f d/\nn a λg=>∃ h k l m n o p q r s t u v,(∀ a,f a->rA a g 5 [vS h k l,vS m n o,vS p q r,iI s,vS t u v])/\nn a λa=>∃ g w x,(∀ b,f b->cL b (Addr.add a 5) (vS g w x))/\rE 180 [vG [vS h k l,vS m n o,vS p q r,iI s,vS t u v],vS g w x,vS b i j] d λa b=>∃ d,a = vB d/\f b/\R (vU [vS (some (aM c)) (Int.toNat (e:Int)) (Int.toNat (e:Int)),vB d]) b):ρ 135 [(.pointer a),(.slice b i j)] w R:=rv Tryz.func135 ng (by kernel_rfl) h
abbrev pP:FuncId:=180
def ni:bm:={ rngs:=[],loops:=[(2,[(7,(.one (.int .i64)))])],joins:=[],blocks:=[] }
theorem nj (h:new w (ψ a i j b k l c m n A d o p) λa b=>τ [(7,aB)] λc d=>c 0 b/\∀ (_:ν) b g,c b g->br (decide (b < (s:Int))) (∀ h,drawn g h->∃ (i:WP),i h/\idx f s b 1 λj=>∃ k,(∀ a,i a->cL a j (iI k))/\∃ j l m,(∀ b,i b->cL b (aM a) (vS j l m))/\br (decide (k < (l:Int))) (R (vB false) h) (idx f s b 1 λf=>∃ j,(∀ a,i a->cL a f (iI j))/\∃ f k l,(∀ b,i b->cL b (aM a) (vS f k l))/\ax (j - (k:Int))/\idx e q (j - (k:Int)) 1 λa=>∃ e,(∀ b,i b->cL b a (vB e))/\br (!e) (R (vB false) h) (ax (b + 1)/\c (b + 1) h/\d (b + 1) h < d b g))) (R (vB true) g)):ρ 180 [φ a i j b k l c m n A d o p,(.slice e q r),(.slice f s t)] w R:=rv Tryz.func180 ni (by kernel_rfl) h
end
end
theorem VH {x:ai} {out:List ai} {n:Nat} (hs:jb out) (h1:∀ (j:Nat) y,j < n->out[j]? = some y->y.lt x) (h2:∀ y,out[n]? = some y->x.lt y):ue x out = out.take n ++ x :: out.drop n:=by
 refine (yS hs).one ?_ λy=>?_
 ·have G:jb (out.take n ++ out.drop n):=by rwa [Zk]
  unfold jb at G ⊢;rw [aaZ] at G ⊢;obtain ⟨X,W,Z⟩:=G
  have Y:∀ y∈out.drop n,x.lt y:=λy u=>by
   cases hc:out[n]? with
   | none=>rw [List.drop_eq_nil_of_le (List.getElem?_eq_none_iff.1 hc)] at u; simp at u
   | some z =>
    have O:=h2 z hc;obtain ⟨V,rfl⟩:=YT.1 hc;rw [Zy V] at u W
    rcases Ze.1 u with rfl | u
    ·exact O
    ·exact ai.lt_trans O ((ZU.1 W).1 y u)
  have ht:∀ y∈out.take n,y.lt x:=λy u=>by
   obtain ⟨j,U⟩:=Zr u;have R:j < n:=by have:=(YT.1 U).1; rw [Zj] at this; omega
   rw [ZT,Y5 R] at U;exact h1 j y R U
  refine ⟨X,ZU.2 ⟨Y,W⟩,λy u z O=>?_⟩
  rcases Ze.1 O with rfl | O
  ·exact ht y u
  ·exact Z y u z O
 ·rw [uf,YY,Ze];have:y∈out↔y∈out.take n\/y∈out.drop n:=by rw [<- YY,Zk]
  rw [this]
  constructor
  ·rintro (h | h | h)
   ·exact .inr (.inl h)
   ·exact .inl h
   ·exact .inr (.inr h)
  ·rintro (h | h | h)
   ·exact .inr (.inl h)
   ·exact .inl h
   ·exact .inr (.inr h)
theorem Tg {x:ai} {out:List ai} (hs:jb out) (h:x∈out):ue x out = out:=(yS hs).one hs λy=>by
 rw [uf]; exact ⟨λe=>e.elim (λe=>e ▸ h) id,.inr⟩
theorem Qe (l:List ai) (x:ai):lay (l ++ [x]) = ue x (lay l):=by unfold lay; rw [List.foldl_append]; rfl
theorem N6 (a:aa3) (m sz:Nat):fT a 0 m sz = a:=by
 unfold fT; split
 ·rfl
 ·rw [aN,Nat.zero_mul];cases a <;> simp [Addr.add]
section
variable {w:aa4} {L:List az} {g:af} {x:GA} {a a2:aa3} {l c l2 c2:Nat} {I J:List ai}
theorem Jt (hx:bh (hp w) I a l) (hy:bh (hp w) J a2 l2) (hb:l<=4611686018427387904):ρ oq [.slice a l c,.slice a2 l2 c2] w λv w'=>v = .bool (decide (I = J))/\hp w' = hp w:=by
 have h1:=hx.1;have h2:=hy.1
 refine mo (ae (λh=>?_) λh=>?_)
 ·have h:l≠l2:=λe=>by subst e; simp at h
  have U:I≠J:=λe=>h (by rw [<- h1,<- h2,e]);exact ⟨by rw [Zu U],rfl⟩
 have h:l = l2:=by have:=bne_eq_false_iff_eq.1 h; omega
 subst h;refine ⟨λz w'=>∃ j:Nat,z = j/\j<=l/\I.take j = J.take j/\hp w' = hp w,λz _=>l - z.toNat,⟨0,rfl,Y4 _,rfl,rfl⟩,?_⟩;rintro _ _ w1 ⟨j,rfl,hj,X,Z⟩;refine ae (λG=>?_) λG=>?_
 rotate_left
 ·have G:j = l:=by have:=YS G; omega
  rw [G,Zb ω,Zb ω] at X;exact ⟨by rw [Zp X],Z⟩
 have G:j < l:=by have:=YR G; omega
 intro w2 hd;have W:hp w2 = hp w:=(dT hd).trans Z;obtain ⟨y,ad,V,rfl,cy⟩:=cV hx G;obtain ⟨z,a0,O,rfl,cz⟩:=cV hy G
 refine ⟨λu=>hp u = hp w,W,aq rfl G ⟨_,_,λu Y=>cy u (xd Y),aq rfl G ⟨_,_,λu Y=>cz u (xd Y),_,λu _=>Lb u _ _ y z,_,rfl,ae (λR=>?_) λR=>?_⟩⟩⟩
 ·have R:y≠z:=by simpa using R
  have U:I≠J:=λe=>by subst e; rw [V] at O; cases O; exact R rfl
  exact ⟨by rw [Zu U],W⟩
 ·have R:y = z:=by simpa using R
  subst R;exact ⟨⟨ω,ω⟩,⟨j + 1,σ,G,by rw [Y2,Y2,V,O,X],W⟩,bn G⟩
theorem Cv {y:ai} (hg:gR (hp w) g x) (hf:kN g y):ρ uy [.agg ⟨x.cells⟩,.agg (cR y).toArray] w λv w'=>v = .int .i64 (di g y)/\Gr w w':=by
 refine qM (cG hg λk1 w1 gw hg B=>ag (St.all w1) λk2 w2 h=>?_);have Z:au (hp w2) (aM k2) [.int .i64 y.prod,.int .i64 y.dot]:=ah 0 h.l;have W:Gr w1 w2:=h.aW;obtain ⟨h2,h3,p,u,h4⟩:=hf;obtain ⟨n,hn⟩ : ∃ n:Nat,y.prod = n:=⟨y.prod.toNat,ω⟩;obtain ⟨d,R⟩ : ∃ d:Nat,y.dot = d:=⟨y.dot.toNat,ω⟩;have U:g.prods[n]? = some p:=by rw [hn] at u; exact u
 have G:n < x.pl:=by have:=(YT.1 U).1; have:=hg.p.1; omega
 obtain ⟨p',a5,vs,V,a1,a0,ra,X,rc,rfl,a3,z⟩:=hg.p.get G;rw [U] at V; cases V;have a4:=z.1;refine ⟨_,_,_,B.c4 W,_,Z.cell0 (sub.refl _),?_⟩;rw [hn];refine aq a1 G ⟨_,_,_,a0.cell W (j:=1) rfl,_,Z.cell (sub.refl _) (j:=1) rfl,?_⟩;rw [kz u,R,Za]
 refine ae (λO=>?_) λO=>?_
 ·have O:d = X:=by have:=eq_of_beq O; omega
  rw [YX,Zf ω];exact ⟨rfl,gw.trans W⟩
 ·have O:d≠X:=λe=>by subst e; simp at O
  obtain ⟨v,ad,hv,Y,cv⟩:=z.cY (i:=d) ω;refine ⟨_,(Z.cell (sub.refl _) (j:=1) rfl),?_⟩
  show idx ra X y.dot 1 _
  rw [R];refine aw Y ω ⟨v,cv _ W,?_⟩;rw [YX,hv];exact ⟨rfl,gw.trans W⟩
theorem Xb {y:ai} (hx:bh (hp w) I a l) (hb:l<=4611686018427387904):ρ xt [.slice a l c,.agg (cR y).toArray] w λv w'=>v = .bool (decide (y∈I))/\Gr w w':=by
 have hl:=hx.1;refine uA (ag (St.all w) λk1 U h=>?_);have X:Gr w U:=h.aW;have r1:au (hp U) (aM k1) [.int .i64 y.prod,.int .i64 y.dot]:=ah 0 h.l;refine ⟨λz w'=>∃ j:Nat,z = j/\j<=l/\y∉I.take j/\Gr U w',λz _=>l - z.toNat,⟨0,rfl,Y4 _,σ,Gr.refl _⟩,?_⟩;rintro _ _ w2 ⟨j,rfl,hj,W,Y⟩;refine ae (λG=>?_) λG=>?_
 rotate_left
 ·have G:j = l:=by have:=YS G; omega
  rw [G,Zb ω] at W;exact ⟨by rw [Zu W],X.trans Y⟩
 have G:j < l:=by have:=YR G; omega
 intro Z hd;have V:Gr U Z:=Y.trans (Gr.drawn hd);obtain ⟨z,ad,R,rfl,cz⟩:=cV hx G
 refine ⟨λu=>Gr Z u,Gr.refl _,aq rfl G ⟨_,_,λu s=>cz u (sub.trans X (sub.trans V s)),_,_,λu s=>r1.at (sub.trans V s) rfl,_,λu _=>DF u _ _ z y,_,rfl,ae (λO=>?_) λO=>?_⟩⟩
 ·have O:z = y:=YR O;subst O;exact ⟨by rw [Zp (YV R)],X.trans V⟩
 ·have O:z≠y:=YS O;exact ⟨⟨ω,ω⟩,⟨j + 1,σ,G,by rw [Y2,R,YY]; simp [W,aaw O],V⟩,bn G⟩
variable {w:aa4} {L:List az} {g:af} {x:GA} {a a2:aa3} {l c l2 c2:Nat} {I J:List ai}
theorem Th (I:List ai):(lay I).length<=I.length:=jR (ga I).nodup λx u=>fx.1 u
theorem Lf (hx:bh (hp w) I a l) (hb:(l + 1) * 16<=140737488355328):ρ vL [.slice a l c] w λv w'=>∃ o c',v = .slice o (lay I).length c'/\St w' (own 2 o (lay I).length c' (tv (lay I)) :: all w):=by
 have hl:=hx.1;refine sQ ⟨λo n c' z w'=>∃ j:Nat,z = j/\j<=l/\n = (lay (I.take j)).length/\St w' (own 2 o n c' (tv (lay (I.take j))) :: all w),λ_ _ _ z _=>l - z.toNat,⟨0,rfl,Y4 _,rfl,ay 2 (St.all w)⟩,?_⟩;rintro _ o _ c1 _ w1 ⟨j,rfl,hj,rfl,h⟩;refine ae (λO=>?_) λO=>?_
 rotate_left
 ·have O:j = l:=by have:=YS O; omega
  rw [O,Zb ω] at h ⊢;exact ⟨_,_,rfl,h⟩
 have O:j < l:=by have:=YR O; omega
 obtain ⟨y,ad,hy,rfl,cy⟩:=cV hx O;have hT:lay (I.take (j + 1)) = ue y (lay (I.take j)):=by rw [Y2,hy,Z6,Qe]
 have hS:=ga (I.take j);have hn:(lay (I.take j)).length<=j:=by have:=Th (I.take j); rw [Zj] at this; omega
 generalize lay (I.take j) = out at h hT hS hn;generalize hO2:lay (I.take (j + 1)) = out2 at hT
 have row:au (hp w) (ad.add (cE j 2)) (cR y):=by
  obtain ⟨aa,vs,e,r,e2⟩:=hx.2 j y hy;cases e; rw [show vs = cR y from e2] at r; exact r
 refine ⟨λz w'=>∃ t:Nat,z = t/\t<=out.length/\(∀ (k:Nat) u,k < t->out[k]? = some u->u.lt y)/\(∀ u,out[t]? = some u->¬u.lt y)/\St w' (own 2 o out.length c1 (tv out) :: all w),?_,?_⟩
 ·refine ⟨λz w'=>∃ t:Nat,z = t/\t<=out.length/\(∀ (k:Nat) u,k < t->out[k]? = some u->u.lt y)/\St w' (own 2 o out.length c1 (tv out) :: all w),λz _=>out.length - z.toNat,⟨0,rfl,Y4 _,λk u hk=>ω,h⟩,?_⟩;clear h;rintro _ _ w2 ⟨t,rfl,ht,W,h⟩;intro w3 hd;have h:=h.eq (aE hd);have s3:sub (hp w) (hp w3):=aR 1 h.l;refine ⟨λu=>Gr w3 u,Gr.refl _,ae (λG=>?_) λG=>?_⟩
  rotate_left
  ·have G:t = out.length:=by have:=YS G; omega
   exact ⟨t,rfl,ht,W,λu V=>by rw [G] at V; simp at V,h⟩
  have G:t < out.length:=by have:=YR G; omega
  obtain ⟨u,R,V,rfl,cu⟩:=cV (cU h) G
  have a1:au (hp w3) (R.add (cE t 2)) (cR u):=by
   obtain ⟨aa,vs,e,r,e2⟩:=(cU h).2 t u V;cases e; rw [show vs = cR u from e2] at r; exact r
  have fy:u.lt y->ax ((t:Int) + 1)/\(∃ t' : Nat,(t:Int) + 1 = t'/\t'<=out.length/\(∀ (k:Nat) u,k < t'->out[k]? = some u->u.lt y)/\St w3 (own 2 (some R) out.length c1 (tv out) :: all w))/\out.length - ((t:Int) + 1).toNat < out.length - (t:Int).toNat:=λa5 =>
   ⟨⟨ω,ω⟩,⟨t + 1,σ,G,λk v hk hv=>by
    by_cases e:k = t
    ·subst e; rw [V] at hv; cases hv; exact a5
    ·exact W k v ω hv,h⟩,bn G⟩
  have a6:¬u.lt y->∃ t' : Nat,(t:Int) = t'/\t'<=out.length/\(∀ (k:Nat) u,k < t'->out[k]? = some u->u.lt y)/\(∀ u,out[t']? = some u->¬u.lt y)/\St w3 (own 2 (some R) out.length c1 (tv out) :: all w):=λa5 =>
   ⟨t,rfl,ht,W,λv hv=>by rw [V] at hv; cases hv; exact a5,h⟩
  have cA:∀ v,Gr w3 v->v.cell? (R.add (cE t 2)) = some (.int .i64 u.prod):=λv s=>a1.cell0 s;have cB:∀ v,Gr w3 v->v.cell? (ad.add (cE j 2)) = some (.int .i64 y.prod):=λv s=>row.cell0 (sub.trans s3 s);have cC:∀ v,Gr w3 v->v.cell? ((R.add (cE t 2)).add 1) = some (.int .i64 u.dot):=λv s=>a1.cell s (j:=1) rfl;have cD:∀ v,Gr w3 v->v.cell? ((ad.add (cE j 2)).add 1) = some (.int .i64 y.dot):=λv s=>row.cell (sub.trans s3 s) (j:=1) rfl
  refine aq rfl G ⟨_,cA,aq rfl O ⟨_,cB,ae (λU=>fy (.inl (YR U))) λU=>aq rfl G ⟨_,cA,aq rfl O ⟨_,cB,ae (λh4=>?_) λh4=>?_⟩⟩⟩⟩
  ·have h4:=aaR.1 h4;refine aq rfl G ⟨_,cC,aq rfl O ⟨_,cD,ae (λh5=>fy (.inr ⟨h4,YR h5⟩)) λh5=>a6 ?_⟩⟩;have h5:=YS h5;rintro (h | ⟨_,h⟩) <;> omega
  ·have U:=YS U;have h4:=aaA.1 h4;exact a6 (by rintro (h | ⟨h,_⟩) <;> omega)
 clear h;rintro _ _ am ⟨t,rfl,ht,W,a9,h⟩;intro a4 hd;have h:=h.eq (aE hd);have ab:sub (hp w) (hp a4):=aR 1 h.l;have Z:=dI h
 have fy:∀ (o' : aa3) (c' : Nat) w',St w' (own 2 o' out2.length c' (tv out2) :: all w) ->
   ax ((j:Int) + 1)/\(∃ j' : Nat,(j:Int) + 1 = j'/\j'<=l/\out2.length = (lay (I.take j')).length/\St w' (own 2 o' out2.length c' (tv (lay (I.take j'))) :: all w))/\l - ((j:Int) + 1).toNat < l - (j:Int).toNat:=λo' c' w' h =>
  ⟨⟨ω,ω⟩,⟨j + 1,σ,O,by rw [hO2],by rw [hO2]; exact h⟩,bn O⟩
 have z1:(0 + t) * 16<=140737488355328/\0 + t<=9223372036854775807:=ω
 have z2:(0 + t + 1) * 16<=140737488355328/\0 + t < 9223372036854775807:=ω
 have z3:(0 + t + 1 + (out.length - t)) * 16<=140737488355328/\0 + t + 1 + (out.length - t)<=9223372036854775807:=ω
 have a0:(∀ u,out[t]? = some u->u≠y)->ue y out = out.take t ++ y :: out.drop t:=λac=>VH hS W λu V=>(ai.Mz (ac u V)).resolve_left (a9 u V)
 refine ⟨λu=>Gr a4 u,Gr.refl _,ae (λG=>?_) λG=>?_⟩
 ·have G:t < out.length:=by have:=YR G; omega
  obtain ⟨u,R,V,rfl,cu⟩:=cV (cU h) G
  refine aq rfl G ⟨_,_,cu,aq rfl O ⟨_,_,λu s=>cy u (sub.trans ab s),_,λv _=>DF v _ _ u y,_,rfl,ae (λU=>?_) λU=>?_⟩⟩
  ·have U:u = y:=YR U;subst U;rw [Tg hS (YV V)] at hT;have:=fy (some R) c1 a4 (by rw [hT]; exact h);rwa [hT] at this
  have U:u≠y:=YS U;have Y:=hT.trans (a0 λv hv=>by rw [V] at hv; cases hv; exact U);refine nJ ω ?_;rw [N6];refine (qD (news:=tv (out.take t)) aQ (rfl:aj Ty _ = .slice _) (rfl:aj Ty _ = .slice _) rfl rfl rfl (ay 2 h) (by rw [dX,Zj,aak ht]) (by show 0 < 2; decide) (uu ((cU h).take ht)) (DJ _) z1.1 z1.2).mono ?_;rintro _ a3 ⟨o3,c3,rfl,h⟩;refine ⟨_,_,_,rfl,aq rfl O ⟨_,_,cy a3 (aR 2 h.l),ag h λk7 a7 h=>?_⟩⟩;refine (aL (us:=tv (out.take t)) aQ (rfl:aj Ty _ = .slice _) (rfl:aj Ty _ = .slice _) rfl rfl rfl h rfl (by simp [aG]) z2.1 z2.2).mono ?_;rintro _ a8 ⟨o4,c4,rfl,h⟩;refine ⟨_,_,_,rfl,ct ht Z ?_⟩;refine (qD (news:=tv (out.drop t)) aQ (rfl:aj Ty _ = .slice _) (rfl:aj Ty _ = .slice _) rfl rfl rfl h (by rw [dX,Z9]) (by show 0 < 2; decide) (uu ((cU (h.pick 3 [2])).drop ht Z)) (DJ _) z3.1 z3.2).mono ?_;rintro _ X ⟨o5,c5,rfl,h⟩;refine ⟨_,_,_,rfl,?_⟩;have el:0 + t + 1 + (out.length - t) = out2.length:=by rw [Y,Y0,ZC,Zj,Z9,aak ht]; omega
  have ev:(tv (out.take t) ++ [.int .i64 y.prod,.int .i64 y.dot]) ++ tv (out.drop t) = tv out2:=by
   rw [Y,oh,yW,Y6]; rfl
  have h:St X (own 2 o5 (0 + t + 1 + (out.length - t)) c5 ((tv (out.take t) ++ [.int .i64 y.prod,.int .i64 y.dot]) ++ tv (out.drop t)) :: all w):=h.pick 4 [0,3];rw [el,ev] at h;rw [el];exact fy o5 c5 X h
 ·have G:t = out.length:=by have:=YS G; omega
  have Y:=hT.trans (a0 λv hv=>by rw [G] at hv; simp at hv);refine nJ ω ?_;rw [N6];refine (qD (news:=tv (out.take t)) aQ (rfl:aj Ty _ = .slice _) (rfl:aj Ty _ = .slice _) rfl rfl rfl (ay 2 h) (by rw [dX,Zj,aak ht]) (by show 0 < 2; decide) (uu ((cU h).take ht)) (DJ _) z1.1 z1.2).mono ?_;rintro _ a3 ⟨o3,c3,rfl,h⟩;refine ⟨_,_,_,rfl,aq rfl O ⟨_,_,cy a3 (aR 2 h.l),ag h λk7 a7 h=>?_⟩⟩;refine (aL (us:=tv (out.take t)) aQ (rfl:aj Ty _ = .slice _) (rfl:aj Ty _ = .slice _) rfl rfl rfl h rfl (by simp [aG]) z2.1 z2.2).mono ?_;rintro _ a8 ⟨o4,c4,rfl,h⟩;refine ⟨_,_,_,rfl,ct ht Z ?_⟩;refine (qD (news:=tv (out.drop t)) aQ (rfl:aj Ty _ = .slice _) (rfl:aj Ty _ = .slice _) rfl rfl rfl h (by rw [dX,Z9]) (by show 0 < 2; decide) (uu ((cU (h.pick 3 [2])).drop ht Z)) (DJ _) z3.1 z3.2).mono ?_;rintro _ X ⟨o5,c5,rfl,h⟩;refine ⟨_,_,_,rfl,?_⟩;have el:0 + t + 1 + (out.length - t) = out2.length:=by rw [Y,Y0,ZC,Zj,Z9,aak ht]; omega
  have ev:(tv (out.take t) ++ [.int .i64 y.prod,.int .i64 y.dot]) ++ tv (out.drop t) = tv out2:=by
   rw [Y,oh,yW,Y6]; rfl
  have h:St X (own 2 o5 (0 + t + 1 + (out.length - t)) c5 ((tv (out.take t) ++ [.int .i64 y.prod,.int .i64 y.dot]) ++ tv (out.drop t)) :: all w):=h.pick 4 [0,3];rw [el,ev] at h;rw [el];exact fy o5 c5 X h
end
section
variable {g:af} {I ls:List ai} {bs:List Bool} {i:Nat} {x y:ai}
theorem ak.left (h:ak g) {p:aP} (hp:p∈g.prods):(g.T:Int)<=p.left:=by
 obtain ⟨_,V,O,R,u,U,_⟩:=h;obtain ⟨n,z⟩:=Zr hp;cases n with
 | zero=>rw [u] at z; cases z; omega
 | succ n =>
  have G:p∈g.prods.drop 1:=by
   refine YV (i:=n) ?_;rw [Zv,aaQ]; exact z
  have:=((O.2.2.1 p G).1).1;omega
theorem Ti (hc:ak g) (hf:kN g x) (h0:0<=di g x):1<=di g x/\di g x < g.T + g.N:=by
 obtain ⟨p,hp,_,u⟩:=DC hf rfl h0;exact hc.sym (YV hp) (YV u)
structure xu (g:af) (I:List ai) (bs:List Bool) (i:Nat) (ls:List ai):Prop where
 nd:ls.Nodup
 sb:∀ x∈I,x∈ls
 ok:∀ x∈ls,pI g I x
 ln:bs.length = g.T + g.N
 bt:∀ s:Nat,bs[s]? = some true->∀ k∈DI g s,FX k∈ls
 dn:∀ (j:Nat) y,j < i->ls[j]? = some y->(g.T:Int)<=di g y->bs[(di g y).toNat]? = some true
theorem xu.start:xu g I (List.replicate (g.T + g.N) false) 0 (lay I) :=
 ⟨(ga I).nodup,λx u=>fx.2 u,λx u=>.base (fx.1 u),σ,λs z=>by rw [Z2] at z; split at z <;> simp at z,λj y G=>ω⟩
theorem Ju (h1:ls.Nodup) (h2:∀ x∈ls,pI g I x):ls.length<=I.length + g.prods.length:=by
 have:=jR (m:=I ++ (List.range g.prods.length).map FX) h1 λx u=>by
  rw [YY]
  rcases (h2 x u).or with h | ⟨i,hi,rfl⟩
  ·exact .inl h
  ·exact .inr (Zh.2 ⟨i,Zo.2 hi,rfl⟩)
 simpa using this
theorem xu.len (h:xu g I bs i ls):ls.length<=I.length + g.prods.length:=Ju h.nd h.ok
theorem xu.skip (h:xu g I bs i ls) (hy:ls[i]? = some y) (hs:di g y < g.T\/bs[(di g y).toNat]? = some true):xu g I bs (i + 1) ls :=
 ⟨h.nd,h.sb,h.ok,h.ln,h.bt,λj z G u h0=>by
  by_cases e:j = i
  ·subst e; rw [hy] at u; cases u
   rcases hs with hs | hs
   ·omega
   ·exact hs
  ·exact h.dn j z ω u h0⟩
structure Ho (g:af) (I:List ai) (s:Int) (ls:List ai) (j:Nat) (ms:List ai):Prop where
 nd:ms.Nodup
 pre:∃ ex,ms = ls ++ ex
 ok:∀ x∈ms,pI g I x
 al:∀ k∈OO g j s,FX k∈ms
theorem xu.inner (h:xu g I bs i ls) (s:Int):Ho g I s ls 0 ls:=⟨h.nd,⟨[],σ⟩,h.ok,λk u=>by simp [OO] at u⟩
theorem xu.more {ms:List ai} (h:xu g I bs i ls) (hy:ls[i]? = some y) (h0:0<=di g y) (hl:(di g y).toNat < bs.length) (hJ:Ho g I (di g y) ls g.prods.length ms):xu g I (bs.set (di g y).toNat true) (i + 1) ms:=by
 obtain ⟨ex,rfl⟩:=hJ.pre
 refine ⟨hJ.nd,λx V=>aaI _ (h.sb x V),hJ.ok,by rw [Zn]; exact h.ln,λs U k O=>?_,λj z X u W=>?_⟩
 ·by_cases e:(di g y).toNat = s
  ·have G:(s:Int) = di g y:=ω
   rw [G] at O;exact hJ.al k O
  ·rw [aaJ e] at U;exact aaI _ (h.bt s U k O)
 ·have R:j < ls.length:=by have:=(YT.1 hy).1; omega
  rw [Y8 R] at u
  by_cases e:(di g y).toNat = (di g z).toNat
  ·rw [<- e,aap hl]
  ·rw [aaJ e]
   by_cases G:j = i
   ·subst G; rw [hy] at u; cases u; exact absurd rfl e
   ·exact h.dn j z ω u W
theorem xu.fin (h:xu g I bs i ls) (hc:ak g) (hi:i = ls.length):lay ls = cls g I:=by
 refine MA (ga _) λx=>?_;rw [fx];refine ⟨h.ok x,λu=>?_⟩
 induction u with
 | base u=>exact h.sb _ u
 | @step y k p _ h1 h2 h3 ih =>
  obtain ⟨j,z⟩:=Zr ih;have G:=hc.left (YV h2);have:=h.dn j y (by have:=(YT.1 z).1; omega) z ω;exact h.bt _ this k (qC.2 ⟨p,h2,by rw [h3]; omega⟩)
theorem Ho.skip {s:Int} {j:Nat} {ms:List ai} {p:aP} (h:Ho g I s ls j ms) (hp:g.prods[j]? = some p) (hs:p.left≠s\/FX j∈ms):Ho g I s ls (j + 1) ms :=
 ⟨h.nd,h.pre,h.ok,λk u=>by
  rw [ur hp,YY] at u
  rcases u with u | u
  ·exact h.al k u
  ·split at u
   ·rename_i e
    simp at u; subst u
    rcases hs with hs | hs
    ·exact absurd e.symm hs
    ·exact hs
   ·simp at u⟩
theorem Ho.put {s:Int} {j:Nat} {ms:List ai} {p:aP} (h:Ho g I s ls j ms) (hp:g.prods[j]? = some p) (hs:p.left = s) (hn:FX j∉ms) (hy:pI g I y) (ha:di g y = s) (h0:0<=s):Ho g I s ls (j + 1) (ms ++ [FX j]):=by
 obtain ⟨ex,rfl⟩:=h.pre
 refine ⟨?_,⟨ex ++ [FX j],σ⟩,λx z=>?_,λk u=>?_⟩
 ·rw [ZE];exact ⟨h.nd,σ,λa ha b G e=>by simp at G; subst G; subst e; exact hn (by simpa using ha)⟩
 ·rw [YY,Zl] at z
  rcases z with z | rfl
  ·exact h.ok x z
  ·exact .step hy ω hp ω
 ·rw [ur hp,YY] at u
  rcases u with u | u
  ·exact aaI _ (h.al k u)
  ·split at u
   ·simp at u; subst u; simp
   ·simp at u
end
section
variable {w:aa4} {L:List az} {g:af} {x:GA} {a a2:aa3} {l c l2 c2:Nat} {I J:List ai}
theorem FY (hg:gR (hp w) g x) (hb:jd g) (hc:ak g) (hx:bh (hp w) I a l) (hf:yX g I) (hl:l * 16<=140737488351232):ρ sG [.agg ⟨x.cells⟩,.slice a l c] w λv w'=>∃ o c',v = .slice o (cls g I).length c'/\St w' (own 2 o (cls g I).length c' (tv (cls g I)) :: all w):=by
 have a1:=hx.1;obtain ⟨hT,hN,hP,c5,bd,bA⟩:=hc.b9;refine pM (cG hg λk1 w1 gw hg B=>?_);refine (Lf (hx.mono gw) ω).mono ?_;rintro _ w2 ⟨o1,c1,rfl,h⟩;refine ⟨_,_,_,rfl,_,_,_,_,_,_,_,_,_,_,_,_,_,B.row h.aW,(iX (hg.mono h.aW) hb).mono ?_⟩;rintro _ w3 ⟨rfl,g3⟩;have h:=h.gr g3;have en:((g.T:Int) + g.N) = ((g.T + g.N:Nat):Int):=ω
 rw [en];refine ⟨_,rfl,⟨ω,rfl,ω⟩,?_⟩;have e0:ir (Int.toNat ((g.T + g.N:Nat):Int)) [Value.bool false] = bv (List.replicate (g.T + g.N) false):=by rw [dq,Za]; simp [bv]
 rw [e0,Za];refine ag h λa3 w4 h=>?_;have b2:=a1
 refine ⟨λo n c' z w'=>∃ (i:Nat) (ls:List ai) (bs:List Bool),z = i/\n = ls.length/\i<=ls.length/\xu g I bs i ls/\St w' (own 2 o n c' (tv ls) :: aH a3 (bv bs) :: all w1),λ_ _ _ z _=>(l + g.prods.length) - z.toNat,
  ⟨0,lay I,_,rfl,rfl,Y4 _,.start,h.pick 2 [1,0]⟩,?_⟩
 clear h;rintro _ o _ c2 _ w5 ⟨i,ls,bs,rfl,rfl,hi,V,h⟩;have O:=V.len;rw [a1] at O;have b3:l + g.prods.length<=8796093022100:=ω
 refine ae (λR=>?_) λR=>?_
 rotate_left
 ·have R:i = ls.length:=by have:=YS R; omega
  have e:=V.fin hc R;have hr:bh (hp w5) ls o ls.length:=cU h;refine (Lf hr ω).mono ?_;rintro _ bb ⟨o7,c7,rfl,h7⟩;rw [e] at h7 ⊢;exact ⟨_,_,_,rfl,_,_,rfl,h7.nf (fV (bH gw) (aR 2 h.l))⟩
 have R:i < ls.length:=by have:=YR R; omega
 obtain ⟨y,ad,hy,rfl,cy⟩:=cV (cU h) R;have a6:=V.ok y (YV hy);have a5:kN g y:=a6.fit hf;intro w6 hd;have h:=h.eq (aE hd);have s6:sub (hp w1) (hp w6):=aR 2 h.l;refine ⟨λu=>Gr w6 u,Gr.refl _,_,_,_,_,_,_,_,_,_,_,_,_,_,λu s=>B.row (sub.trans s6 s),aq rfl R ⟨_,_,λu s=>cy u (sub.trans (Gr.drawn hd) s),(Cv (hg.mono s6) a5).mono ?_⟩⟩;rintro _ w9 ⟨rfl,g9⟩;have h:=h.gr g9;have s9:sub (hp w1) (hp w9):=aR 2 h.l;have bi:g.T = x.tl:=hg.t.1
 refine ⟨_,rfl,g9,_,_,_,B.c0 s9,ae (λh2=>?_) λh2=>?_⟩
 ·have h2:=YR h2;exact ⟨⟨ω,ω⟩,⟨i + 1,ls,bs,σ,rfl,R,V.skip hy (.inl ω),h⟩,bn (aaF R O)⟩
 have h2:(g.T:Int)<=di g y:=by have:=YS h2; omega
 obtain ⟨_,bc⟩:=Ti hc a5 ω;obtain ⟨s,hs⟩ : ∃ s:Nat,di g y = s:=⟨(di g y).toNat,ω⟩;have W:s < bs.length:=by have:=V.ln; omega
 rw [hs];have a9:(bv bs)[s]? = some (.bool bs[s]):=by unfold bv; rw [YW,YU W]; rfl
 refine aw rfl (by have:=V.ln; omega) ⟨_,(ah 1 h.l).cell (sub.refl _) (j:=s) a9,ae (λh3=>?_) λh3=>?_⟩
 ·exact ⟨⟨ω,ω⟩,⟨i + 1,ls,bs,σ,rfl,R,V.skip hy (.inr (by rw [hs,Za,YU W,h3])),h⟩,bn (aaF R O)⟩
 refine aw rfl (by have:=V.ln; omega) ?_;rw [aK];refine bj (h.pick 2 [1,0]) (by rw [n_]; exact W) λbe h=>?_;rw [Cq] at h;have pl:=hg.p.1
 refine ⟨λo n c' z w'=>∃ (j:Nat) (G:List ai),z = j/\n = G.length/\j<=x.pl/\Ho g I s ls j G/\St w' (own 2 o n c' (tv G) :: aH a3 (bv (bs.set s true)) :: all w1),λ_ _ _ z _=>x.pl - z.toNat,
  ⟨0,ls,rfl,rfl,Y4 _,V.inner s,h.pick 2 [1,0]⟩,?_⟩
 clear h cy;rintro _ o _ c4 _ aT ⟨j,G,rfl,rfl,hj,X,h⟩;have b0:=Ju X.nd X.ok;rw [a1] at b0;have ab:sub (hp w1) (hp aT):=aR 2 h.l;refine ⟨_,_,_,B.c4 ab,ae (λU=>?_) λU=>?_⟩
 rotate_left
 ·have U:j = g.prods.length:=by have:=YS U; omega
  rw [U] at X;have a7:=V.more hy ω (by rw [hs]; exact W) (by rw [hs]; exact X);rw [hs,Za] at a7;obtain ⟨ex,a8⟩:=X.pre;refine ⟨⟨ω,ω⟩,⟨i + 1,G,_,σ,rfl,?_,a7,h⟩,bn (aaF R O)⟩;rw [a8,Y0]; exact Nat.le_add_right_of_le R
 have U:j < x.pl:=by have:=YR U; omega
 refine ag h λbP bl h=>aU h rfl (by simp [aG]) λb1 h=>?_;obtain ⟨p,c6,vs,Z,ac,am,ra,rl,rc,rfl,b7,b4⟩:=hg.p.get U;have a4:sub (hp w1) (hp b1):=aR 3 h.l;have a0:ax ((j:Int) + 1):=⟨ω,ω⟩
 refine ⟨_,_,_,B.c4 a4,aq ac U ⟨_,am.cell0 a4,ae (λY=>?_) λY=>?_⟩⟩
 ·have Y:p.left≠s:=bne_iff_ne.1 Y;exact ⟨a0,⟨j + 1,G,σ,rfl,U,X.skip Z (.inl Y),h.pick 4 [1,2,3]⟩,bn U⟩
 have Y:p.left = s:=bne_eq_false_iff_eq.1 Y;refine ⟨_,_,(ah 0 h.l).at (sub.refl _) rfl,(Xb (y:=FX j) (cU (h.pick 2 [1])) ω).mono ?_⟩;rintro _ bC ⟨rfl,aI⟩;have h:=h.gr aI;refine ⟨_,rfl,ae (λh6=>?_) λh6=>?_⟩
 rotate_left
 ·have h6:FX j∈G:=by simpa using h6
  exact ⟨a0,⟨j + 1,G,σ,rfl,U,X.skip Z (.inr h6),h.pick 4 [1,2,3]⟩,bn U⟩
 have h6:FX j∉G:=by simpa using h6
 have aa:=X.put Z Y h6 a6 hs (Zx _);have z1:(G.length + 1) * 16<=140737488355328/\G.length < 9223372036854775807:=ω
 refine ⟨_,_,(ah 0 h.l).at (sub.refl _) rfl,ag h λbT b6 h=>?_⟩;refine (aL (us:=tv G) aQ (rfl:aj Ty _ = .slice _) (rfl:aj Ty _ = .slice _) rfl rfl rfl (h.pick 3 [0,2]) rfl (by simp [aG]) z1.1 z1.2).mono ?_;rintro _ ba ⟨b5,bG,rfl,h⟩;have e:tv (G ++ [FX j]) = tv G ++ [.int .i64 (j:Int),.int .i64 0]:=by rw [oh]; rfl
 refine ⟨_,_,_,rfl,a0,⟨j + 1,G ++ [FX j],σ,σ,U,aa,?_⟩,bn U⟩;rw [e];exact h.pick 4 [0,2,3]
theorem VI {s:Int} (hg:gR (hp w) g x) (hb:jd g) (hx:bh (hp w) I a l) (hf:yX g I) (hl:l<=8796093022100):ρ vJ [.agg ⟨x.cells⟩,.int .i64 s,.slice a l c] w λv w'=>∃ o c',v = .slice o (lay (eF g I s)).length c'/\St w' (own 2 o (lay (eF g I s)).length c' (tv (lay (eF g I s))) :: all w):=by
 have a4:=hx.1;obtain ⟨_,_,_,_,_,_,Y⟩:=id hb;refine sJ (cG hg λk1 V gw hg B=>?_);have hx:=hx.mono gw;refine ⟨λo n c' z w'=>∃ j:Nat,z = j/\j<=l/\n = (eF g (I.take j) s).length/\St w' (own 2 o n c' (tv (eF g (I.take j) s)) :: all V),λ_ _ _ z _=>l - z.toNat,⟨0,rfl,Y4 _,rfl,ay 2 (St.all V)⟩,?_⟩;rintro _ o _ c1 _ w2 ⟨j,rfl,hj,rfl,h⟩;have U:(eF g (I.take j) s).length<=j:=by have:=vj g (I.take j) s; rw [Zj] at this; omega
 refine ae (λO=>?_) λO=>?_
 rotate_left
 ·have O:j = l:=by have:=YS O; omega
  rw [O,Zb ω] at h U;rw [O,Zb ω];refine (Lf (cU h) ω).mono ?_;rintro _ a3 ⟨o7,c7,rfl,h7⟩;exact ⟨_,_,_,rfl,_,_,rfl,h7.nf (fV (bH gw) (aR 1 h.l))⟩
 have O:j < l:=by have:=YR O; omega
 obtain ⟨y,ad,hy,rfl,cy⟩:=cV hx O
 have row:au (hp V) (ad.add (cE j 2)) (cR y):=by
  obtain ⟨a5,vs,e,r,e2⟩:=hx.2 j y hy;cases e; rw [show vs = cR y from e2] at r; exact r
 have W:=hf y (YV hy)
 have a8:0<=y.dot/\y.dot<=17592186043904:=by
  obtain ⟨_,R,p,hp,h3⟩:=W;have:=Y p (YV hp); omega
 have G:eF g (I.take (j + 1)) s = if s = di g y then eF g (I.take j) s ++ [⟨y.prod,y.dot + 1⟩] else eF g (I.take j) s:=by
  rw [Y2,hy,Z6,DK]
 have X:ax ((j:Int) + 1):=⟨ω,ω⟩;have Z:((eF g (I.take j) s).length + 1) * 16<=140737488355328/\(eF g (I.take j) s).length < 9223372036854775807:=⟨Zq (aah 16 (Nat.succ_le_succ U)) ω,Nat.lt_of_le_of_lt U ω⟩;generalize eF g (I.take j) s = K at h G Z U;intro w3 hd;have h:=h.eq (aE hd);have s3:sub (hp V) (hp w3):=aR 1 h.l;refine ⟨λu=>sub (hp V) (hp u),s3,_,_,_,_,_,_,_,_,_,_,_,_,_,λu s=>B.row s,aq rfl O ⟨_,_,λu s=>cy u s,(Cv (hg.mono s3) W).mono ?_⟩⟩;rintro _ w6 ⟨rfl,g6⟩;have h:=h.gr g6
 refine ⟨_,rfl,aR 1 h.l,ae (λR=>?_) λR=>?_⟩
 ·have R:s = di g y:=(aaR.1 R).symm;rw [Y5 R] at G;intro w7 a0;have h:=h.eq (aE a0);refine ⟨λu=>sub (hp V) (hp u),aR 1 h.l,aq rfl O ⟨_,λu s=>row.cell0 s,aq rfl O ⟨_,λu s=>row.cell s (j:=1) rfl,⟨ω,ω⟩,ag h λa6 a1 h=>⟨aR 2 h.l,?_⟩⟩⟩⟩;refine (aL (us:=tv K) aQ (rfl:aj Ty _ = .slice _) (rfl:aj Ty _ = .slice _) rfl rfl rfl h rfl (by simp [aG]) Z.1 Z.2).mono ?_;rintro _ a7 ⟨o6,c6,rfl,h⟩;have e:tv (K ++ [⟨y.prod,y.dot + 1⟩]) = tv K ++ [.int .i64 y.prod,.int .i64 (y.dot + 1)]:=by rw [oh]; rfl
  refine ⟨_,_,_,rfl,aR 2 h.l,X,⟨j + 1,σ,O,by rw [G]; simp,?_⟩,bn O⟩;rw [G,e];exact h.pick 3 [0,2]
 ·have R:s≠di g y:=λe=>by rw [e] at R; simp at R
  rw [YZ R] at G;exact ⟨X,⟨j + 1,σ,O,by rw [G],by rw [G]; exact h⟩,bn O⟩
theorem Tj (hf:yX g I):yX g (cls g I):=λx u=>(jn.1 u).fit hf
end
end Go.Proofs.YtndaepmjkbmjmaaGreatDoor
