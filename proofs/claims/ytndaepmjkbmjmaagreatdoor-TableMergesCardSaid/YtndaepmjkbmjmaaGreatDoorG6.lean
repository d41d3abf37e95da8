/- Texts of this claim, one behind the other. -/
import Derived.Test.YtndaepmjkbmjmaaGreatDoorG5
import Derived.Test.YtndaepmjkbmjmaaGreatDoorG4
import Derived.Test.YtndaepmjkbmjmaaGreatDoorG1
import Derived.Test.YtndaepmjkbmjmaaGreatDoorG3
set_option linter.unusedVariables false
set_option linter.unusedSectionVars false
set_option maxRecDepth 100000
set_option maxHeartbeats 16000000
namespace Go.V
open Go.Proofs.YtndaepmjkbmjmaaGreatDoor
inductive Dk (g:af) (ss:List SQ):Nat->Nat->Prop
 | now (j x:Nat):x < g.T->(eW ss j (x:Int)).isSome->Dk g ss j x
 | via (j k x:Nat) (s:Int):(g.T:Int)<=s->Af g s->eW ss j s = some (k:Int)->Dk g ss k x->Dk g ss j x
section
variable {g:af} {nn:List Bool} {ss:List SQ}
theorem TB {n m:Nat} {p:aH} (hp:g.prods[n]? = some p):cM g ⟨(n:Int),(m:Int)⟩ = p.right.getD m (-1):=by
 rw [jK (p:=p) (by show g.prods[(n:Int).toNat]? = _; rw [Ws]; exact hp)]
 rfl
theorem fE {n m:Nat} {p:aH} {s:Int} (hp:g.prods[n]? = some p) (hs:p.right[m]? = some s):cM g ⟨(n:Int),(m:Int)⟩ = s:=by
 rw [TB hp,Wb,hs]; rfl
theorem O0 (hc:ak g) {s:Int} (h:Af g s):(g.T:Int)<=s/\s < g.T + g.N:=by
 cases h with
 | mk p hp _=>exact (Q6 (.inr hc)).1 p hp |>.1
theorem xJ (hn:ju g nn) {s:Int} (h:(g.T:Int)<=s):uz g nn s = true↔Af g s:=by
 unfold uz
 rw [WI h,XL,hn.2,show ((g.T + (s.toNat - g.T):Nat):Int) = s by omega]
theorem HM (hc:ak g) (hn:ju g nn) {row:List Int}:Ag g nn row = true↔De g row:=by
 unfold Ag De
 rw [XH]
 refine forall_congr' λs=>forall_congr' λ_=>⟨λh=>(xJ hn (FE h)).1 h,λh=>(xJ hn (O0 hc h).1).2 h⟩
theorem Dk.along (hc:ak g) (hA:bm g ss) {n x:Nat} {p:aH} (hp:g.prods[n]? = some p):∀ (d m j:Nat) (q:SQ),ss[j]? = some q->nT g q.1.2 ⟨(n:Int),(m:Int)⟩->m + d<=p.right.length->(∀ y∈(p.right.drop m).take d,Af g y) ->
  (∀ (k:Nat) (r:SQ),ss[k]? = some r->nT g r.1.2 ⟨(n:Int),((m + d:Nat):Int)⟩->Dk g ss k x)->Dk g ss j x
 | 0,m,j,q,hq,hy,_,_,h=>h j q hq hy
 | d + 1,m,j,q,hq,hy,hm,hn,h=>by
  have hlt:m < p.right.length:=by omega
  have hgs:p.right[m]? = some p.right[m]:=Wa hlt
  rw [WO hlt,List.take_succ_cons] at hn
  have hnu:=hn _ List.mem_cons_self
  have hge:=O0 hc hnu
  obtain ⟨k,r,h1,h2,h3⟩:=tV hc hA hq hy (fE hp hgs) (by omega)
  refine .via j k x _ hge.1 hnu h1 (Dk.along hc hA hp d (m + 1) k r h2 (.base (by simpa using h3)) (by omega) (λy hy=>hn y (Ya _ hy)) ?_)
  rw [show m + 1 + d = m + (d + 1) by omega]
  exact h
theorem Dk.TC (hc:ak g) (hA:bm g ss) {s:Int} {x:Nat} (h:MB g s x):∀ (n m j:Nat) (p:aH) (q:SQ),g.prods[n]? = some p->p.right[m]? = some s->ss[j]? = some q->nT g q.1.2 ⟨(n:Int),(m:Int)⟩->Dk g ss j x:=by
 induction h with
 | tm t ht =>
  intro n m j p q hp hs hq hy
  obtain ⟨k,r,h1,_⟩:=tV hc hA hq hy (fE hp hs) (WJ _)
  exact .now j t ht (by rw [h1]; rfl)
 | pr p' i s t hp' hs' hn hf ih =>
  intro n m j p q hp hs hq hy
  obtain ⟨n',hn'⟩:=WH hp'
  have hpl:=((Q6 (.inr hc)).1 p' hp').1
  have hil:=(V9.1 hs').1
  have h0:nT g q.1.2 ⟨(n' : Int),((0:Nat):Int)⟩:=.step (y:=⟨(n:Int),(m:Int)⟩) hy (by rw [fE hp hs]; omega) hn' (by rw [fE hp hs])
  refine Dk.along hc hA hn' i 0 j q hq h0 (by omega) (by simpa using hn) λk r hr hy'=>?_
  exact ih n' i k p' r hn' hs' hr (by simpa using hy')
theorem Dk.TD (hc:ak g) (hA:bm g ss) {n m j x:Nat} {p:aH} {q:SQ} (hp:g.prods[n]? = some p) (hq:ss[j]? = some q) (hy:nT g q.1.2 ⟨(n:Int),(m:Int)⟩) (h:qM g (p.right.drop m) x):Dk g ss j x:=by
 obtain ⟨i,s,h1,h2,h3⟩:=h
 rw [WL] at h1
 have hil:=(V9.1 h1).1
 exact Dk.along hc hA hp i m j q hq hy (by omega) h2 λk r hr hy'=>Dk.TC hc hA h3 n (m + i) k p r hp h1 hr hy'
def rest (g:af) (y:ag):List Int:=match g.prods[y.prod.toNat]? with
 | some p=>p.right.drop y.dot.toNat
 | none=>[]
theorem xK {y:ag} (h:0<=cM g y):∃ p,g.prods[y.prod.toNat]? = some p/\p.right[y.dot.toNat]? = some (cM g y)/\rest g y = cM g y :: p.right.drop (y.dot.toNat + 1):=by
 unfold cM at h ⊢
 unfold rest
 cases hp:g.prods[y.prod.toNat]? with
 | none=>rw [hp] at h; simp at h
 | some p =>
  rw [hp] at h
  simp only at h ⊢
  have hl:y.dot.toNat < p.right.length:=by
   refine Nat.lt_of_not_le λhh=>?_
   rw [Wb,Wt hh] at h
   simp at h
  rw [Wb,Wa hl]
  exact ⟨p,rfl,Wa hl,WO hl⟩
theorem qM.head {s:Int} {l:List Int} {x:Nat} (h:MB g s x):qM g (s :: l) x:=⟨0,s,rfl,by simp,h⟩
theorem qM.skip {s:Int} {l:List Int} {x:Nat} (h:Af g s) (hl:qM g l x):qM g (s :: l) x:=by
 obtain ⟨i,y,h1,h2,h3⟩:=hl
 refine ⟨i + 1,y,h1,λz hz=>?_,h3⟩
 rw [List.take_succ_cons] at hz
 rcases Wp.1 hz with rfl | hz
 ·exact h
 ·exact h2 z hz
theorem qM.left {p:aH} {x:Nat} (hp:p∈g.prods) (h:qM g p.right x):MB g p.left x:=by
 obtain ⟨i,s,h1,h2,h3⟩:=h
 exact .pr p i s x hp h1 h2 h3
theorem KY {I:List ag} {y:ag} (h:nT g I y):∀ x,qM g (rest g y) x->∃ z∈I,qM g (rest g z) x:=by
 induction h with
 | base hx=>exact λx hr=>⟨_,hx,hr⟩
 | @step y i p h1 h2 h3 h4 ih =>
  intro x hr
  obtain ⟨p',_,_,h5⟩:=xK h2
  refine ih x ?_
  rw [h5,<- h4]
  have e:rest g ⟨(i:Int),0⟩ = p.right:=by
   unfold rest
   rw [show g.prods[((⟨(i:Int),0⟩ : ag).prod).toNat]? = some p by show g.prods[(i:Int).toNat]? = _; rw [Ws]; exact h3]
   rfl
  rw [e] at hr
  exact .head (hr.left (V_ h3))
theorem Dk.item (hc:ak g) (hA:bm g ss) {j x:Nat} (h:Dk g ss j x):∀ q,ss[j]? = some q->∃ z∈q.1.2,qM g (rest g z) x:=by
 induction h with
 | now j x hx hs =>
  intro q hq
  obtain ⟨hT,hN,_⟩:=hc.ct
  rw [lx hA hq (by omega)] at hs
  have hs:=V7 hs
  obtain ⟨z,hz⟩:=Xu _ hs
  obtain ⟨y,h1,h2,_⟩:=cH.1 hz
  refine KY h1 x ?_
  obtain ⟨_,_,_,h5⟩:=xK (y:=y) (by rw [h2]; omega)
  rw [h5,h2]
  exact .head (.tm x hx)
 | via j k x s hs hn hk hr ih =>
  intro q hq
  obtain ⟨q',i,e,hq',he,he1,he2⟩:=py hk
  rw [hq] at hq'; cases hq'
  obtain ⟨_,_,k',r,hk',_,hr',hrk,_⟩:=fm hc hA hq he
  rw [he2] at hk'
  have hkk:k = k':=by omega
  subst hkk
  obtain ⟨z,hz,hf⟩:=ih r hr'
  rw [hrk,he1] at hz
  obtain ⟨y,h1,h2,rfl⟩:=cH.1 hz
  refine KY h1 x ?_
  obtain ⟨p,hp,_,h5⟩:=xK (y:=y) (by rw [h2]; omega)
  rw [h5,h2]
  refine .skip hn ?_
  unfold rest at hf
  rw [show g.prods[((⟨y.prod,y.dot + 1⟩ : ag).prod).toNat]? = some p from hp] at hf
  obtain ⟨hT,hN,hP,hP2,_,_⟩:=hc.ct
  have hK:=(fl hA hq).1
  have hfit:=h1.fit ((dg (g:=g) (by omega) j).fit _ (V_ hK))
  have hd:(y.dot + 1).toNat = y.dot.toNat + 1:=by have:=hfit.2.1; omega
  rw [<- hd]
  exact hf
end
end Go.V
namespace Go.V
open Go.Proofs.YtndaepmjkbmjmaaGreatDoor
section
variable {g:af} {nn:List Bool} {ss:List SQ}
theorem Rp {v:Nat} {t:aq} (ht:(bj g ss)[v]? = some t):(pK g ss).getD v [] = ig g ss t:=by
 unfold pK; rw [Wb,Wc,ht]; rfl
theorem O1 {n:Nat} {f:Nat->Nat->Bool} {v m:Nat}:m∈En ((List.range n).map λi=>bX n (f i)) v↔v < n/\m < n/\f v m = true:=by
 unfold En
 rw [Wb]
 by_cases hv:v < n
 ·rw [Wc,XA hv]
  simp only [Xb,Option.getD_some,Wu]
  constructor
  ·rintro ⟨z,hz,rfl⟩
   obtain ⟨k,rfl,h1,h2⟩:=cJ.1 hz
   exact ⟨hv,h1,h2⟩
  ·rintro ⟨_,h1,h2⟩
   exact ⟨(m:Int),cJ.2 ⟨m,rfl,h1,h2⟩,rfl⟩
 ·rw [Wt (by simp; omega)]
  simp
  omega
theorem O2 {v m:Nat}:m∈En (qN g nn ss) v↔v < (bj g ss).length/\m < (bj g ss).length/\iN g nn ss v m = true:=O1
theorem O3 {v m:Nat}:m∈En (uA g nn ss) v↔v < (bj g ss).length/\m < (bj g ss).length/\xu g nn ss v m = true:=O1
theorem vU {v:Nat} {t:aq} (hc:ak g) (hA:bm g ss) (ht:(bj g ss)[v]? = some t):∃ (i j:Nat) (q r:SQ),t.st = i/\ss[i]? = some q/\(g.T:Int)<=t.sym/\eW ss i t.sym = some (j:Int)/\1<=j/\ss[j]? = some r/\r.1.2 = aF g q.1.2 t.sym:=by
 obtain ⟨i,q,k,e,hi,hq,he,hge,rfl⟩:=iM (V_ ht)
 obtain ⟨_,_,j,r,hj,hj1,hr,hrk,_⟩:=fm hc hA hq he
 exact ⟨i,j,q,r,rfl,hq,hge,by rw [<- hj]; exact ob hA hq he,hj1,hr,hrk⟩
theorem O4 {i:Nat} {s j:Int} (h:eW ss i s = some j) (hs:(g.T:Int)<=s):∃ v:Nat,(bj g ss)[v]? = some ⟨(i:Int),s⟩:=by
 obtain ⟨q,k,e,hq,he,rfl,_⟩:=py h
 exact ⟨_,Ft hq he hs⟩
theorem FJ (hc:ak g) (hA:bm g ss) {v i j x:Nat} {t:aq} (ht:(bj g ss)[v]? = some t) (hi:t.st = i) (hj:eW ss i t.sym = some (j:Int)):(x:Int)∈(pK g ss).getD v []↔(t = ⟨0,g.start⟩/\x = 0)\/(x < g.T/\(eW ss j (x:Int)).isSome):=by
 have hc':=hc.ct
 obtain ⟨i',j',q,r,h1,h2,h3,h4,h5,h6,_⟩:=vU hc hA ht
 have:i' = i:=by omega
 subst this
 rw [hj] at h4
 have:j = j':=by have:=Option.some.inj h4; omega
 subst this
 rw [Rp ht,Cb (j:=j) (q:=r) (by rw [hi]; exact hj) h6,Wd,Om hA h6,Wu]
 refine or_congr ?_ ?_
 ·unfold kD
  by_cases e:t = ⟨0,g.start⟩
  ·rw [Wn e]; simp [e]
  ·rw [Wg e]; simp [e]
 ·constructor
  ·rintro ⟨y,hy,e⟩
   have:y = x:=by have e:(y:Int) = x:=e; omega
   subst this
   obtain ⟨h7,h8⟩:=WN.1 hy
   have h7:=WA.1 h7
   exact ⟨h7,by rw [lx hA h6 (by omega)]; exact h8⟩
  ·rintro ⟨h7,h8⟩
   rw [lx hA h6 (by omega)] at h8
   exact ⟨x,WN.2 ⟨WA.2 h7,h8⟩,rfl⟩
theorem Dk.has (hc:ak g) (hA:bm g ss) (hn:ju g nn) {j x:Nat} (h:Dk g ss j x):∀ (v i:Nat) t,(bj g ss)[v]? = some t->t.st = i->eW ss i t.sym = some (j:Int)->dw (qN g nn ss) (pK g ss) v x:=by
 induction h with
 | now j x hx hs=>exact λv i t ht hi hj=>dw.iff.2 (.inl ((FJ hc hA ht hi hj).2 (.inr ⟨hx,hs⟩)))
 | via j k x s hs hnu hk hr ih =>
  intro v i t ht hi hj
  obtain ⟨u,hu⟩:=O4 (g:=g) hk hs
  refine dw.iff.2 (.inr ⟨u,O2.2 ⟨(V9.1 ht).1,(V9.1 hu).1,?_⟩,ih u j _ hu rfl hk⟩)
  unfold iN
  rw [ht,hu]
  simp only [Wo,Wk]
  rw [hi]
  exact ⟨hj,(xJ hn hs).2 hnu⟩
theorem TE {v u:Nat} {t:aq} (ht:(bj g ss)[v]? = some t) (h:u∈En (qN g nn ss) v):∃ t',(bj g ss)[u]? = some t'/\eW ss t.st.toNat t.sym = some t'.st/\uz g nn t'.sym = true:=by
 obtain ⟨_,h2,h3⟩:=O2.1 h
 have hu:(bj g ss)[u]? = some (bj g ss)[u]:=Wa h2
 unfold iN at h3
 rw [ht,hu] at h3
 simp only [Wo,Wk] at h3
 exact ⟨_,hu,h3⟩
theorem Rq (hc:ak g) (hA:bm g ss) (hn:ju g nn) {v x:Nat} (h:dw (qN g nn ss) (pK g ss) v x):∀ (i j:Nat) t,(bj g ss)[v]? = some t->t.st = i->eW ss i t.sym = some (j:Int)->(t = ⟨0,g.start⟩/\x = 0)\/Dk g ss j x:=by
 refine dw.least (Q:=λv x=>∀ (i j:Nat) t,(bj g ss)[v]? = some t->t.st = i->eW ss i t.sym = some (j:Int)->(t = ⟨0,g.start⟩/\x = 0)\/Dk g ss j x) (λv x hx i j t ht hi hj=>?_) (λv u x hu ih i j t ht hi hj=>?_) h
 ·rcases (FJ hc hA ht hi hj).1 hx with h | ⟨h1,h2⟩
  ·exact .inl h
  ·exact .inr (.now j x h1 h2)
 ·obtain ⟨t',ht',h1,h2⟩:=TE ht hu
  obtain ⟨i2,j2,_,_,e1,_,e3,e4,_⟩:=vU hc hA ht'
  rw [hi,Ws,hj] at h1
  have e5:i2 = j:=by have:=Option.some.inj h1; omega
  subst e5
  rcases ih i2 j2 t' ht' e1 e4 with ⟨rfl,_⟩ | h3
  ·obtain ⟨i',j',_,_,f1,_,_,f4,f5,_⟩:=vU hc hA ht
   have:i' = i:=by omega
   subst this
   rw [hj] at f4
   have:=Option.some.inj f4
   have e1:(0:Int) = i2:=e1
   omega
  ·exact .inr (.via i2 j2 x t'.sym e3 ((xJ hn e3).1 h2) e4 h3)
theorem JF {v:Nat} (hv:v < (bj g ss).length):(JD g nn ss).getD v [] = mY (qN g nn ss) (pK g ss) v:=by
 unfold JD; rw [Wb,xI (by rw [Cu]; exact hv)]; rfl
theorem O5 {v:Nat} (hv:v < (bj g ss).length):(CO g nn ss).getD v [] = mY (uA g nn ss) (JD g nn ss) v:=by
 unfold CO; rw [Wb,xI (by rw [Cv]; exact hv)]; rfl
theorem O6 {α : Type} {l:List (List α)} {v:Nat} (h:¬ v < l.length):l.getD v [] = []:=by
 rw [Wb,Wt (by omega)]; rfl
end
end Go.V
namespace Go.V
open Go.Proofs.YtndaepmjkbmjmaaGreatDoor
section
variable {g:af} {nn:List Bool} {ss:List SQ} {w w' : World} {v:Value} {a i f:Int}
theorem UI (hc:ak g) (hA:bm g ss) {v x:Nat} (h:dw (qN g nn ss) (pK g ss) v x):x < g.T:=by
 refine dw.least (Q:=λ_ x=>x < g.T) (λv x hx=>?_) (λ_ _ _ _ h=>h) h
 by_cases hv:v < (pK g ss).length
 ·rw [Wb,Wa hv] at hx
  have:=(KU hc hA (List.getElem_mem hv)).2.2 _ hx
  omega
 ·rw [O6 hv] at hx; simp at hx
theorem HN {fs:List (List Int)} {b:iO} {z:Int}:z∈(dV g fs b).tm↔∃ x:Nat,z = x/\x < g.T/\∃ t∈b.tr,(x:Int)∈fs.getD t.toNat []:=by
 unfold dV
 rw [cJ]
 simp
theorem Eh {fs:List (List Int)} {b:iO}:ja (dV g fs b).tm:=oh _ _
theorem HO {fs:List (List Int)} {b:iO}:(dV g fs b).tm.length<=g.T:=jO _ _
end
end Go.V
namespace Go.V
section
variable {n k i j:Nat} {f f0:Nat->List Int} {L:List ay} {A:ay} {w w' w0:World}
theorem Rr {l:List Int} (h:ja l):l.Nodup:=WY.2 (h.imp λh e=>by omega)
theorem JG {l:List Int} {B:Nat} (h:ja l) (hb:∀ z∈l,0<=z/\z < B):l.length<=B:=by
 have e:l = bX B λk=>decide ((k:Int)∈l):=by
  refine xt h (oh _ _) λz=>?_
  rw [cJ]
  constructor
  ·intro hz
   have:=hb z hz
   exact ⟨z.toNat,by omega,by omega,by rw [Wk,show ((z.toNat:Nat):Int) = z by omega]; exact hz⟩
  ·rintro ⟨k,rfl,_,hk⟩
   exact V7 hk
 rw [e]
 exact jO _ _
end
end Go.V
namespace Go.V
section
variable {α : Type} {k:α->Int} {l m:List α}
abbrev jP (k:α->Int) (l:List α):Prop:=l.Pairwise λx y=>k x<=k y
theorem fF:jP k (l ++ m)↔jP k l/\jP k m/\∀ x∈l,∀ y∈m,k x<=k y:=X_
theorem O7 (h:jP k l) {z:α} (hz:l.getLast? = some z):∀ x∈l,k x<=k z:=λx hx=>by
 obtain ⟨i,hi⟩:=WH hx
 rw [X7] at hz
 have h1:=(V9.1 hi).1
 by_cases e:i = l.length - 1
 ·subst e; rw [hi] at hz; cases hz; omega
 ·obtain ⟨h2,rfl⟩:=V9.1 hi
  obtain ⟨h3,rfl⟩:=V9.1 hz
  exact List.pairwise_iff_getElem.1 h i _ h2 h3 (by omega)
theorem O8 (h:jP k l) {z:α} (hz:l.head? = some z):∀ x∈l,k z<=k x:=λx hx=>by
 cases l with
 | nil=>cases hx
 | cons a l =>
  cases hz
  rcases Wp.1 hx with rfl | hx
  ·omega
  ·exact (W_.1 h).1 x hx
theorem tY (hl:jP k l) (hm:jP k m) (h:∀ x y,l.getLast? = some x->m.head? = some y->k x<=k y):∀ x∈l,∀ y∈m,k x<=k y:=λx hx y hy=>by
 obtain ⟨a,ha⟩ : ∃ a,l.getLast? = some a:=⟨_,List.getLast?_eq_some_getLast (List.ne_nil_of_mem hx)⟩
 obtain ⟨b,hb⟩ : ∃ b,m.head? = some b:=⟨_,List.head?_eq_some_head (List.ne_nil_of_mem hy)⟩
 have h1:=O7 hl ha x hx
 have h2:=O8 hm hb y hy
 have h3:=h a b ha hb
 omega
theorem JH {L1 L2 R1 R2 S1 S2:List α} (hL:jP k (L1 ++ L2)) (hR:jP k (R1 ++ R2)) (h1:∀ x y,L1.getLast? = some x->R2.head? = some y->k x<=k y) (h2:∀ x y,R1.getLast? = some x->L2.head? = some y->k x<=k y)
  (p1:S1.Perm (L1 ++ R1)) (s1:jP k S1) (p2:S2.Perm (L2 ++ R2)) (s2:jP k S2):jP k (S1 ++ S2)/\(S1 ++ S2).Perm ((L1 ++ L2) ++ (R1 ++ R2)):=by
 obtain ⟨a1,a2,a3⟩:=fF.1 hL
 obtain ⟨b1,b2,b3⟩:=fF.1 hR
 have c1:=tY a1 b2 h1
 have c2:=tY b1 a2 h2
 refine ⟨fF.2 ⟨s1,s2,λx hx y hy=>?_⟩,?_⟩
 ·rcases Wd.1 (p1.mem_iff.1 hx) with hx | hx <;> rcases Wd.1 (p2.mem_iff.1 hy) with hy | hy
  ·exact a3 x hx y hy
  ·exact c1 x hx y hy
  ·exact c2 x hx y hy
  ·exact b3 x hx y hy
 ·refine (p1.append p2).trans ?_
  rw [Wj,Wj]
  refine XQ _ ?_
  rw [<- Wj,<- Wj]
  exact List.Perm.append_right _ List.perm_append_comm
theorem FK {R1 R2:List α} {x:α} (hR:jP k (R1 ++ R2)) (h1:∀ y,R1.getLast? = some y->k y<=k x) (h2:∀ y,R2.head? = some y->k x<=k y):jP k (R1 ++ x :: R2):=by
 obtain ⟨b1,b2,b3⟩:=fF.1 hR
 refine fF.2 ⟨b1,W_.2 ⟨λy hy=>?_,b2⟩,λy hy z hz=>?_⟩
 ·exact tY (l:=[x]) (List.pairwise_singleton _ _) b2 (λa b ha hb=>by cases ha; exact h2 b hb) x (by simp) y hy
 ·rcases Wp.1 hz with rfl | hz
  ·exact tY b1 (m:=[z]) (List.pairwise_singleton _ _) (λa b ha hb=>by cases hb; exact h1 a ha) y hy z (by simp)
  ·exact b3 y hy z hz
theorem xL {P M Q:List α} {x y:α} {i j:Nat} (hi:i = P.length) (hj:j = P.length + 1 + M.length):((P ++ x :: (M ++ y :: Q)).set i y).set j x = P ++ y :: (M ++ x :: Q):=by
 subst hi hj
 rw [Xy _ _ (Wr _),Xe,List.set_cons_zero,Xy _ _ (by omega),show P.length + 1 + M.length - P.length = M.length + 1 by omega,List.set_cons_succ,Xy _ _ (Wr _),Xe,List.set_cons_zero]
theorem mr {P Q:List α} {x:α} {i:Nat} (hi:i = P.length):(P ++ x :: Q)[i]? = some x:=by
 subst hi; rw [Wm (Wr _),Xe]; rfl
end
end Go.V
namespace Go.V
open Go.Proofs.YtndaepmjkbmjmaaGreatDoor
structure bV where
 kind:Int
 to:Int
deriving DecidableEq
instance:Inhabited bV:=⟨⟨0,0⟩⟩
structure dW where
 st:Int
 tm:Int
deriving DecidableEq
structure iS where
 st:Int
 tm:Int
 acts:List bV
deriving DecidableEq
instance:Inhabited iS:=⟨⟨0,0,[]⟩⟩
section
variable {g:af} {nn:List Bool} {ss ss' : List SQ} {α : Type}
def wg (ss:List SQ) (q t:Nat):List bV:=match eW ss q (t:Int) with
 | some j=>[⟨1,j⟩]
 | none=>[]
def KZ (ss:List SQ) (q t:Nat):List bV:=match ss[q]? with
 | some r=>if t = 0/\(⟨0,1⟩ : ag)∈r.1.2 then [⟨3,0⟩] else []
 | none=>[]
def FL (ls:List bG) (q t:Nat):List bV:=(ls.filter λl=>decide (l.st = (q:Int)) && decide ((t:Int)∈l.tm)).map λl=>⟨2,l.prod⟩
noncomputable def dM (g:af) (nn:List Bool) (ss:List SQ) (q t:Nat):List bV:=wg ss q t ++ KZ ss q t ++ FL (bq g nn ss) q t
noncomputable def cellAt (g:af) (nn:List Bool) (ss:List SQ) (least q t:Nat):List iS:=if least<=(dM g nn ss q t).length then [⟨(q:Int),(t:Int),dM g nn ss q t⟩] else []
noncomputable def iT (g:af) (nn:List Bool) (ss:List SQ) (least q n:Nat):List iS:=(List.range n).flatMap (cellAt g nn ss least q)
noncomputable def iU (g:af) (nn:List Bool) (ss:List SQ) (least n:Nat):List iS:=(List.range n).flatMap λq=>iT g nn ss least q g.T
noncomputable def dj (g:af) (nn:List Bool) (ss:List SQ) (least:Nat):List iS:=iU g nn ss least ss.length
theorem jo {least q n:Nat}:iT g nn ss least q (n + 1) = iT g nn ss least q n ++ cellAt g nn ss least q n:=by unfold iT; rw [Xi,WU]; simp
theorem pM {least n:Nat}:iU g nn ss least (n + 1) = iU g nn ss least n ++ iT g nn ss least n g.T:=by unfold iU; rw [Xi,WU]; simp
abbrev zc:=List (dW × bV)
def mu (g:af) (q:Nat) (es:List aO):zc:=(es.filter λe=>decide (e.sym < (g.T:Int))).map λe=>(⟨(q:Int),e.sym⟩,⟨1,e.to⟩)
def tq (q:Nat) (K:List ag):zc:=if (⟨0,1⟩ : ag)∈K then [(⟨(q:Int),0⟩,⟨3,0⟩)] else []
def xM (g:af) (ss:List SQ) (q:Nat):zc:=match ss[q]? with
 | some r=>mu g q r.2.2 ++ tq q r.1.2
 | none=>[]
def lA (g:af) (ss:List SQ) (n:Nat):zc:=(List.range n).flatMap (xM g ss)
def tt (l:bG) (n:Nat):zc:=(l.tm.take n).map λt=>(⟨l.st,t⟩,⟨2,l.prod⟩)
def oz (ls:List bG) (n:Nat):zc:=(ls.take n).flatMap λl=>tt l l.tm.length
theorem Cy {n:Nat}:lA g ss (n + 1) = lA g ss n ++ xM g ss n:=by unfold lA; rw [Xi,WU]; simp
theorem Cz {q:Nat} {es:List aO} {e:aO}:mu g q (es ++ [e]) = if e.sym < (g.T:Int) then mu g q es ++ [(⟨(q:Int),e.sym⟩,⟨1,e.to⟩)] else mu g q es:=by
 unfold mu
 rw [WK,WB]
 by_cases h:e.sym < (g.T:Int) <;> simp [h]
theorem JI {l:bG} {n:Nat} {t:Int} (h:l.tm[n]? = some t):tt l (n + 1) = tt l n ++ [(⟨l.st,t⟩,⟨2,l.prod⟩)]:=by
 unfold tt; rw [Wf,h]; simp
theorem CA {ls:List bG} {n:Nat} {l:bG} (h:ls[n]? = some l):oz ls (n + 1) = oz ls n ++ tt l l.tm.length:=by
 unfold oz; rw [Wf,h,WU]; simp
def CP (ps:zc) (p:dW):List bV:=(ps.filter λx=>decide (x.1 = p)).map (·.2)
theorem AQ {ps qs:zc} {p:dW}:CP (ps ++ qs) p = CP ps p ++ CP qs p:=by unfold CP; rw [WK,WB]
theorem CB {ps:zc} {p:dW} (h:∀ x∈ps,x.1≠p):CP ps p = []:=by
 unfold CP; rw [Xv.2 λx hx=>by simpa using h x hx]; rfl
theorem HP {β : Type} {l:List β} {f:β->zc} {p:dW}:CP (l.flatMap f) p = l.flatMap λx=>CP (f x) p:=by
 induction l with
 | nil=>rfl
 | cons a l ih=>rw [WS,WS,AQ,ih]
theorem HQ {f:Nat->List α} {q:Nat} (h:∀ i,i≠q->f i = []):∀ n,q < n->(List.range n).flatMap f = f q
 | 0,hq=>by omega
 | n + 1,hq=>by
  rw [Xi,WU]
  by_cases e:q = n
  ·subst e
   have:(List.range q).flatMap f = []:=List.flatMap_eq_nil_iff.2 λi hi=>h i (by have:=WA.1 hi; omega)
   rw [this]; simp
  ·rw [HQ h n (by omega)]
   simp [h n (XG e)]
theorem O9 {q:Nat} {r:SQ} {s:Int} (hr:ss[q]? = some r):eW ss q s = (r.2.2.find? λe=>decide (e.sym = s)).map (·.to):=n_ hr s
theorem Ei:∀ {es:List aO} {s:Int},(es.map (·.sym)).Nodup->(es.filter λe=>decide (e.sym = s)) = (es.find? λe=>decide (e.sym = s)).toList
 | [],s,_=>rfl
 | e :: es,s,h=>by
  rw [WV,W5] at h
  by_cases he:e.sym = s
  ·rw [Ye (by simpa using he),List.find?_cons_of_pos (by simpa using he)]
   have:(es.filter λe=>decide (e.sym = s)) = []:=Xv.2 λx hx=>by
    simp only [Wk]
    intro e2
    exact h.1 (by rw [he,<- e2]; exact List.mem_map_of_mem hx)
   rw [this]; rfl
  ·rw [Yf (by simpa using he),List.find?_cons_of_neg (by simpa using he)]
   exact Ei h.2
theorem VW (hA:bm g ss) {q t:Nat} {r:SQ} (hr:ss[q]? = some r) (ht:t < g.T):CP (mu g q r.2.2) ⟨(q:Int),(t:Int)⟩ = wg ss q t:=by
 unfold wg
 rw [O9 hr]
 have hnd:=B9 hA hr
 unfold CP mu
 rw [List.filter_map,List.filter_filter,XK]
 have e:(r.2.2.filter λe=>(((λx:dW × bV=>decide (x.1 = ⟨(q:Int),(t:Int)⟩)) ∘ λe:aO=>((⟨(q:Int),e.sym⟩ : dW),(⟨1,e.to⟩ : bV))) e) && decide (e.sym < (g.T:Int))) = r.2.2.filter λe=>decide (e.sym = (t:Int)):=by
  refine Xk λe _=>?_
  show (decide ((⟨(q:Int),e.sym⟩ : dW) = ⟨(q:Int),(t:Int)⟩) && _) = _
  by_cases h:e.sym = (t:Int)
  ·rw [h,WI rfl,WI (by omega),WI rfl]; rfl
  ·rw [W2 (by simp [h]),W2 h]; rfl
 rw [e,Ei hnd]
 cases r.2.2.find? λe=>decide (e.sym = (t:Int)) with
 | none=>rfl
 | some e=>rfl
theorem VX (hA:bm g ss) {q t:Nat} {r:SQ} (hr:ss[q]? = some r) (ht:t < g.T):CP (xM g ss q) ⟨(q:Int),(t:Int)⟩ = wg ss q t ++ KZ ss q t:=by
 unfold xM KZ
 rw [hr]
 show CP (mu g q r.2.2 ++ tq q r.1.2) _ = _
 rw [AQ,VW hA hr ht]
 congr 1
 show _ = if t = 0/\(⟨0,1⟩ : ag)∈r.1.2 then [(⟨3,0⟩ : bV)] else []
 unfold tq
 by_cases h:(⟨0,1⟩ : ag)∈r.1.2
 ·rw [Wn h]
  by_cases h2:t = 0
  ·subst h2; rw [Wn ⟨rfl,h⟩]; simp [CP]
  ·rw [Wg (λhh=>h2 hh.1)]; exact CB λx hx=>by simp at hx; subst hx; simp; omega
 ·rw [Wg h,Wg (λhh=>h hh.2)]; rfl
theorem O_ {q:Nat} {x:dW × bV} (h:x∈xM g ss q):x.1.st = (q:Int):=by
 unfold xM at h
 split at h
 ·rcases Wd.1 h with h | h
  ·unfold mu at h
   obtain ⟨e,_,rfl⟩:=Wu.1 h
   rfl
  ·unfold tq at h
   split at h
   ·simp at h; subst h; rfl
   ·simp at h
 ·simp at h
theorem VY (hA:bm g ss) {q t:Nat} (hq:q < ss.length) (ht:t < g.T):CP (lA g ss ss.length) ⟨(q:Int),(t:Int)⟩ = wg ss q t ++ KZ ss q t:=by
 unfold lA
 rw [HP,HQ (q:=q) (λi hi=>CB λx hx e=>hi (by have:=O_ hx; rw [e] at this; simp at this; omega)) _ hq]
 exact VX hA (Wa hq) ht
theorem VZ {l:bG} {q t:Nat} (hr:ja l.tm):CP (tt l l.tm.length) ⟨(q:Int),(t:Int)⟩ = if l.st = (q:Int)/\(t:Int)∈l.tm then [⟨2,l.prod⟩] else []:=by
 unfold CP tt
 rw [Ww,List.filter_map,XK]
 by_cases h:l.st = (q:Int)/\(t:Int)∈l.tm
 ·rw [Wn h]
  have e:(l.tm.filter ((λx:dW × bV=>decide (x.1 = ⟨(q:Int),(t:Int)⟩)) ∘ λt=>((⟨l.st,t⟩ : dW),(⟨2,l.prod⟩ : bV)))) = [(t:Int)]:=by
   have key:∀ {l:List Int},l.Nodup->(t:Int)∈l->(l.filter λx=>decide (x = (t:Int))) = [(t:Int)]:=by
    intro l
    induction l with
    | nil=>intro _ h; cases h
    | cons a l ih =>
     intro hn hm
     obtain ⟨h1,h2⟩:=W5.1 hn
     by_cases ea:a = (t:Int)
     ·subst ea
      rw [Ye (by simp),Xv.2 λx hx=>by simp; intro e; exact h1 (e ▸ hx)]
     ·rw [Yf (by simpa using ea)]
      exact ih h2 ((Wp.1 hm).resolve_left (XG ea))
   rw [<- key (Rr hr) h.2]
   refine Xk λx _=>?_
   show decide ((⟨l.st,x⟩ : dW) = ⟨(q:Int),(t:Int)⟩) = _
   rw [h.1]; simp
  rw [e]; rfl
 ·rw [Wg h,Xv.2 λx hx=>?_]; rfl
  show ¬ decide ((⟨l.st,x⟩ : dW) = ⟨(q:Int),(t:Int)⟩) = true
  simp only [dW.mk.injEq,Wk]
  rintro ⟨h1,h2⟩
  exact h ⟨h1,h2 ▸ hx⟩
theorem V0 {ls:List bG} {q t:Nat} (hr:∀ l∈ls,ja l.tm):CP (oz ls ls.length) ⟨(q:Int),(t:Int)⟩ = FL ls q t:=by
 unfold oz FL
 rw [Ww,HP]
 induction ls with
 | nil=>rfl
 | cons l ls ih =>
  rw [WS,VZ (hr l (by simp)),ih λl hl=>hr l (by simp [hl])]
  by_cases h:l.st = (q:Int)/\(t:Int)∈l.tm
  ·rw [Wn h,Ye (by simp [h.1,h.2])]; rfl
  ·rw [Wg h,Yf (by simpa using h)]; rfl
theorem HR {k:α->Int}:∀ {l m:List α},l.Perm m->(l.Pairwise λx y=>k x < k y)->(m.Pairwise λx y=>k x < k y)->l = m
 | [],m,p,_,_=>(p.symm.eq_nil).symm
 | a :: l,[],p,_,_=>absurd p.eq_nil (by simp)
 | a :: l,b :: m,p,hl,hm=>by
  obtain ⟨h1,h2⟩:=W_.1 hl
  obtain ⟨h3,h4⟩:=W_.1 hm
  have e:a = b:=by
   rcases Wp.1 (p.mem_iff.1 (List.mem_cons_self)) with h | h
   ·exact h
   ·rcases Wp.1 (p.mem_iff.2 (List.mem_cons_self)) with h' | h'
    ·exact h'.symm
    ·have:=h3 a h; have:=h1 b h'; omega
  subst e
  rw [HR ((List.perm_cons a).1 p) h2 h4]
theorem zd (q:Nat):((bq g nn ss).filter λl=>decide (l.st = (q:Int))).Pairwise λx y=>x.prod < y.prod:=by
 have key:∀ n,((Ah g ss n).filter λb=>decide (b.st = (q:Int))) = if q < n then di g ss q g.prods.length else []:=by
  intro n
  induction n with
  | zero=>rw [Wg (by omega)]; rfl
  | succ n ih =>
   rw [tX,WK,ih]
   have hst:∀ b∈di g ss n g.prods.length,b.st = (n:Int):=λb hb=>by obtain ⟨m,_,_,rfl⟩:=oy.1 hb; rfl
   by_cases e:q = n
   ·subst e
    rw [Wg (by omega),Wn (by omega),WT,List.filter_eq_self.2 λb hb=>by simpa using hst b hb]
   ·have:((di g ss n g.prods.length).filter λb=>decide (b.st = (q:Int))) = []:=Xv.2 λb hb=>by rw [hst b hb]; simp; omega
    rw [this,WG]
    by_cases h:q < n
    ·rw [Wn h,Wn (by omega)]
    ·rw [Wg h,Wg (by omega)]
 have hk:=key ss.length
 have e:((bq g nn ss).filter λl=>decide (l.st = (q:Int))) = (((pB g ss).filter λb=>decide (b.st = (q:Int)))).map (dV g (CO g nn ss)):=by
  unfold bq
  rw [List.filter_map]; rfl
 rw [e,W3]
 show List.Pairwise _ ((Ah g ss ss.length).filter _)
 rw [hk]
 by_cases h:q < ss.length
 ·rw [Wn h]
  have h2:=vR (g:=g) (ss:=ss) q g.prods.length
  unfold ja at h2
  rw [W3] at h2
  exact h2
 ·rw [Wg h]; exact .nil
theorem Rs {ls:List bG} (p:ls.Perm (bq g nn ss)) (h:jP (·.prod) ls) (q t:Nat):FL ls q t = FL (bq g nn ss) q t:=by
 have e:∀ m:List bG,FL m q t = ((m.filter λl=>decide (l.st = (q:Int))).filter λl=>decide ((t:Int)∈l.tm)).map λl=>⟨2,l.prod⟩:=λm=>by
  unfold FL
  rw [List.filter_filter]
  congr 1
  refine Xk λl _=>?_
  rw [Bool.and_comm]
 rw [e,e]
 congr 2
 have hp:=p.filter λl=>decide (l.st = (q:Int))
 have hS:=zd (g:=g) (nn:=nn) (ss:=ss) q
 refine HR (k:=(·.prod)) hp ?_ hS
 have h1:(ls.filter λl=>decide (l.st = (q:Int))).Pairwise λx y=>x.prod<=y.prod:=List.Pairwise.filter _ h
 have h2:((ls.filter λl=>decide (l.st = (q:Int))).map (·.prod)).Nodup:=by
  refine (hp.map (·.prod)).nodup_iff.2 ?_
  rw [WY,W3]
  exact hS.imp λh e=>by omega
 rw [WY,W3] at h2
 exact h1.imp₂ (λ_ _ a b=>by omega) h2
theorem UJ (hA:bm g ss) {ls:List bG} (p:ls.Perm (bq g nn ss)) (h:jP (·.prod) ls) {q t:Nat} (hq:q < ss.length) (ht:t < g.T):CP (lA g ss ss.length ++ oz ls ls.length) ⟨(q:Int),(t:Int)⟩ = dM g nn ss q t:=by
 rw [AQ,VY hA hq ht,V0,Rs p h]
 ·rfl
 ·intro l hl
  obtain ⟨b,_,rfl⟩:=Wu.1 (p.mem_iff.1 hl)
  exact Eh
end
end Go.V
namespace Go.V
open Go.Proofs.YtndaepmjkbmjmaaGreatDoor
section
variable {g:af} {nn:List Bool} {ss:List SQ} {least:Nat}
theorem CC {q t:Nat} {c:iS}:c∈cellAt g nn ss least q t↔least<=(dM g nn ss q t).length/\c = ⟨(q:Int),(t:Int),dM g nn ss q t⟩:=by
 unfold cellAt
 split
 ·rename_i h; simp [h]
 ·rename_i h; simp [h]
theorem tZ {q n:Nat} {c:iS}:c∈iT g nn ss least q n↔∃ t,t < n/\least<=(dM g nn ss q t).length/\c = ⟨(q:Int),(t:Int),dM g nn ss q t⟩:=by
 unfold iT
 rw [Xx]
 exact exists_congr λt=>by rw [WA,CC]
theorem Ej {n:Nat} {c:iS}:c∈iU g nn ss least n↔∃ q t,q < n/\t < g.T/\least<=(dM g nn ss q t).length/\c = ⟨(q:Int),(t:Int),dM g nn ss q t⟩:=by
 unfold iU
 rw [Xx]
 constructor
 ·rintro ⟨q,hq,h⟩
  obtain ⟨t,h1,h2,h3⟩:=tZ.1 h
  exact ⟨q,t,WA.1 hq,h1,h2,h3⟩
 ·rintro ⟨q,t,hq,h1,h2,h3⟩
  exact ⟨q,WA.2 hq,tZ.2 ⟨t,h1,h2,h3⟩⟩
def iS.lt (a b:iS):Prop:=a.st < b.st\/a.st = b.st/\a.tm < b.tm
theorem Ek {q:Nat}:∀ n,(iT g nn ss least q n).Pairwise iS.lt
 | 0=>by simp [iT]
 | n + 1=>by
  rw [jo,X_]
  refine ⟨Ek n,?_,λa ha b hb=>?_⟩
  ·unfold cellAt; split <;> simp
  ·obtain ⟨t,h1,_,rfl⟩:=tZ.1 ha
   obtain ⟨_,rfl⟩:=CC.1 hb
   exact .inr ⟨rfl,by show (t:Int) < n; omega⟩
theorem El:∀ n,(iU g nn ss least n).Pairwise iS.lt
 | 0=>by simp [iU]
 | n + 1=>by
  rw [pM,X_]
  refine ⟨El n,Ek _,λa ha b hb=>?_⟩
  obtain ⟨q,t,h1,_,_,rfl⟩:=Ej.1 ha
  obtain ⟨t',_,_,rfl⟩:=tZ.1 hb
  exact .inl (by show (q:Int) < n; omega)
theorem ze {q n:Nat}:(iT g nn ss least q n).length<=n:=by
 induction n with
 | zero=>simp [iT]
 | succ n ih =>
  rw [jo,We]
  have:(cellAt g nn ss least q n).length<=1:=by unfold cellAt; split <;> simp
  omega
theorem zf {n:Nat}:(iU g nn ss least n).length<=n * g.T:=by
 induction n with
 | zero=>simp [iU]
 | succ n ih =>
  rw [pM,We,Xz]
  have:=ze (g:=g) (nn:=nn) (ss:=ss) (least:=least) (q:=n) (n:=g.T)
  omega
theorem K1 (q t:Nat):(wg ss q t).length<=1:=by unfold wg; split <;> simp
theorem K2 (q t:Nat):(KZ ss q t).length<=1:=by unfold KZ; split; split <;> simp; simp
theorem Rt {q t:Nat}:(FL (bq g nn ss) q t).Pairwise λx y=>x.to < y.to:=by
 have e:FL (bq g nn ss) q t = (((bq g nn ss).filter λl=>decide (l.st = (q:Int))).filter λl=>decide ((t:Int)∈l.tm)).map λl=>⟨2,l.prod⟩:=by
  unfold FL
  rw [List.filter_filter]
  congr 1
  refine Xk λl _=>?_
  rw [Bool.and_comm]
 rw [e,W3]
 exact List.Pairwise.filter _ (zd q)
theorem xN {l:bG} (h:l∈bq g nn ss):∃ q m:Nat,q < ss.length/\m < g.prods.length/\m≠0/\l = dV g (CO g nn ss) ⟨(q:Int),(m:Int),bX (bj g ss).length (dv g ss q m)⟩:=by
 obtain ⟨b,hb,rfl⟩:=Wu.1 h
 obtain ⟨q,m,hq,hm,rfl,hne⟩:=FI hb
 refine ⟨q,m,hq,hm,λe=>?_,rfl⟩
 subst e
 obtain ⟨z,hz⟩:=Xu _ hne
 obtain ⟨u,_,hu,hb⟩:=cJ.1 hz
 have ht:(bj g ss)[u]? = some (bj g ss)[u]:=Wa hu
 obtain ⟨hmm,_⟩:=(jm ht).1 hb
 have:=(iP.1 hmm).1
 omega
theorem Ru {q t:Nat}:(FL (bq g nn ss) q t).length<=g.prods.length:=by
 have h:=Rt (g:=g) (nn:=nn) (ss:=ss) (q:=q) (t:=t)
 have h1:ja ((FL (bq g nn ss) q t).map (·.to)):=by unfold ja; rw [W3]; exact h
 have h2:=JG (B:=g.prods.length) h1 λz hz=>by
  obtain ⟨x,hx,rfl⟩:=Wu.1 hz
  unfold FL at hx
  obtain ⟨l,hl,rfl⟩:=Wu.1 hx
  obtain ⟨_,m,_,hm,_,rfl⟩:=xN (WN.1 hl).1
  exact ⟨WJ _,by show (m:Int) < _; omega⟩
 rwa [Wh] at h2
theorem HS {q t:Nat}:(dM g nn ss q t).length<=g.prods.length + 2:=by
 unfold dM
 have h1:=K1 (ss:=ss) q t
 have h2:=K2 (ss:=ss) q t
 have h3:=Ru (g:=g) (nn:=nn) (ss:=ss) (q:=q) (t:=t)
 simp only [We]
 omega
end
end Go.V
namespace Go.Proofs.YtndaepmjkbmjmaaGreatDoor
open Go.V
abbrev tu:FuncId:=15
def zg:bn:={ rngs:=[],loops:=[],joins:=[],blocks:=[] }
theorem zh {a:Yg} {b c:Nat} {d:Yg} {e f:Nat} {g:Yg} {i j:Nat} {k:Int} {l:Yg} {m n:Nat} {w:World} {R:Value->WP} (h:new w (oC [vS a b c,vS d e f,vS g i j,iI k,vS l m n] 27) λk1 w1=>∃ o1 k2 k3 o2 k4 k5 o3 k6 k7 n1 o4 k8 k9,V.rowAt w1 (aM k1) 0 5 = some [vS o1 k2 k3,vS o2 k4 k5,vS o3 k6 k7,iI n1,vS o4 k8 k9]/\rE 42 [vA (Array.mk [vS o1 k2 k3,vS o2 k4 k5,vS o3 k6 k7,iI n1,vS o4 k8 k9]),iI 1] w1 λv1 w2=>∃ o5 k10 k11 n2,v1 = vT (Array.mk [vS o5 k10 k11,iI n2])/\R (vT (Array.mk [vS o5 k10 k11,iI n2])) w2):aA Tryz.prog 15 [(.agg #[(.slice a b c),(.slice d e f),(.slice g i j),(.int .i64 k),(.slice l m n)])] w R:=rv Tryz.func15 zg (by kernel_rfl) h
abbrev p9:FuncId:=21
def xO:bn:={ rngs:=[],loops:=[],joins:=[],blocks:=[] }
theorem xP {a:Yg} {b c:Nat} {d:Yg} {e f:Nat} {g:Yg} {i j:Nat} {k:Int} {l:Yg} {m n:Nat} {w:World} {R:Value->WP} (h:new w (oC [vS a b c,vS d e f,vS g i j,iI k,vS l m n] 27) λk1 w1=>∃ o1 k2 k3 o2 k4 k5 o3 k6 k7 n1 o4 k8 k9,V.rowAt w1 (aM k1) 0 5 = some [vS o1 k2 k3,vS o2 k4 k5,vS o3 k6 k7,iI n1,vS o4 k8 k9]/\rE 42 [vA (Array.mk [vS o1 k2 k3,vS o2 k4 k5,vS o3 k6 k7,iI n1,vS o4 k8 k9]),iI 2] w1 λv1 w2=>∃ o5 k10 k11 n2,v1 = vT (Array.mk [vS o5 k10 k11,iI n2])/\R (vT (Array.mk [vS o5 k10 k11,iI n2])) w2):aA Tryz.prog 21 [(.agg #[(.slice a b c),(.slice d e f),(.slice g i j),(.int .i64 k),(.slice l m n)])] w R:=rv Tryz.func21 xO (by kernel_rfl) h
abbrev tw:FuncId:=23
def zi:bn:={ rngs:=[],loops:=[],joins:=[],blocks:=[] }
theorem zj {a:Yg} {b c:Nat} {d:Yg} {e f:Nat} {g:Yg} {i j:Nat} {k:Int} {l:Yg} {m n:Nat} {o p:Int} {w:World} {R:Value->WP} (h:new w (oC [vS a b c,vS d e f,vS g i j,iI k,vS l m n] 27) λk1 w1=>∃ o1 k2 k3 o2 k4 k5 o3 k6 k7 n1 o4 k8 k9,V.rowAt w1 (aM k1) 0 5 = some [vS o1 k2 k3,vS o2 k4 k5,vS o3 k6 k7,iI n1,vS o4 k8 k9]/\rE 48 [vA (Array.mk [vS o1 k2 k3,vS o2 k4 k5,vS o3 k6 k7,iI n1,vS o4 k8 k9])] w1 λv1 w2=>∃ o5 n2 n3,v1 = vT (Array.mk [Value.map o5,iI n2,iI n3])/\br (n3 != 0) (R (vT (Array.mk [vS none 0 0,iI n3])) w2) (br (decide (o < 0)) (R (vT (Array.mk [vS none 0 0,iI 1])) w2) (br (decide (n2<=o)) (R (vT (Array.mk [vS none 0 0,iI 1])) w2) (br (decide (p < 0)) (R (vT (Array.mk [vS none 0 0,iI 1])) w2) (∃ o6 k10 k11,World.cell? w2 (aM k1) = some (vS o6 k10 k11)/\br (decide ((k10:Int)<=p)) (R (vT (Array.mk [vS none 0 0,iI 1])) w2) (aX Proofs.Tryz.prog (Instr.lookup 91 (Value.map o5) (vG [iI o,iI p]) false) w2 λv2 w3=>∃ o7 k12 k13,v2 = vS o7 k12 k13/\R (vT (Array.mk [vS o7 k12 k13,iI 0])) w3)))))):aA Tryz.prog 23 [(.agg #[(.slice a b c),(.slice d e f),(.slice g i j),(.int .i64 k),(.slice l m n)]),(.int .i64 o),(.int .i64 p)] w R:=rv Tryz.func23 zi (by kernel_rfl) h
abbrev Dl:FuncId:=42
def Al:bn:={ rngs:=[],loops:=[(6,[(9,(.one .slice)),(23,(.one (.int .i64)))]),(9,[(9,(.one .slice)),(29,(.one (.int .i64)))])],joins:=[],blocks:=[] }
theorem Am {a:Yg} {b c:Nat} {d:Yg} {e f:Nat} {g:Yg} {i j:Nat} {k:Int} {l:Yg} {m n:Nat} {o:Int} {w:World} {R:Value->WP} (h:new w (oC [vS a b c,vS d e f,vS g i j,iI k,vS l m n] 27) λk1 w1=>∃ o1 k2 k3 o2 k4 k5 o3 k6 k7 n1 o4 k8 k9,V.rowAt w1 (aM k1) 0 5 = some [vS o1 k2 k3,vS o2 k4 k5,vS o3 k6 k7,iI n1,vS o4 k8 k9]/\rE 48 [vA (Array.mk [vS o1 k2 k3,vS o2 k4 k5,vS o3 k6 k7,iI n1,vS o4 k8 k9])] w1 λv1 w2=>∃ o5 n2 n3,v1 = vT (Array.mk [Value.map o5,iI n2,iI n3])/\br (n3 != 0) (R (vT (Array.mk [vS none 0 0,iI n3])) w2) (∃ (x1:lP [(9,gD),(23,aD)]),∃ (x2:lN [(9,gD),(23,aD)]),x1 none 0 0 0 w2/\∀ (I1:Nat->Value) (o6:Yg) (k10 k11:Nat) (n4:Int) (w3:World),x1 o6 k10 k11 n4 w3->br (decide (n4 < n2)) (∃ o7 k12 k13,World.cell? w3 (aM k1) = some (vS o7 k12 k13)/\∃ (x3:lP [(9,gD),(29,aD)]),∃ (x4:lN [(9,gD),(29,aD)]),x3 o6 k10 k11 0 w3/\∀ (I2:Nat->Value) (o8:Yg) (k14 k15:Nat) (n5:Int) (w4:World),x3 o8 k14 k15 n5 w4->br (decide (n5 < (k12:Int))) (aX Proofs.Tryz.prog (Instr.lookup 91 (Value.map o5) (vG [iI n4,iI n5]) false) w4 λv2 w5=>∃ o9 k16 k17,v2 = vS o9 k16 k17/\br (decide (o<=(k16:Int))) (new w5 (oC [iI n4,iI n5,vS o9 k16 k17] 60) λk18 w6=>rS (ir 29 (Array.mk [vS o8 k14 k15,vS (some (aM k18)) 1 1])) w6 λv3 w7=>∃ o10 k19 k20,v3 = vS o10 k19 k20/\ax (n5 + 1)/\x3 o10 k19 k20 (n5 + 1) w7/\x4 o10 k19 k20 (n5 + 1) w7 < x4 o8 k14 k15 n5 w4) (ax (n5 + 1)/\x3 o8 k14 k15 (n5 + 1) w5/\x4 o8 k14 k15 (n5 + 1) w5 < x4 o8 k14 k15 n5 w4)) (ax (n4 + 1)/\x1 o8 k14 k15 (n4 + 1) w4/\x2 o8 k14 k15 (n4 + 1) w4 < x2 o6 k10 k11 n4 w3)) (R (vT (Array.mk [vS o6 k10 k11,iI 0])) w3))):aA Tryz.prog 42 [(.agg #[(.slice a b c),(.slice d e f),(.slice g i j),(.int .i64 k),(.slice l m n)]),(.int .i64 o)] w R:=rv Tryz.func42 Al (by kernel_rfl) h
abbrev CD:FuncId:=48
def zk:bn:={ rngs:=[],loops:=[(9,[(37,(.one (.int .i64)))]),(12,[(45,(.one (.int .i64)))]),(22,[(81,(.one (.int .i64)))]),(25,[(88,(.one (.int .i64)))])],joins:=[],blocks:=[] }
theorem zl {a:Yg} {b c:Nat} {d:Yg} {e f:Nat} {g:Yg} {i j:Nat} {k:Int} {l:Yg} {m n:Nat} {w:World} {R:Value->WP} (h:new w (oC [vS a b c,vS d e f,vS g i j,iI k,vS l m n] 27) λk1 w1=>∃ o1 k2 k3 o2 k4 k5 o3 k6 k7 n1 o4 k8 k9,V.rowAt w1 (aM k1) 0 5 = some [vS o1 k2 k3,vS o2 k4 k5,vS o3 k6 k7,iI n1,vS o4 k8 k9]/\rE 26 [vA (Array.mk [vS o1 k2 k3,vS o2 k4 k5,vS o3 k6 k7,iI n1,vS o4 k8 k9])] w1 λv1 w2=>∃ o5 k10 k11 n2 n3 n4,v1 = vT (Array.mk [vA (Array.mk [vS o5 k10 k11,iI n2,iI n3]),iI n4])/\new w2 (oC [vS none 0 0,iI 0,iI 0] 45) λk12 w3=>fV w3 (aM k12) [vS o5 k10 k11,iI n2,iI n3] λw4=>br (n4 != 0) (R (vT (Array.mk [Value.map none,iI 0,iI n4])) w4) (∃ o6 k13 k14 o7 k15 k16 o8 k17 k18 n5 o9 k19 k20,V.rowAt w4 (aM k1) 0 5 = some [vS o6 k13 k14,vS o7 k15 k16,vS o8 k17 k18,iI n5,vS o9 k19 k20]/\rE 27 [vA (Array.mk [vS o6 k13 k14,vS o7 k15 k16,vS o8 k17 k18,iI n5,vS o9 k19 k20])] w4 λv2 w5=>∃ o10 k21 k22 n6,v2 = vT (Array.mk [vS o10 k21 k22,iI n6])/\br (n6 != 0) (R (vT (Array.mk [Value.map none,iI 0,iI n6])) w5) (new w5 (Obj.map (Array.mk []) 0) λk23 w6=>∃ o11 k24 k25,World.cell? w6 (aM k12) = some (vS o11 k24 k25)/\∃ (x1:lP [(37,aD)]),∃ (x2:lN [(37,aD)]),x1 0 w6/\∀ (I1:Nat->Value) (n7:Int) (w7:World),x1 n7 w7->br (decide (n7 < (k24:Int))) (idx o11 k24 n7 2 λa1=>∃ o12 k26 k27 o13 k28 k29,V.rowAt w7 a1 0 2 = some [vS o12 k26 k27,vS o13 k28 k29]/\new w7 (oC [vS none 0 0,vS none 0 0] 54) λk30 w8=>fV w8 (aM k30) [vS o12 k26 k27,vS o13 k28 k29] λw9=>∃ o14 k31 k32,World.cell? w9 (Addr.add (aM k30) 1) = some (vS o14 k31 k32)/\∃ (x3:lP [(45,aD)]),∃ (x4:lN [(45,aD)]),x3 0 w9/\∀ (I2:Nat->Value) (n8:Int) (w10:World),x3 n8 w10->br (decide (n8 < (k31:Int))) (idx o14 k31 n8 2 λa2=>∃ n9 n10,V.rowAt w10 a2 0 2 = some [iI n9,iI n10]/\new w10 (oC [iI 0,iI 0] 56) λk33 w11=>fV w11 (aM k33) [iI n9,iI n10] λw12=>∃ n11,World.cell? w12 (aM k33) = some (iI n11)/\∃ o15 k34 k35,World.cell? w12 (aM k1) = some (vS o15 k34 k35)/\br (decide (n11 < (k34:Int))) (∃ n12,World.cell? w12 (aM k33) = some (iI n12)/\∃ n13,World.cell? w12 (Addr.add (aM k33) 1) = some (iI n13)/\new w12 (oC [iI 1,iI n13] 62) λk36 w13=>rE 85 [Value.map (some k23),vA (Array.mk [iI n7,iI n12]),vS (some (aM k36)) 1 1] w13 λv3 w14=>v3 = vT (Array.mk [])/\ax (n8 + 1)/\x3 (n8 + 1) w14/\x4 (n8 + 1) w14 < x4 n8 w10) (ax (n8 + 1)/\x3 (n8 + 1) w12/\x4 (n8 + 1) w12 < x4 n8 w10)) (∃ o16 k37 k38,World.cell? w10 (aM k30) = some (vS o16 k37 k38)/\rE 86 [vS o16 k37 k38,vA (Array.mk [iI 0,iI 1])] w10 λv4 w15=>∃ b1,v4 = vB b1/\br b1 (new w15 (oC [iI 3,iI 0] 62) λk39 w16=>rE 85 [Value.map (some k23),vA (Array.mk [iI n7,iI 0]),vS (some (aM k39)) 1 1] w16 λv5 w17=>v5 = vT (Array.mk [])/\ax (n7 + 1)/\x1 (n7 + 1) w17/\x2 (n7 + 1) w17 < x2 n7 w7) (ax (n7 + 1)/\x1 (n7 + 1) w15/\x2 (n7 + 1) w15 < x2 n7 w7))) (rE 87 [vS o10 k21 k22,Value.func (Fn.func 88) (Array.mk []) (Array.mk [])] w7 λv6 w18=>v6 = vT (Array.mk [])/\∃ (x5:lP [(81,aD)]),∃ (x6:lN [(81,aD)]),x5 0 w18/\∀ (I3:Nat->Value) (n14:Int) (w19:World),x5 n14 w19->br (decide (n14 < (k21:Int))) (idx o10 k21 n14 3 λa3=>∃ n15 n16 o17 k40 k41,V.rowAt w19 a3 0 3 = some [iI n15,iI n16,vS o17 k40 k41]/\new w19 (oC [iI 0,iI 0,vS none 0 0] 58) λk42 w20=>fV w20 (aM k42) [iI n15,iI n16,vS o17 k40 k41] λw21=>∃ o18 k43 k44,World.cell? w21 (Addr.add (aM k42) 2) = some (vS o18 k43 k44)/\∃ (x7:lP [(88,aD)]),∃ (x8:lN [(88,aD)]),x7 0 w21/\∀ (I4:Nat->Value) (n17:Int) (w22:World),x7 n17 w22->br (decide (n17 < (k43:Int))) (idx o18 k43 n17 1 λa4=>∃ n18,World.cell? w22 a4 = some (iI n18)/\∃ n19,World.cell? w22 (aM k42) = some (iI n19)/\∃ n20,World.cell? w22 (Addr.add (aM k42) 1) = some (iI n20)/\new w22 (oC [iI 2,iI n20] 62) λk45 w23=>rE 85 [Value.map (some k23),vA (Array.mk [iI n19,iI n18]),vS (some (aM k45)) 1 1] w23 λv7 w24=>v7 = vT (Array.mk [])/\ax (n17 + 1)/\x7 (n17 + 1) w24/\x8 (n17 + 1) w24 < x8 n17 w22) (ax (n14 + 1)/\x5 (n14 + 1) w22/\x6 (n14 + 1) w22 < x6 n14 w19)) (∀ w25,drawn w19 w25->∃ (I5:WP),I5 w25/\∃ o19 k46 k47,(∀ w26,I5 w26->World.cell? w26 (aM k12) = some (vS o19 k46 k47))/\R (vT (Array.mk [Value.map (some k23),iI (k46:Int),iI 0])) w25))))):aA Tryz.prog 48 [(.agg #[(.slice a b c),(.slice d e f),(.slice g i j),(.int .i64 k),(.slice l m n)])] w R:=rv Tryz.func48 zk (by kernel_rfl) h
abbrev xQ:FuncId:=85
def uM:bn:={ rngs:=[],loops:=[],joins:=[],blocks:=[] }
theorem uN {a:Option Nat} {b c:Int} {d:Yg} {e f:Nat} {w:World} {R:Value->WP} (h:new w (oC [iI b,iI c] 95) λk1 w1=>∃ n1 n2,V.rowAt w1 (aM k1) 0 2 = some [iI n1,iI n2]/\aX Proofs.Tryz.prog (Instr.mapEntry 91 (Value.map a) (vG [iI n1,iI n2])) w1 λv1 w2=>∃ o1 k2 k3 n3,v1 = vT (Array.mk [vS o1 k2 k3,iI n3])/\rS (ir 38 (Array.mk [vS o1 k2 k3,vS d e f])) w2 λv2 w3=>∃ o2 k4 k5,v2 = vS o2 k4 k5/\aX Proofs.Tryz.prog (Instr.entryStore 91 (Value.map a) (iI n3) (vS o2 k4 k5)) w3 λ(x1:Unit) (w4:World)=>R (vT (Array.mk [])) w4):aA Tryz.prog 85 [(.map a),(.agg #[(.int .i64 b),(.int .i64 c)]),(.slice d e f)] w R:=rv Tryz.func85 uM (by kernel_rfl) h
abbrev mv:FuncId:=88
def uO:bn:={ rngs:=[],loops:=[],joins:=[],blocks:=[] }
theorem uP {a b:Int} {c:Yg} {d e:Nat} {f g:Int} {i:Yg} {j k:Nat} {w:World} {R:Value->WP} (h:new w (oC [iI a,iI b,vS c d e] 58) λk1 w1=>new w1 (oC [iI f,iI g,vS i j k] 58) λk2 w2=>∃ n1,World.cell? w2 (Addr.add (aM k1) 1) = some (iI n1)/\∃ n2,World.cell? w2 (Addr.add (aM k2) 1) = some (iI n2)/\ax (n1 - n2)/\R (iI (n1 - n2)) w2):aA Tryz.prog 88 [(.agg #[(.int .i64 a),(.int .i64 b),(.slice c d e)]),(.agg #[(.int .i64 f),(.int .i64 g),(.slice i j k)])] w R:=rv Tryz.func88 uO (by kernel_rfl) h
end Go.Proofs.YtndaepmjkbmjmaaGreatDoor
namespace Go.V
instance:j_ dW:={ val:=λk=>.agg ⟨[.int .i64 k.st,.int .i64 k.tm]⟩,inj:=λa b h=>by cases a; cases b; simp at h; obtain ⟨h1,h2⟩:=h; subst h1; subst h2; rfl,a:=dW.st,b:=dW.tm,val2:=λ_=>rfl,ext:=λk l h1 h2=>by cases k; cases l; cases h1; cases h2; rfl }
def uQ (x:bV):List Value:=[.int .i64 x.kind,.int .i64 x.to]
def mZ (xs:List bV):List Value:=xs.flatMap uQ
theorem FM (xs:List bV):(mZ xs).length = xs.length * 2:=mN (f:=uQ) (n:=2) (λ_=>rfl) xs
theorem FN (xs ys:List bV):mZ (xs ++ ys) = mZ xs ++ mZ ys:=WU
instance:oF bV:={ n:=2,rd:=λ_ x vs=>vs = uQ x,mono:=λ_ h=>h,len:=λh=>by rw [h]; rfl }
def An (ps:List (dW × Lq bV)) (pt:zc):Prop:=(ps.map Prod.fst).Nodup/\∀ p,gn p ps = CP pt p
theorem An.nil:An [] []:=⟨by simp,λp=>rfl⟩
theorem An.put {ps:List (dW × Lq bV)} {pt:zc} (h:An ps pt) {p:dW} {a:bV} {q:Lq bV} (hq:q.2 = gn p ps ++ [a]):An (jW p q ps) (pt ++ [(p,a)]):=by
 refine ⟨Ff _ h.1,λk=>?_⟩
 rw [jL,AQ]
 by_cases e:k = p
 ·subst e; rw [Wn rfl,hq,h.2]; simp [CP]
 ·rw [Wg e,h.2]
  have:CP [(p,a)] k = []:=CB λx hx e2=>by simp at hx; subst hx; exact e e2.symm
  rw [this,WG]
end Go.V
namespace Go.Proofs.YtndaepmjkbmjmaaGreatDoor
open Go.V
variable {w:World} {L:List ay} {g:af} {x:GA}
theorem Mg : T7 Tryz.prog r_ cX { name := "state", type := cX, offset := 0, embedded := false, tag := "", pkgPath := "presage/table", byteOffset := 0 } { name := "term", type := cX, offset := 1, embedded := false, tag := "", pkgPath := "presage/table", byteOffset := 8 } where
 ht:=by kernel_rfl
 hf:=by kernel_rfl
 hi:=bB
 ht0:=rfl
 ht1:=rfl
 n0:=by decide
 n1:=by decide
 o0:=rfl
 o1:=rfl
 sih:=zY
theorem zm:rZ Tryz.prog r_ dW:=rZ.two Mg
theorem Pa {b ka:Nat} {ps:List (dW × Lq bV)} {pt:zc} {q t:Int} {a:bV} (h:St w (aK ka (uQ a) :: mapA b (mV ps) :: aG (mO 2 mZ ps) :: L)) (hG:An ps pt) (hb:pt.length<=100000000) :
  aA Tryz.prog xQ [.map (some b),.agg #[.int .i64 q,.int .i64 t],.slice (some (aM ka)) 1 1] w λv w'=>v = .tuple #[]/\∃ ps',An ps' (pt ++ [(⟨q,t⟩,a)])/\St w' (mapA b (mV ps') :: aG (mO 2 mZ ps') :: L):=by
 refine uN (ah h λk1 w1 h=>⟨_,_,(ai 0 h.l).at (sub.refl _) rfl,?_⟩)
 refine (map_take (κ:=dW) aQ (rfl:aj Ty _ = .map _ _) zm rfl rfl (h.pick 3 [2,0,1]) ⟨q,t⟩).mono ?_
 rintro _ w2 ⟨n,rfl,h⟩
 obtain ⟨e,M,e1,e2,he,back⟩:=mo rfl (h.pick 4 [3,0,1,2]) ⟨q,t⟩
 have hel:e.2.length<=pt.length:=by
  rw [e2,hG.2]
  unfold CP
  rw [Wh]
  exact WM _ _
 rw [e1] at he ⊢
 refine ⟨_,_,_,_,rfl,?_⟩
 refine (aP (us:=mZ e.2) (vs:=uQ a) aQ (rfl:aj Ty _ = .slice _) (rfl:aj Ty _ = .slice _) rfl rfl rfl (he.pick 5 [4,0,1,2,3]) rfl (by simp [aV,uQ]) (by show (e.2.length + 1) * 16<=_; omega) (by omega)).mono ?_
 rintro _ w3 ⟨o',c',rfl,h⟩
 refine ⟨_,_,_,rfl,(Hu (h.pick 5 [3,0,2]) _).mono ?_⟩
 rintro _ w4 h
 rw [tW] at h
 have h:=vp back (e.2 ++ [a]) (by simp) (by rw [FN]; rfl) h
 exact ⟨rfl,_,hG.put (by show e.2 ++ [a] = _; rw [e2]),h⟩
end Go.Proofs.YtndaepmjkbmjmaaGreatDoor
namespace Go.V
section
variable {α : Type} {f:α->List Value} {sz n c i:Nat} {w:World} {L:List ay} {o:Yg} {xs:List α}
theorem V1 (hf:∀ x,(f x).length = sz) (h0:0 < sz) (h:St w (own sz o n c (xs.flatMap f) :: L)) {x:α} (hx:xs[i]? = some x):∃ ad,o = some ad/\av (hp w) (ad.add (cV i sz)) (f x):=by
 rcases fN 0 h.l with e | ⟨ad,e,hc⟩
 ·have h1:=congrArg List.length e
  rw [mN hf,W0] at h1
  have h2:=(V9.1 hx).1
  have:0 < xs.length * sz:=Nat.mul_pos (by omega) h0
  omega
 ·exact ⟨ad,e,bR hf xs ad hc i x hx⟩
theorem Pb (hf:∀ x,(f x).length = sz) {y:α} (hi:i < xs.length):(xs.flatMap f).take (i * sz) ++ f y ++ (xs.flatMap f).drop (i * sz + (f y).length) = (xs.set i y).flatMap f:=by
 have e:xs = xs.take i ++ xs[i] :: xs.drop (i + 1):=by rw [<- WO hi,Wz]
 have l1:((xs.take i).flatMap f).length = i * sz:=by rw [mN hf,Wx]; congr 1; omega
 have e1:xs.flatMap f = (xs.take i).flatMap f ++ (f xs[i] ++ (xs.drop (i + 1)).flatMap f):=by
  have:=congrArg (λl=>l.flatMap f) e
  simp only [WU,WS] at this
  exact this
 have e2:(xs.set i y).flatMap f = (xs.take i).flatMap f ++ (f y ++ (xs.drop (i + 1)).flatMap f):=by
  rw [List.set_eq_take_append_cons_drop,Wn hi,WU,WS]
 rw [e1,e2,<- l1,List.take_left,hf,<- hf xs[i],Wj]
 congr 2
 rw [List.drop_append,Xl (by omega),W6,WT,List.drop_left]
theorem V2 (hf:∀ x,(f x).length = sz) (h0:0 < sz) (h1:∀ x,∀ v∈f x,aV v = true) {ad:Addr} {y:α} {k:World->Prop} (h:St w (own sz o n c (xs.flatMap f) :: L)) (ha:o = some ad) (hi:i < xs.length) (hk:∀ w',St w' (own sz o n c ((xs.set i y).flatMap f) :: L)->k w'):fV w (ad.add (cV i sz)) (f y) k:=by
 rw [aJ]
 refine xa h ha ?_ (h1 y) (by rw [hf]; exact h0) λw' h=>hk w' ?_
 ·rw [mN hf,hf]
  have:(i + 1) * sz<=xs.length * sz:=XJ _ hi
  rw [Xz] at this
  exact this
 ·rw [Pb hf hi] at h; exact h
end
end Go.V
namespace Go.Proofs.YtndaepmjkbmjmaaGreatDoor
open Go.V
abbrev dX:FuncId:=87
def dJ:bn:={ rngs:=[],loops:=[],joins:=[],blocks:=[] }
theorem dK {a:Yg} {b c:Nat} {d:FuncId} {e:List Value} {w:World} {R:Value->WP} (h:rE 137 [vS a b c,iI (b:Int),Value.func (Fn.func d) (Array.mk []) (Array.mk e)] w λv1 w1=>v1 = vT (Array.mk [])/\R (vT (Array.mk [])) w1):aA Tryz.prog 87 [(.slice a b c),(.func (.func d) #[] ⟨e⟩)] w R:=rv Tryz.func87 dJ (by kernel_rfl) h
abbrev iV:FuncId:=137
def gY:bn:={ rngs:=[],loops:=[(2,[(7,(.one (.int .i64))),(8,(.one (.int .i64)))]),(7,[(6,(.one (.int .i64)))]),(9,[(7,(.one (.int .i64))),(8,(.one (.int .i64)))])],joins:=[],blocks:=[] }
theorem gZ {a:Yg} {b c:Nat} {d:Int} {e:FuncId} {f:List Value} {w:World} {R:Value->WP} (h:∃ (x1:lP [(7,aD),(8,aD)]),∃ (x2:lN [(7,aD),(8,aD)]),x1 0 20 w/\∀ (I1:Nat->Value) (n1 n2:Int) (w1:World),x1 n1 n2 w1->br (decide (n2<=d)) (rE 181 [vS a b c,iI n1,iI n2,Value.func (Fn.func e) (Array.mk []) (Array.mk f)] w1 λv1 w2=>v1 = vT (Array.mk [])/\ax (n2 + 20)/\x1 n2 (n2 + 20) w2/\x2 n2 (n2 + 20) w2 < x2 n1 n2 w1) (rE 181 [vS a b c,iI n1,iI d,Value.func (Fn.func e) (Array.mk []) (Array.mk f)] w1 λv2 w3=>v2 = vT (Array.mk [])/\∃ (x3:lP [(6,aD)]),∃ (x4:lN [(6,aD)]),x3 20 w3/\∀ (I2:Nat->Value) (n3:Int) (w4:World),x3 n3 w4->br (decide (n3 < d)) (ax (2 * n3)/\∃ (x5:lP [(7,aD),(8,aD)]),∃ (x6:lN [(7,aD),(8,aD)]),x5 0 (2 * n3) w4/\∀ (I3:Nat->Value) (n4 n5:Int) (w5:World),x5 n4 n5 w5->br (decide (n5<=d)) (ax (n4 + n3)/\rE 182 [vS a b c,iI n4,iI (n4 + n3),iI n5,Value.func (Fn.func e) (Array.mk []) (Array.mk f)] w5 λv3 w6=>v3 = vT (Array.mk [])/\ax (2 * n3)/\ax (n5 + 2 * n3)/\x5 n5 (n5 + 2 * n3) w6/\x6 n5 (n5 + 2 * n3) w6 < x6 n4 n5 w5) (ax (n4 + n3)/\br (decide (n4 + n3 < d)) (rE 182 [vS a b c,iI n4,iI (n4 + n3),iI d,Value.func (Fn.func e) (Array.mk []) (Array.mk f)] w5 λv4 w7=>v4 = vT (Array.mk [])/\ax (n3 * 2)/\x3 (n3 * 2) w7/\x4 (n3 * 2) w7 < x4 n3 w4) (ax (n3 * 2)/\x3 (n3 * 2) w5/\x4 (n3 * 2) w5 < x4 n3 w4))) (R (vT (Array.mk [])) w4))):aA Tryz.prog 137 [(.slice a b c),(.int .i64 d),(.func (.func e) #[] ⟨f⟩)] w R:=rv Tryz.func137 gY (by kernel_rfl) h
abbrev eO:FuncId:=181
def eh:bn:={ rngs:=[],loops:=[(1,[(8,(.one (.int .i64)))]),(4,[(9,(.one (.int .i64)))])],joins:=[],blocks:=[] }
theorem ep {a:Yg} {b c:Nat} {d e:Int} {f:FuncId} {g:List Value} {w:World} {R:Value->WP} (h:ax (d + 1)/\∃ (x1:lP [(8,aD)]),∃ (x2:lN [(8,aD)]),x1 (d + 1) w/\∀ (I1:Nat->Value) (n1:Int) (w1:World),x1 n1 w1->br (decide (n1 < e)) (∃ (x3:lP [(9,aD)]),∃ (x4:lN [(9,aD)]),x3 n1 w1/\∀ (I2:Nat->Value) (n2:Int) (w2:World),x3 n2 w2->∀ w3,drawn w2 w3->∃ (I3:WP),I3 w3/\br (decide (d < n2)) (idx a b n2 3 λa1=>∃ n3 n4 o1 k1 k2,(∀ w4,I3 w4->V.rowAt w4 a1 0 3 = some [iI n3,iI n4,vS o1 k1 k2])/\ax (n2 - 1)/\idx a b (n2 - 1) 3 λa2=>∃ n5 n6 o2 k3 k4,(∀ w5,I3 w5->V.rowAt w5 a2 0 3 = some [iI n5,iI n6,vS o2 k3 k4])/\wm (Proofs.YtndaepmjkbmjmaaGreatDoor.Fn f) (rE f (vA (Array.mk [iI n3,iI n4,vS o1 k1 k2]) :: vA (Array.mk [iI n5,iI n6,vS o2 k3 k4]) :: g) w3 λv1 w6=>∃ n7,v1 = iI n7/\I3 w6/\br (decide (n7 < 0)) (∀ w7,drawn w6 w7->∃ (I4:WP),I4 w7/\ax (n2 - 1)/\ax (n2 - 1)/\idx a b (n2 - 1) 3 λa3=>∃ n8 n9 o3 k5 k6,(∀ w8,I4 w8->V.rowAt w8 a3 0 3 = some [iI n8,iI n9,vS o3 k5 k6])/\idx a b n2 3 λa4=>∃ n10 n11 o4 k7 k8,(∀ w9,I4 w9->V.rowAt w9 a4 0 3 = some [iI n10,iI n11,vS o4 k7 k8])/\idx a b n2 3 λa5=>fV w7 a5 [iI n8,iI n9,vS o3 k5 k6] λw10=>idx a b (n2 - 1) 3 λa6=>fV w10 a6 [iI n10,iI n11,vS o4 k7 k8] λw11=>ax (n2 - 1)/\x3 (n2 - 1) w11/\x4 (n2 - 1) w11 < x4 n2 w2) (ax (n1 + 1)/\x1 (n1 + 1) w6/\x2 (n1 + 1) w6 < x2 n1 w1))) (ax (n1 + 1)/\x1 (n1 + 1) w3/\x2 (n1 + 1) w3 < x2 n1 w1)) (R (vT (Array.mk [])) w1)):aA Tryz.prog 181 [(.slice a b c),(.int .i64 d),(.int .i64 e),(.func (.func f) #[] ⟨g⟩)] w R:=rv Tryz.func181 eh (by kernel_rfl) h
abbrev aR:FuncId:=182
def fT:bn:={ rngs:=[],loops:=[(3,[(10,(.one (.int .i64))),(11,(.one (.int .i64)))]),(9,[(13,(.one (.int .i64)))]),(15,[(14,(.one (.int .i64))),(15,(.one (.int .i64)))]),(21,[(17,(.one (.int .i64)))]),(33,[(20,(.one (.int .i64))),(21,(.one (.int .i64)))])],joins:=[(32,[(20,(.one (.int .i64))),(21,(.one (.int .i64)))]),(41,[])],blocks:=[] }
theorem fU {a:Yg} {b c:Nat} {d e f:Int} {g:FuncId} {i:List Value} {w:World} {R:Value->WP} (h:ax (e - d)/\br (e - d == 1) (∃ (x1:lP [(10,aD),(11,aD)]),∃ (x2:lN [(10,aD),(11,aD)]),x1 e f w/\∀ (I1:Nat->Value) (n1 n2:Int) (w1:World),x1 n1 n2 w1->br (decide (n1 < n2)) (ax (n1 + n2)/\ns 1/\ax (bH IntKind.u64 (IntKind.wrap IntKind.u64 (n1 + n2)) 1)/\∀ w2,drawn w1 w2->∃ (I2:WP),I2 w2/\idx a b (bH IntKind.u64 (IntKind.wrap IntKind.u64 (n1 + n2)) 1) 3 λa1=>∃ n3 n4 o1 k1 k2,(∀ w3,I2 w3->V.rowAt w3 a1 0 3 = some [iI n3,iI n4,vS o1 k1 k2])/\idx a b d 3 λa2=>∃ n5 n6 o2 k3 k4,(∀ w4,I2 w4->V.rowAt w4 a2 0 3 = some [iI n5,iI n6,vS o2 k3 k4])/\wm (Proofs.YtndaepmjkbmjmaaGreatDoor.Fn g) (rE g (vA (Array.mk [iI n3,iI n4,vS o1 k1 k2]) :: vA (Array.mk [iI n5,iI n6,vS o2 k3 k4]) :: i) w2 λv1 w5=>∃ n7,v1 = iI n7/\I2 w5/\br (decide (n7 < 0)) (ax (bH IntKind.u64 (IntKind.wrap IntKind.u64 (n1 + n2)) 1 + 1)/\x1 (bH IntKind.u64 (IntKind.wrap IntKind.u64 (n1 + n2)) 1 + 1) n2 w5/\x2 (bH IntKind.u64 (IntKind.wrap IntKind.u64 (n1 + n2)) 1 + 1) n2 w5 < x2 n1 n2 w1) (x1 n1 (bH IntKind.u64 (IntKind.wrap IntKind.u64 (n1 + n2)) 1) w5/\x2 n1 (bH IntKind.u64 (IntKind.wrap IntKind.u64 (n1 + n2)) 1) w5 < x2 n1 n2 w1))) (∃ (x3:lP [(13,aD)]),∃ (x4:lN [(13,aD)]),x3 d w1/\∀ (I3:Nat->Value) (n8:Int) (w6:World),x3 n8 w6->ax (n1 - 1)/\br (decide (n8 < n1 - 1)) (∀ w7,drawn w6 w7->∃ (I4:WP),I4 w7/\ax (n8 + 1)/\ax (n8 + 1)/\idx a b (n8 + 1) 3 λa3=>∃ n9 n10 o3 k5 k6,(∀ w8,I4 w8->V.rowAt w8 a3 0 3 = some [iI n9,iI n10,vS o3 k5 k6])/\idx a b n8 3 λa4=>∃ n11 n12 o4 k7 k8,(∀ w9,I4 w9->V.rowAt w9 a4 0 3 = some [iI n11,iI n12,vS o4 k7 k8])/\idx a b n8 3 λa5=>fV w7 a5 [iI n9,iI n10,vS o3 k5 k6] λw10=>idx a b (n8 + 1) 3 λa6=>fV w10 a6 [iI n11,iI n12,vS o4 k7 k8] λw11=>ax (n8 + 1)/\x3 (n8 + 1) w11/\x4 (n8 + 1) w11 < x4 n8 w6) (R (vT (Array.mk [])) w6))) (ax (f - e)/\br (f - e == 1) (∃ (x5:lP [(14,aD),(15,aD)]),∃ (x6:lN [(14,aD),(15,aD)]),x5 d e w/\∀ (I5:Nat->Value) (n13 n14:Int) (w12:World),x5 n13 n14 w12->br (decide (n13 < n14)) (ax (n13 + n14)/\ns 1/\ax (bH IntKind.u64 (IntKind.wrap IntKind.u64 (n13 + n14)) 1)/\∀ w13,drawn w12 w13->∃ (I6:WP),I6 w13/\idx a b e 3 λa7=>∃ n15 n16 o5 k9 k10,(∀ w14,I6 w14->V.rowAt w14 a7 0 3 = some [iI n15,iI n16,vS o5 k9 k10])/\idx a b (bH IntKind.u64 (IntKind.wrap IntKind.u64 (n13 + n14)) 1) 3 λa8=>∃ n17 n18 o6 k11 k12,(∀ w15,I6 w15->V.rowAt w15 a8 0 3 = some [iI n17,iI n18,vS o6 k11 k12])/\wm (Proofs.YtndaepmjkbmjmaaGreatDoor.Fn g) (rE g (vA (Array.mk [iI n15,iI n16,vS o5 k9 k10]) :: vA (Array.mk [iI n17,iI n18,vS o6 k11 k12]) :: i) w13 λv2 w16=>∃ n19,v2 = iI n19/\I6 w16/\br (!decide (n19 < 0)) (ax (bH IntKind.u64 (IntKind.wrap IntKind.u64 (n13 + n14)) 1 + 1)/\x5 (bH IntKind.u64 (IntKind.wrap IntKind.u64 (n13 + n14)) 1 + 1) n14 w16/\x6 (bH IntKind.u64 (IntKind.wrap IntKind.u64 (n13 + n14)) 1 + 1) n14 w16 < x6 n13 n14 w12) (x5 n13 (bH IntKind.u64 (IntKind.wrap IntKind.u64 (n13 + n14)) 1) w16/\x6 n13 (bH IntKind.u64 (IntKind.wrap IntKind.u64 (n13 + n14)) 1) w16 < x6 n13 n14 w12))) (∃ (x7:lP [(17,aD)]),∃ (x8:lN [(17,aD)]),x7 e w12/\∀ (I7:Nat->Value) (n20:Int) (w17:World),x7 n20 w17->br (decide (n13 < n20)) (∀ w18,drawn w17 w18->∃ (I8:WP),I8 w18/\ax (n20 - 1)/\ax (n20 - 1)/\idx a b (n20 - 1) 3 λa9=>∃ n21 n22 o7 k13 k14,(∀ w19,I8 w19->V.rowAt w19 a9 0 3 = some [iI n21,iI n22,vS o7 k13 k14])/\idx a b n20 3 λa10=>∃ n23 n24 o8 k15 k16,(∀ w20,I8 w20->V.rowAt w20 a10 0 3 = some [iI n23,iI n24,vS o8 k15 k16])/\idx a b n20 3 λa11=>fV w18 a11 [iI n21,iI n22,vS o7 k13 k14] λw21=>idx a b (n20 - 1) 3 λa12=>fV w21 a12 [iI n23,iI n24,vS o8 k15 k16] λw22=>ax (n20 - 1)/\x7 (n20 - 1) w22/\x8 (n20 - 1) w22 < x8 n20 w17) (R (vT (Array.mk [])) w17))) (ax (d + f)/\ns 1/\ax (bH IntKind.u64 (IntKind.wrap IntKind.u64 (d + f)) 1)/\ax (bH IntKind.u64 (IntKind.wrap IntKind.u64 (d + f)) 1 + e)/\∃ (x9:lP [(20,aD),(21,aD)]),br (decide (bH IntKind.u64 (IntKind.wrap IntKind.u64 (d + f)) 1 < e)) (ax (bH IntKind.u64 (IntKind.wrap IntKind.u64 (d + f)) 1 + e - f)/\x9 (bH IntKind.u64 (IntKind.wrap IntKind.u64 (d + f)) 1 + e - f) (bH IntKind.u64 (IntKind.wrap IntKind.u64 (d + f)) 1) w) (x9 d e w)/\∀ (I9:Nat->Value) (n25 n26:Int) (w23:World),x9 n25 n26 w23->ax (bH IntKind.u64 (IntKind.wrap IntKind.u64 (d + f)) 1 + e - 1)/\∃ (x10:lP [(20,aD),(21,aD)]),∃ (x11:lN [(20,aD),(21,aD)]),x10 n25 n26 w23/\∀ (I10:Nat->Value) (n27 n28:Int) (w24:World),x10 n27 n28 w24->br (decide (n27 < n28)) (ax (n27 + n28)/\ns 1/\ax (bH IntKind.u64 (IntKind.wrap IntKind.u64 (n27 + n28)) 1)/\∀ w25,drawn w24 w25->∃ (I11:WP),I11 w25/\ax (bH IntKind.u64 (IntKind.wrap IntKind.u64 (d + f)) 1 + e - 1 - bH IntKind.u64 (IntKind.wrap IntKind.u64 (n27 + n28)) 1)/\idx a b (bH IntKind.u64 (IntKind.wrap IntKind.u64 (d + f)) 1 + e - 1 - bH IntKind.u64 (IntKind.wrap IntKind.u64 (n27 + n28)) 1) 3 λa13=>∃ n29 n30 o9 k17 k18,(∀ w26,I11 w26->V.rowAt w26 a13 0 3 = some [iI n29,iI n30,vS o9 k17 k18])/\idx a b (bH IntKind.u64 (IntKind.wrap IntKind.u64 (n27 + n28)) 1) 3 λa14=>∃ n31 n32 o10 k19 k20,(∀ w27,I11 w27->V.rowAt w27 a14 0 3 = some [iI n31,iI n32,vS o10 k19 k20])/\wm (Proofs.YtndaepmjkbmjmaaGreatDoor.Fn g) (rE g (vA (Array.mk [iI n29,iI n30,vS o9 k17 k18]) :: vA (Array.mk [iI n31,iI n32,vS o10 k19 k20]) :: i) w25 λv3 w28=>∃ n33,v3 = iI n33/\I11 w28/\br (!decide (n33 < 0)) (ax (bH IntKind.u64 (IntKind.wrap IntKind.u64 (n27 + n28)) 1 + 1)/\x10 (bH IntKind.u64 (IntKind.wrap IntKind.u64 (n27 + n28)) 1 + 1) n28 w28/\x11 (bH IntKind.u64 (IntKind.wrap IntKind.u64 (n27 + n28)) 1 + 1) n28 w28 < x11 n27 n28 w24) (x10 n27 (bH IntKind.u64 (IntKind.wrap IntKind.u64 (n27 + n28)) 1) w28/\x11 n27 (bH IntKind.u64 (IntKind.wrap IntKind.u64 (n27 + n28)) 1) w28 < x11 n27 n28 w24))) (ax (bH IntKind.u64 (IntKind.wrap IntKind.u64 (d + f)) 1 + e - n27)/\∃ (x12:lP []),br (decide (n27 < e)) (br (decide (e < bH IntKind.u64 (IntKind.wrap IntKind.u64 (d + f)) 1 + e - n27)) (rE 232 [vS a b c,iI n27,iI e,iI (bH IntKind.u64 (IntKind.wrap IntKind.u64 (d + f)) 1 + e - n27),Value.func (Fn.func g) (Array.mk []) (Array.mk i)] w24 λv4 w29=>v4 = vT (Array.mk [])/\x12 w29) (x12 w24)) (x12 w24)/\∀ (I12:Nat->Value) (w30:World),x12 w30->br (decide (d < n27)) (br (decide (n27 < bH IntKind.u64 (IntKind.wrap IntKind.u64 (d + f)) 1)) (rE 182 [vS a b c,iI d,iI n27,iI (bH IntKind.u64 (IntKind.wrap IntKind.u64 (d + f)) 1),Value.func (Fn.func g) (Array.mk []) (Array.mk i)] w30 λv5 w31=>v5 = vT (Array.mk [])/\br (decide (bH IntKind.u64 (IntKind.wrap IntKind.u64 (d + f)) 1 < bH IntKind.u64 (IntKind.wrap IntKind.u64 (d + f)) 1 + e - n27)) (br (decide (bH IntKind.u64 (IntKind.wrap IntKind.u64 (d + f)) 1 + e - n27 < f)) (rE 182 [vS a b c,iI (bH IntKind.u64 (IntKind.wrap IntKind.u64 (d + f)) 1),iI (bH IntKind.u64 (IntKind.wrap IntKind.u64 (d + f)) 1 + e - n27),iI f,Value.func (Fn.func g) (Array.mk []) (Array.mk i)] w31 λv6 w32=>v6 = vT (Array.mk [])/\R (vT (Array.mk [])) w32) (R (vT (Array.mk [])) w31)) (R (vT (Array.mk [])) w31)) (br (decide (bH IntKind.u64 (IntKind.wrap IntKind.u64 (d + f)) 1 < bH IntKind.u64 (IntKind.wrap IntKind.u64 (d + f)) 1 + e - n27)) (br (decide (bH IntKind.u64 (IntKind.wrap IntKind.u64 (d + f)) 1 + e - n27 < f)) (rE 182 [vS a b c,iI (bH IntKind.u64 (IntKind.wrap IntKind.u64 (d + f)) 1),iI (bH IntKind.u64 (IntKind.wrap IntKind.u64 (d + f)) 1 + e - n27),iI f,Value.func (Fn.func g) (Array.mk []) (Array.mk i)] w30 λv7 w33=>v7 = vT (Array.mk [])/\R (vT (Array.mk [])) w33) (R (vT (Array.mk [])) w30)) (R (vT (Array.mk [])) w30))) (br (decide (bH IntKind.u64 (IntKind.wrap IntKind.u64 (d + f)) 1 < bH IntKind.u64 (IntKind.wrap IntKind.u64 (d + f)) 1 + e - n27)) (br (decide (bH IntKind.u64 (IntKind.wrap IntKind.u64 (d + f)) 1 + e - n27 < f)) (rE 182 [vS a b c,iI (bH IntKind.u64 (IntKind.wrap IntKind.u64 (d + f)) 1),iI (bH IntKind.u64 (IntKind.wrap IntKind.u64 (d + f)) 1 + e - n27),iI f,Value.func (Fn.func g) (Array.mk []) (Array.mk i)] w30 λv8 w34=>v8 = vT (Array.mk [])/\R (vT (Array.mk [])) w34) (R (vT (Array.mk [])) w30)) (R (vT (Array.mk [])) w30)))))):aA Tryz.prog 182 [(.slice a b c),(.int .i64 d),(.int .i64 e),(.int .i64 f),(.func (.func g) #[] ⟨i⟩)] w R:=rv Tryz.func182 fT (by kernel_rfl) h
abbrev iW:FuncId:=232
def g_:bn:={ rngs:=[],loops:=[(2,[(10,(.one (.int .i64))),(11,(.one (.int .i64)))])],joins:=[],blocks:=[] }
theorem hZ {a:Yg} {b c:Nat} {d e f:Int} {g:FuncId} {i:List Value} {w:World} {R:Value->WP} (h:ax (e - d)/\ax (f - e)/\∃ (x1:lP [(10,aD),(11,aD)]),∃ (x2:lN [(10,aD),(11,aD)]),x1 (e - d) (f - e) w/\∀ (I1:Nat->Value) (n1 n2:Int) (w1:World),x1 n1 n2 w1->br (n1 != n2) (br (decide (n2 < n1)) (ax (e - n1)/\rE 256 [vS a b c,iI (e - n1),iI e,iI n2,Value.func (Fn.func g) (Array.mk []) (Array.mk i)] w1 λv1 w2=>v1 = vT (Array.mk [])/\ax (n1 - n2)/\x1 (n1 - n2) n2 w2/\x2 (n1 - n2) n2 w2 < x2 n1 n2 w1) (ax (e - n1)/\ax (e + n2)/\ax (e + n2 - n1)/\rE 256 [vS a b c,iI (e - n1),iI (e + n2 - n1),iI n1,Value.func (Fn.func g) (Array.mk []) (Array.mk i)] w1 λv2 w3=>v2 = vT (Array.mk [])/\ax (n2 - n1)/\x1 n1 (n2 - n1) w3/\x2 n1 (n2 - n1) w3 < x2 n1 n2 w1)) (ax (e - n1)/\rE 256 [vS a b c,iI (e - n1),iI e,iI n1,Value.func (Fn.func g) (Array.mk []) (Array.mk i)] w1 λv3 w4=>v3 = vT (Array.mk [])/\R (vT (Array.mk [])) w4)):aA Tryz.prog 232 [(.slice a b c),(.int .i64 d),(.int .i64 e),(.int .i64 f),(.func (.func g) #[] ⟨i⟩)] w R:=rv Tryz.func232 g_ (by kernel_rfl) h
abbrev gv:FuncId:=256
def fG:bn:={ rngs:=[],loops:=[(1,[(10,(.one (.int .i64)))])],joins:=[],blocks:=[] }
theorem fH {a:Yg} {b c:Nat} {d e f:Int} {g:FuncId} {i:List Value} {w:World} {R:Value->WP} (h:∃ (x1:lP [(10,aD)]),∃ (x2:lN [(10,aD)]),x1 0 w/\∀ (I1:Nat->Value) (n1:Int) (w1:World),x1 n1 w1->br (decide (n1 < f)) (∀ w2,drawn w1 w2->∃ (I2:WP),I2 w2/\ax (d + n1)/\ax (e + n1)/\ax (e + n1)/\idx a b (e + n1) 3 λa1=>∃ n2 n3 o1 k1 k2,(∀ w3,I2 w3->V.rowAt w3 a1 0 3 = some [iI n2,iI n3,vS o1 k1 k2])/\ax (d + n1)/\idx a b (d + n1) 3 λa2=>∃ n4 n5 o2 k3 k4,(∀ w4,I2 w4->V.rowAt w4 a2 0 3 = some [iI n4,iI n5,vS o2 k3 k4])/\idx a b (d + n1) 3 λa3=>fV w2 a3 [iI n2,iI n3,vS o1 k1 k2] λw5=>idx a b (e + n1) 3 λa4=>fV w5 a4 [iI n4,iI n5,vS o2 k3 k4] λw6=>ax (n1 + 1)/\x1 (n1 + 1) w6/\x2 (n1 + 1) w6 < x2 n1 w1) (R (vT (Array.mk [])) w1)):aA Tryz.prog 256 [(.slice a b c),(.int .i64 d),(.int .i64 e),(.int .i64 f),(.func (.func g) #[] ⟨i⟩)] w R:=rv Tryz.func256 fG (by kernel_rfl) h
end Go.Proofs.YtndaepmjkbmjmaaGreatDoor
namespace Go.V
abbrev fq (b:gU):Int:=b.1.2
section
variable {w:World} {L:List ay} {o:Yg} {n c i:Nat} {ds:List gU} {x:gU}
abbrev UK (x:gU):List Value:=[.int .i64 x.1.1,.int .i64 x.1.2,.slice x.2.1.1 x.2.2.length x.2.1.2]
theorem JJ (h:St w (own 3 o n c (cG ds) :: L)) (hx:ds[i]? = some x):∃ ad,o = some ad/\av (hp w) (ad.add (cV i 3)) (UK x):=V1 (f:=OD) (λ_=>rfl) (by decide) h hx
theorem Sf {ad:Addr} {k:World->Prop} (h:St w (own 3 o n c (cG ds) :: L)) (ha:o = some ad) (hi:i < ds.length) (hk:∀ w',St w' (own 3 o n c (cG (ds.set i x)) :: L)->k w'):fV w (ad.add (cV i 3)) (UK x) k :=
 V2 (f:=OD) (λ_=>rfl) (by decide) (λx v hv=>by simp [OD,dO] at hv; rcases hv with rfl | rfl | rfl <;> rfl) h ha hi hk
theorem FO (h:St w (own 3 o n c (cG ds) :: L)):n = ds.length:=by have:=iz h; rw [AN] at this; omega
end
end Go.V
namespace Go.Proofs.YtndaepmjkbmjmaaGreatDoor
open Go.V
section
variable {w:World} {L:List ay} {o:Yg} {n c:Nat} {d:FuncId} {e:List Value}
theorem FP {A X M Y C:List gU} {xs:List gU} {k:Nat} {a b:Int} (h:St w (own 3 o n c (cG xs) :: L)) (hxs:xs = A ++ (X ++ (M ++ (Y ++ C)))) (ha:a = A.length) (hb:b = ((A.length + X.length + M.length:Nat):Int)) (hX:X.length = k) (hY:Y.length = k) (hn:xs.length<=1000000) :
  aA Tryz.prog gv [.slice o n c,.int .i64 a,.int .i64 b,.int .i64 (k:Int),.func (.func d) #[] ⟨e⟩] w λv w'=>v = .tuple #[]/\St w' (own 3 o n c (cG (A ++ (Y ++ (M ++ (X ++ C))))) :: L):=by
 have hnl:=FO h
 have hl:xs.length = A.length + X.length + M.length + Y.length + C.length:=by rw [hxs]; simp; omega
 subst ha hb
 refine fH ⟨λz w'=>∃ i:Nat,z = i/\i<=k/\St w' (own 3 o n c (cG (A ++ (Y.take i ++ (X.drop i ++ (M ++ (X.take i ++ (Y.drop i ++ C))))))) :: L),λz _=>k - z.toNat,⟨0,rfl,Wi _,by simp only [List.take_zero,List.drop_zero,WT]; rw [<- hxs]; exact h⟩,?_⟩
 clear h
 rintro _ _ w1 ⟨i,rfl,hi,h⟩
 refine ae (λh1=>?_) λh1=>?_
 rotate_left
 ·have h1:i = k:=by have:=V8 h1; omega
  subst h1
  rw [Wq (by omega),Xl (by omega),Wq (by omega),Xl (by omega),WT,WT] at h
  exact ⟨rfl,h⟩
 have h1:i < k:=by have:=V7 h1; omega
 intro w2 hd
 have h:=h.eq (aB hd)
 obtain ⟨x,hx⟩ : ∃ x,X[i]? = some x:=⟨_,Wa (by omega)⟩
 obtain ⟨y,hy⟩ : ∃ y,Y[i]? = some y:=⟨_,Wa (by omega)⟩
 obtain ⟨D,hD⟩ : ∃ D,D = A ++ (Y.take i ++ (X.drop i ++ (M ++ (X.take i ++ (Y.drop i ++ C))))):=⟨_,rfl⟩
 have eX:X.drop i = x :: X.drop (i + 1):=by rw [WO (by omega)]; congr 1; rw [Wa (by omega)] at hx; exact Option.some.inj hx
 have eY:Y.drop i = y :: Y.drop (i + 1):=by rw [WO (by omega)]; congr 1; rw [Wa (by omega)] at hy; exact Option.some.inj hy
 have e1:D = (A ++ Y.take i) ++ x :: ((X.drop (i + 1) ++ (M ++ X.take i)) ++ y :: (Y.drop (i + 1) ++ C)):=by rw [hD,eX,eY]; simp
 have l1:(A ++ Y.take i).length = A.length + i:=by simp; omega
 have l2:(X.drop (i + 1) ++ (M ++ X.take i)).length = X.length - (i + 1) + (M.length + i):=by simp; omega
 have e2:(D.set (A.length + i) y).set (A.length + X.length + M.length + i) x = A ++ (Y.take (i + 1) ++ (X.drop (i + 1) ++ (M ++ (X.take (i + 1) ++ (Y.drop (i + 1) ++ C))))):=by
  rw [e1,xL (by omega) (by omega),Wf,Wf,hx,hy]; simp
 rw [<- hD] at h
 have gx:D[A.length + i]? = some x:=by rw [e1]; exact mr (by omega)
 have gy:D[A.length + X.length + M.length + i]? = some y:=by
  rw [e1,show (A ++ Y.take i) ++ x :: ((X.drop (i + 1) ++ (M ++ X.take i)) ++ y :: (Y.drop (i + 1) ++ C)) = ((A ++ Y.take i) ++ x :: (X.drop (i + 1) ++ (M ++ X.take i))) ++ y :: (Y.drop (i + 1) ++ C) by simp]
  exact mr (by simp only [We,WZ] at *; omega)
 have hDl:D.length = n:=(FO h).symm
 obtain ⟨ad,ho,rx⟩:=JJ h gx
 obtain ⟨ad',ho',ry⟩:=JJ h gy
 rw [ho] at ho'; cases ho'
 have z1:(A.length:Int) + i = ((A.length + i:Nat):Int):=by simp
 have z2:((A.length + X.length + M.length:Nat):Int) + i = ((A.length + X.length + M.length + i:Nat):Int):=by simp
 have hnn:n<=1000000:=by omega
 have b1:A.length + i < n:=by omega
 have b2:A.length + X.length + M.length + i < n:=by omega
 rw [z1,z2]
 refine ⟨λu=>hp u = hp w2,rfl,⟨by omega,by omega⟩,⟨by omega,by omega⟩,⟨by omega,by omega⟩,au ho b2 ⟨_,_,_,_,_,λu e=>ry.at (by rw [e]; exact sub.refl _) rfl,⟨by omega,by omega⟩,au ho b1 ⟨_,_,_,_,_,λu e=>rx.at (by rw [e]; exact sub.refl _) rfl,au ho b1 (Sf (x:=y) h ho (by omega) λw5 h=>au ho b2 (Sf (x:=x) h ho (by rw [WE]; omega) λw6 h=>⟨⟨by omega,by omega⟩,⟨i + 1,by simp,h1,?_⟩,bw h1⟩))⟩⟩⟩
 rw [e2] at h
 exact h
theorem Pc {A X Y C:List gU} {xs:List gU} {a m b:Int} (h:St w (own 3 o n c (cG xs) :: L)) (hxs:xs = A ++ (X ++ (Y ++ C))) (ha:a = A.length) (hm:m = ((A.length + X.length:Nat):Int)) (hb:b = ((A.length + X.length + Y.length:Nat):Int)) (hX:X≠[]) (hY:Y≠[]) (hn:xs.length<=1000000) :
  aA Tryz.prog iW [.slice o n c,.int .i64 a,.int .i64 m,.int .i64 b,.func (.func d) #[] ⟨e⟩] w λv w'=>v = .tuple #[]/\St w' (own 3 o n c (cG (A ++ (Y ++ (X ++ C)))) :: L):=by
 have hl:xs.length = A.length + X.length + Y.length + C.length:=by rw [hxs]; simp; omega
 have hX1:=XB.2 hX
 have hY1:=XB.2 hY
 subst ha hm hb
 obtain ⟨T,hT⟩ : ∃ T,T = A ++ (Y ++ (X ++ C)):=⟨_,rfl⟩
 have hTl:T.length = xs.length:=by rw [hT,hl]; simp; omega
 rw [<- hT]
 obtain ⟨E,hE⟩ : ∃ E,E = A.length + X.length:=⟨_,rfl⟩
 refine hZ ⟨⟨by omega,by omega⟩,⟨by omega,by omega⟩,λy z w'=>∃ A X Y C:List gU,y = (X.length:Int)/\z = (Y.length:Int)/\X≠[]/\Y≠[]/\A.length + X.length = E/\A ++ (Y ++ (X ++ C)) = T/\St w' (own 3 o n c (cG (A ++ (X ++ (Y ++ C)))) :: L),λy z _=>y.toNat + z.toNat,⟨A,X,Y,C,by omega,by omega,hX,hY,hE.symm,hT.symm,by rw [<- hxs]; exact h⟩,?_⟩
 rw [<- hE]
 clear h hxs hX hY hX1 hY1
 rintro _ _ _ w1 ⟨A1,X1,Y1,C1,rfl,rfl,hX,hY,hm,hT1,h⟩
 have hX1:=XB.2 hX
 have hY1:=XB.2 hY
 have hl1:A1.length + (Y1.length + (X1.length + C1.length)) = T.length:=by rw [<- hT1]; simp
 refine ae (λh1=>?_) λh1=>?_
 rotate_left
 ·have h1:(X1.length:Int) = Y1.length:=by simpa using h1
  have h1:X1.length = Y1.length:=by omega
  refine ⟨⟨by omega,by omega⟩,(FP (A:=A1) (X:=X1) (M:=[]) (Y:=Y1) (C:=C1) (k:=X1.length) h (by simp) (by omega) (by simp; omega) rfl h1.symm (by simp; omega)).mono ?_⟩
  rintro _ w4 ⟨rfl,h⟩
  rw [WT,hT1] at h
  exact ⟨rfl,rfl,h⟩
 have h1:(X1.length:Int)≠Y1.length:=by simpa using h1
 have h1:X1.length≠Y1.length:=by omega
 refine ae (λh2=>?_) λh2=>?_
 ·have h2:Y1.length < X1.length:=by have:=V7 h2; omega
  refine ⟨⟨by omega,by omega⟩,(FP (A:=A1) (X:=X1.take Y1.length) (M:=X1.drop Y1.length) (Y:=Y1) (C:=C1) (k:=Y1.length) h (by rw [<- Wj (X1.take _),Wz]) (by omega) (by simp; omega) (by simp; omega) rfl (by simp; omega)).mono ?_⟩
  rintro _ w2 ⟨rfl,h⟩
  refine ⟨rfl,⟨by omega,by omega⟩,⟨A1 ++ Y1,X1.drop Y1.length,X1.take Y1.length,C1,by simp; omega,by simp; omega,λhh=>?_,λhh=>?_,by simp; omega,?_,by simpa using h⟩,?_⟩
  ·have:=congrArg List.length hh; simp only [Wx,Xp,W0] at this; omega
  ·have:=congrArg List.length hh; simp only [Wx,Xp,W0] at this; omega
  ·rw [<- hT1,Wj,<- Wj (X1.take _),Wz]
  ·show ((X1.length:Int) - Y1.length).toNat + (Y1.length:Int).toNat < (X1.length:Int).toNat + (Y1.length:Int).toNat
   omega
 ·have h2:X1.length < Y1.length:=by have:=V8 h2; omega
  refine ⟨⟨by omega,by omega⟩,⟨by omega,by omega⟩,⟨by omega,by omega⟩,(FP (A:=A1) (X:=X1) (M:=Y1.take (Y1.length - X1.length)) (Y:=Y1.drop (Y1.length - X1.length)) (C:=C1) (k:=X1.length) h (by rw [<- Wj (Y1.take _),Wz]) (by omega) (by simp; omega) rfl (by simp; omega) (by simp; omega)).mono ?_⟩
  rintro _ w3 ⟨rfl,h⟩
  refine ⟨rfl,⟨by omega,by omega⟩,⟨A1,Y1.drop (Y1.length - X1.length),Y1.take (Y1.length - X1.length),X1 ++ C1,by simp; omega,by simp; omega,λhh=>?_,λhh=>?_,by simp; omega,?_,by simpa using h⟩,?_⟩
  ·have:=congrArg List.length hh; simp only [Wx,Xp,W0] at this; omega
  ·have:=congrArg List.length hh; simp only [Wx,Xp,W0] at this; omega
  ·rw [<- hT1,<- Wj (Y1.take _),Wz]
  ·show (X1.length:Int).toNat + ((Y1.length:Int) - X1.length).toNat < (X1.length:Int).toNat + (Y1.length:Int).toNat
   omega
def Ic (x:gU):Prop:=0<=x.1.2/\x.1.2<=1000000
def Rv (d:FuncId) (e:List Value):Prop:=Fn d = true/\∀ (x y:gU) (u:World),Ic x->Ic y->aA Tryz.prog d (.agg ⟨UK x⟩ :: .agg ⟨UK y⟩ :: e) u λv u'=>∃ z:Int,v = .int .i64 z/\(z < 0↔fq x < fq y)/\Gr u u'
theorem HT {A X C:List gU} {xs:List gU} {a b:Int} (hc:Rv d e) (h:St w (own 3 o n c (cG xs) :: L)) (hxs:xs = A ++ (X ++ C)) (ha:a = A.length) (hb:b = ((A.length + X.length:Nat):Int)) (hs:∀ x∈X,Ic x) (hn:xs.length<=1000000) :
  aA Tryz.prog eO [.slice o n c,.int .i64 a,.int .i64 b,.func (.func d) #[] ⟨e⟩] w λv w'=>v = .tuple #[]/\∃ S,S.Perm X/\jP fq S/\St w' (own 3 o n c (cG (A ++ (S ++ C))) :: L):=by
 have hl:xs.length = A.length + X.length + C.length:=by rw [hxs]; simp; omega
 have hnl:=FO h
 have hnn:n<=1000000:=by omega
 subst ha hb
 refine ep ⟨⟨by omega,by omega⟩,λz w'=>∃ S R:List gU,(S ++ R).Perm X/\jP fq S/\((S≠[]/\z = ((A.length + S.length:Nat):Int))\/(X = []/\z = (A.length:Int) + 1))/\St w' (own 3 o n c (cG (A ++ (S ++ (R ++ C)))) :: L),λz _=>A.length + X.length - z.toNat,?_,?_⟩
 ·cases hX:X with
  | nil=>rw [hX] at hxs; exact ⟨[],[],.refl _,.nil,.inr ⟨rfl,rfl⟩,by rw [hxs] at h; exact h⟩
  | cons x X'=>rw [hX] at hxs; exact ⟨[x],X',.refl _,List.pairwise_singleton _ _,.inl ⟨by simp,by simp⟩,by rw [hxs] at h; exact h⟩
 clear h
 rintro _ z w1 ⟨S,R,hpm,hS,hz,h⟩
 have hpl:S.length + R.length = X.length:=by have:=hpm.length_eq; simpa using this
 refine ae (λh1=>?_) λh1=>?_
 rotate_left
 ·have h1:=V8 h1
  have hR:R = []:=by
   rcases hz with ⟨_,rfl⟩ | ⟨hX,_⟩
   ·exact Wv (by omega)
   ·rw [hX,W0] at hpl; exact Wv (by omega)
  subst hR
  exact ⟨rfl,S,by simpa using hpm,hS,h⟩
 have h1:=V7 h1
 rcases hz with ⟨hS0,rfl⟩ | ⟨hX,rfl⟩
 rotate_left
 ·rw [hX] at h1; simp at h1; omega
 obtain ⟨y,R',rfl⟩ : ∃ y R',R = y :: R':=by
  cases R with
  | nil=>simp at hpl; omega
  | cons y R'=>exact ⟨y,R',rfl⟩
 have hsy:Ic y:=hs y (hpm.mem_iff.1 (by simp))
 have hsS:∀ x∈S,Ic x:=λx hx=>hs x (hpm.mem_iff.1 (by simp [hx]))
 refine ⟨λz w'=>∃ S1 S2:List gU,S = S1 ++ S2/\z = ((A.length + S1.length:Nat):Int)/\(∀ u∈S2,fq y<=fq u)/\St w' (own 3 o n c (cG (A ++ (S1 ++ y :: (S2 ++ (R' ++ C))))) :: L),λz _=>z.toNat - A.length,⟨S,[],by simp,by simp,by simp,by simpa using h⟩,?_⟩
 clear h
 rintro _ _ w2 ⟨S1,S2,rfl,rfl,hS2,h⟩
 have hDl:=FO h
 have hpl2:S1.length + S2.length + (R'.length + 1) = X.length:=by simpa using hpl
 -- it has its place
 have fin:∀ {w'},(∀ u,S1.getLast? = some u->fq u<=fq y)->St w' (own 3 o n c (cG (A ++ (S1 ++ y :: (S2 ++ (R' ++ C))))) :: L)->ax (((A.length + (S1 ++ S2).length:Nat):Int) + 1)/\(∃ S R:List gU,(S ++ R).Perm X/\jP fq S/\((S≠[]/\((A.length + (S1 ++ S2).length:Nat):Int) + 1 = ((A.length + S.length:Nat):Int))\/(X = []/\((A.length + (S1 ++ S2).length:Nat):Int) + 1 = (A.length:Int) + 1))/\St w' (own 3 o n c (cG (A ++ (S ++ (R ++ C)))) :: L))/\A.length + X.length - (((A.length + (S1 ++ S2).length:Nat):Int) + 1).toNat < A.length + X.length - ((A.length + (S1 ++ S2).length:Nat):Int).toNat:=λ{w'} hlast h=>by
  refine ⟨⟨by simp; omega,by simp; omega⟩,⟨S1 ++ y :: S2,R',?_,FK hS hlast (λu hu=>hS2 u (List.mem_of_head? hu)),.inl ⟨by simp,by simp; omega⟩,by simpa using h⟩,by simp; omega⟩
  refine List.Perm.trans ?_ hpm
  simp only [Wj,List.cons_append]
  refine XQ _ ?_
  exact (W4 (l₁:=S2) (l₂:=R') (a:=y)).symm
 intro w3 hd
 have h:=h.eq (aB hd)
 refine ⟨λu=>Gr w3 u,Gr.refl _,ae (λh2=>?_) λh2=>?_⟩
 rotate_left
 ·have h2:S1 = []:=Wv (by have:=V8 h2; omega)
  exact fin (λu hu=>by rw [h2] at hu; cases hu) h
 have h2:0 < S1.length:=by have:=V7 h2; omega
 obtain ⟨S1',z,rfl⟩ : ∃ S1' z,S1 = S1' ++ [z]:=⟨S1.dropLast,S1.getLast (by intro hh; rw [hh] at h2; simp at h2),(List.dropLast_concat_getLast _).symm⟩
 obtain ⟨D,hD⟩ : ∃ D,D = A ++ ((S1' ++ [z]) ++ y :: (S2 ++ (R' ++ C))):=⟨_,rfl⟩
 rw [<- hD] at h
 have e1:D = (A ++ S1') ++ z :: ([] ++ y :: (S2 ++ (R' ++ C))):=by rw [hD]; simp
 have gz:D[A.length + S1'.length]? = some z:=by rw [e1]; exact mr (by simp)
 have gy:D[A.length + S1'.length + 1]? = some y:=by
  rw [e1,show (A ++ S1') ++ z :: ([] ++ y :: (S2 ++ (R' ++ C))) = ((A ++ S1') ++ [z]) ++ y :: (S2 ++ (R' ++ C)) by simp]
  exact mr (by simp; omega)
 have hDn:=FO h
 have b1:A.length + S1'.length < n:=by rw [hDn]; exact (V9.1 gz).1
 have b2:A.length + S1'.length + 1 < n:=by rw [hDn]; exact (V9.1 gy).1
 obtain ⟨ad,ho,rz⟩:=JJ h gz
 obtain ⟨ad',ho',ry⟩:=JJ h gy
 rw [ho] at ho'; cases ho'
 have z1:((A.length + (S1' ++ [z]).length:Nat):Int) = ((A.length + S1'.length + 1:Nat):Int):=by simp only [We,X5]; omega
 have z2:((A.length + S1'.length + 1:Nat):Int) - 1 = ((A.length + S1'.length:Nat):Int):=by simp
 rw [z1,z2]
 refine au ho b2 ⟨_,_,_,_,_,λu g=>ry.at g rfl,⟨by omega,by omega⟩,au ho b1 ⟨_,_,_,_,_,λu g=>rz.at g rfl,bJ.2 ⟨hc.1,(hc.2 y z w3 hsy (hsS z (by simp))).mono ?_⟩⟩⟩
 rintro _ w6 ⟨t,rfl,ht,g6⟩
 have h:=h.gr g6
 refine ⟨_,rfl,g6,ae (λh3=>?_) λh3=>?_⟩
 rotate_left
 ·have h3:=V8 h3
  rw [hD] at h
  refine fin (λu hu=>?_) h
  rw [List.getLast?_concat] at hu
  cases hu
  have:¬ fq y < fq z:=λhh=>h3 (ht.2 hh)
  omega
 have h3:=ht.1 (V7 h3)
 intro w7 hd7
 have h:=h.eq (aB hd7)
 have s7:sub (hp w3) (hp w7):=g6.trans (Gr.drawn hd7)
 refine ⟨λu=>hp u = hp w7,rfl,⟨by omega,by omega⟩,⟨by omega,by omega⟩,au ho b1 ⟨_,_,_,_,_,λu e=>(rz.mono s7).at (by rw [e]; exact sub.refl _) rfl,au ho b2 ⟨_,_,_,_,_,λu e=>(ry.mono s7).at (by rw [e]; exact sub.refl _) rfl,au ho b2 (Sf (x:=z) h ho (by omega) λw10 h=>au ho b1 (Sf (x:=y) h ho (by rw [WE]; omega) λw11 h=>⟨⟨by omega,by omega⟩,⟨S1',z :: S2,by simp,rfl,?_,?_⟩,?_⟩))⟩⟩⟩
 ·intro u hu
  rcases Wp.1 hu with rfl | hu
  ·exact Int.le_of_lt h3
  ·exact hS2 u hu
 ·have e2:(D.set (A.length + S1'.length + 1) z).set (A.length + S1'.length) y = A ++ (S1' ++ y :: (z :: S2 ++ (R' ++ C))):=by
   rw [List.set_comm _ _ (by omega),e1,xL (by simp) (by simp)]; simp
  rw [e2] at h
  exact h
 ·show ((A.length + S1'.length:Nat):Int).toNat - A.length < ((A.length + S1'.length + 1:Nat):Int).toNat - A.length
  omega
end
end Go.Proofs.YtndaepmjkbmjmaaGreatDoor
namespace Go.V
section
variable {α : Type} {k:α->Int}
inductive JK (k:α->Int) (bs:Nat):List α->Prop
 | last (l:List α):l.length<=bs->jP k l->JK k bs l
 | more (l m:List α):l.length = bs->jP k l->JK k bs m->JK k bs (l ++ m)
inductive TF (k:α->Int) (bs:Nat):List α->Prop
 | nil:TF k bs []
 | snoc (d l:List α):TF k bs d->l.length = bs->jP k l->TF k bs (d ++ l)
theorem TF.VM {bs:Nat} {d:List α} (h:TF k bs d):∀ e,JK k bs e->JK k bs (d ++ e):=by
 induction h with
 | nil=>exact λe he=>he
 | snoc d l _ hl hs ih=>exact λe he=>by rw [Wj]; exact ih _ (.more l e hl hs he)
theorem JK.Pd {bs:Nat} {l:List α} (h:JK k bs l) (hl:l.length<=bs):jP k l:=by
 cases h with
 | last _ _ hs=>exact hs
 | more a m ha hs hm =>
  have:m = []:=Wv (by rw [We] at hl; omega)
  subst this
  simpa using hs
theorem JK.cut {bs:Nat} {l:List α} (h:JK k bs l) (hl:bs < l.length):∃ a m,l = a ++ m/\a.length = bs/\jP k a/\JK k bs m/\m≠[]:=by
 cases h with
 | last _ h1 _=>omega
 | more a m ha hs hm=>exact ⟨a,m,rfl,ha,hs,hm,λe=>by subst e; simp at hl; omega⟩
def V3 (X Y:List gU) (H s0 s:Nat):Prop:=s = s0\/∃ x y,X[s - 1]? = some x/\Y[H - s]? = some y/\fq x<=fq y
def V4 (X Y:List gU) (H r0 r:Nat):Prop:=r = r0\/∃ x y,X[r]? = some x/\Y[H - r - 1]? = some y/\fq y < fq x
theorem Rw {n:Nat} (h:n<=4000000):bH .u64 (IntKind.u64.wrap (n:Int)) 1 = ((n / 2:Nat):Int):=by
 have e:IntKind.u64.wrap (n:Int) = (n:Int):=by
  simp only [IntKind.wrap,IntKind.signed,IntKind.bits]
  exact Int.emod_eq_of_lt (by omega) (by omega)
 rw [e]
 exact Bl (s:=1) (by decide)
end
end Go.V
namespace Go.Proofs.YtndaepmjkbmjmaaGreatDoor
open Go.V
section
variable {w:World} {L:List ay} {o:Yg} {n c:Nat} {d:FuncId} {e:List Value}
theorem K3 {i j:Nat} (h:i + j<=4000000):bH .u64 (IntKind.u64.wrap ((i:Int) + (j:Int))) 1 = (((i + j) / 2:Nat):Int):=by
 rw [<- Rw h]; simp
theorem CE (hc:Rv d e) (N:Nat):∀ {w:World} {L:List ay} {A X Y C:List gU} {xs:List gU} {a m b:Int} (h:St w (own 3 o n c (cG xs) :: L)) (hxs:xs = A ++ (X ++ (Y ++ C))) (ha:a = A.length) (hm:m = ((A.length + X.length:Nat):Int)) (hb:b = ((A.length + X.length + Y.length:Nat):Int)) (hX:X≠[]) (hY:Y≠[]) (hN:X.length + Y.length<=N)
  (hsX:jP fq X) (hsY:jP fq Y) (hs:∀ x∈X ++ Y,Ic x) (hn:xs.length<=1000000),
  aA Tryz.prog aR [.slice o n c,.int .i64 a,.int .i64 m,.int .i64 b,.func (.func d) #[] ⟨e⟩] w λv w'=>v = .tuple #[]/\∃ S,S.Perm (X ++ Y)/\jP fq S/\St w' (own 3 o n c (cG (A ++ (S ++ C))) :: L):=by
 induction N with
 | zero=>intro w L A X Y C xs a m b h hxs ha hm hb hX hY hN; exact absurd (Wv (by omega)) hX
 | succ N ih =>
 intro w L A X Y C xs a m b h hxs ha hm hb hX hY hN hsX hsY hs hn
 have hl:xs.length = A.length + X.length + Y.length + C.length:=by rw [hxs]; simp; omega
 have hX1:=XB.2 hX
 have hY1:=XB.2 hY
 have hDl:=FO h
 have hnn:n<=1000000:=by omega
 have smX:∀ x∈X,Ic x:=λx hx=>hs x (by simp [hx])
 have smY:∀ x∈Y,Ic x:=λx hx=>hs x (by simp [hx])
 have hns:ns 1:=by unfold ns; decide
 subst ha hm hb
 -- what stands at a place
 have atX:∀ i,i < X.length->∃ x,X[i]? = some x/\xs[A.length + i]? = some x:=λi hi=>by
  refine ⟨_,Wa hi,?_⟩
  rw [hxs,Wm (by omega),W6,Wl hi,Wa hi]
 have atY:∀ i,i < Y.length->∃ y,Y[i]? = some y/\xs[A.length + X.length + i]? = some y:=λi hi=>by
  refine ⟨_,Wa hi,?_⟩
  rw [hxs,Wm (by omega),show A.length + X.length + i - A.length = X.length + i by omega,Wm (by omega),W6,Wl hi,Wa hi]
 have eA:(((A.length + X.length:Nat):Int) - A.length == 1) = decide (X.length = 1):=by
  rw [WX,X2,Wk]; omega
 have eB:(((A.length + X.length + Y.length:Nat):Int) - ((A.length + X.length:Nat):Int) == 1) = decide (Y.length = 1):=by
  rw [WX,X2,Wk]; omega
 refine fU ⟨⟨by omega,by omega⟩,?_⟩
 rw [eA]
 refine ae (λh1=>?_) λh1=>?_
 ·-- one on the left
  have h1:=V7 h1
  obtain ⟨x,hX0⟩ : ∃ x,X = [x]:=List.length_eq_one_iff.1 h1
  subst hX0
  obtain ⟨_,hx0,gx⟩:=atX 0 (by simp)
  cases hx0
  have hsx:Ic x:=smX x (by simp)
  refine ⟨λi j w'=>∃ i' j' : Nat,i = ((A.length + 1 + i' : Nat):Int)/\j = ((A.length + 1 + j' : Nat):Int)/\i'<=j'/\j'<=Y.length/\(∀ y,0 < i'->Y[i' - 1]? = some y->fq y < fq x)/\(∀ y,Y[j']? = some y->fq x<=fq y)/\St w' (own 3 o n c (cG xs) :: L),λi j _=>j.toNat - i.toNat,⟨0,Y.length,by simp,by simp,Wi _,Wr _,λy hy=>absurd hy (by omega),λy hy=>(by rw [Wt (Wr _)] at hy; cases hy),h⟩,?_⟩
  clear h
  rintro _ _ _ w1 ⟨i',j',rfl,rfl,hij,hj,hlo,hhi,h⟩
  refine ae (λh2=>?_) λh2=>?_
  ·have h2:i' < j':=by have:=V7 h2; omega
   rw [K3 (by omega)]
   obtain ⟨q,hq⟩ : ∃ q,q = (i' + j') / 2:=⟨_,rfl⟩
   have hq2:(A.length + 1 + i' + (A.length + 1 + j')) / 2 = A.length + 1 + q:=by omega
   rw [hq2]
   have hqj:q < j':=by omega
   have hqi:i'<=q:=by omega
   obtain ⟨y,hy,gy⟩:=atY q (by omega)
   have gy:xs[A.length + 1 + q]? = some y:=gy
   refine ⟨⟨by omega,by omega⟩,hns,⟨by omega,by omega⟩,λw2 hd=>?_⟩
   have h:=h.eq (aB hd)
   obtain ⟨ad,ho,ry⟩:=JJ h gy
   obtain ⟨ad',ho',rx⟩:=JJ h gx
   rw [ho] at ho'; cases ho'
   refine ⟨λu=>Gr w2 u,Gr.refl _,au ho (by omega) ⟨_,_,_,_,_,λu g=>ry.at g rfl,au ho (by omega) ⟨_,_,_,_,_,λu g=>rx.at g rfl,bJ.2 ⟨hc.1,(hc.2 y x w2 (smY y (V_ hy)) hsx).mono ?_⟩⟩⟩⟩
   rintro _ w5 ⟨t,rfl,ht,g5⟩
   have h:=h.gr g5
   refine ⟨_,rfl,g5,ae (λh3=>?_) λh3=>?_⟩
   ·have h3:=ht.1 (V7 h3)
    refine ⟨⟨by omega,by omega⟩,⟨q + 1,j',by omega,rfl,by omega,hj,λy' _ hy'=>?_,hhi,h⟩,?_⟩
    ·rw [Nat.add_sub_cancel,hy] at hy'; cases hy'; exact h3
    ·show ((A.length + 1 + j' : Nat):Int).toNat - (((A.length + 1 + q:Nat):Int) + 1).toNat < ((A.length + 1 + j' : Nat):Int).toNat - ((A.length + 1 + i' : Nat):Int).toNat
     omega
   ·have h3:¬ fq y < fq x:=λhh=>(V8 h3) (ht.2 hh)
    refine ⟨⟨i',q,rfl,rfl,hqi,by omega,hlo,λy' hy'=>?_,h⟩,?_⟩
    ·rw [hy] at hy'; cases hy'; omega
    ·show ((A.length + 1 + q:Nat):Int).toNat - ((A.length + 1 + i' : Nat):Int).toNat < ((A.length + 1 + j' : Nat):Int).toNat - ((A.length + 1 + i' : Nat):Int).toNat
     omega
  have h2:i' = j':=by have:=V8 h2; omega
  subst h2
  refine ⟨λz w'=>∃ k:Nat,z = ((A.length + k:Nat):Int)/\k<=i'/\St w' (own 3 o n c (cG (A ++ (Y.take k ++ x :: (Y.drop k ++ C)))) :: L),λz _=>A.length + i' - z.toNat,⟨0,by simp,Wi _,by rw [hxs] at h; simpa using h⟩,?_⟩
  clear h
  rintro _ _ w6 ⟨k,rfl,hk,h⟩
  refine ⟨⟨by omega,by omega⟩,ae (λh3=>?_) λh3=>?_⟩
  rotate_left
  ·have h3:k = i':=by have:=V8 h3; omega
   subst h3
   have hYs:jP fq (Y.take k ++ Y.drop k):=by rw [Wz]; exact hsY
   refine ⟨rfl,Y.take k ++ x :: Y.drop k,?_,FK hYs (λy hy=>?_) (λy hy=>?_),by simpa using h⟩
   ·refine W4.trans ?_
    rw [Wz]; exact .refl _
   ·have hk0:0 < k:=X6 λe=>by subst e; simp at hy
    rw [X7,Wx,show min k Y.length - 1 = k - 1 by omega,Xg,Wn (by omega)] at hy
    exact Int.le_of_lt (hlo y hk0 hy)
   ·rw [List.head?_eq_getElem?,WL,Nat.add_zero] at hy
    exact hhi y hy
  have h3:k < i':=by have:=V7 h3; omega
  intro w7 hd
  have h:=h.eq (aB hd)
  obtain ⟨y,hy⟩ : ∃ y,Y[k]? = some y:=⟨_,Wa (by omega)⟩
  have eY:Y.drop k = y :: Y.drop (k + 1):=by rw [WO (by omega)]; congr 1; rw [Wa (by omega)] at hy; exact Option.some.inj hy
  obtain ⟨D,hD⟩ : ∃ D,D = A ++ (Y.take k ++ x :: (Y.drop k ++ C)):=⟨_,rfl⟩
  rw [<- hD] at h
  have lk:(A ++ Y.take k).length = A.length + k:=by simp; omega
  have e1:D = (A ++ Y.take k) ++ x :: ([] ++ y :: (Y.drop (k + 1) ++ C)):=by rw [hD,eY]; simp
  have g1:D[A.length + k]? = some x:=by rw [e1]; exact mr lk.symm
  have g2:D[A.length + k + 1]? = some y:=by
   rw [e1,show (A ++ Y.take k) ++ x :: ([] ++ y :: (Y.drop (k + 1) ++ C)) = ((A ++ Y.take k) ++ [x]) ++ y :: (Y.drop (k + 1) ++ C) by simp]
   exact mr (by rw [We,lk]; rfl)
  have hDn:=FO h
  have b1:A.length + k < n:=by rw [hDn]; exact (V9.1 g1).1
  have b2:A.length + k + 1 < n:=by rw [hDn]; exact (V9.1 g2).1
  obtain ⟨ad,ho,r1⟩:=JJ h g1
  obtain ⟨ad',ho',r2⟩:=JJ h g2
  rw [ho] at ho'; cases ho'
  have z1:((A.length + k:Nat):Int) + 1 = ((A.length + k + 1:Nat):Int):=by simp
  rw [z1]
  refine ⟨λu=>hp u = hp w7,rfl,⟨by omega,by omega⟩,⟨by omega,by omega⟩,au ho b2 ⟨_,_,_,_,_,λu e=>r2.at (by rw [e]; exact sub.refl _) rfl,au ho b1 ⟨_,_,_,_,_,λu e=>r1.at (by rw [e]; exact sub.refl _) rfl,au ho b1 (Sf (x:=y) h ho (by omega) λw10 h=>au ho b2 (Sf (x:=x) h ho (by rw [WE]; omega) λw11 h=>⟨⟨by omega,by omega⟩,⟨k + 1,rfl,by omega,?_⟩,?_⟩))⟩⟩⟩
  ·have e2:(D.set (A.length + k) y).set (A.length + k + 1) x = A ++ (Y.take (k + 1) ++ x :: (Y.drop (k + 1) ++ C)):=by
    rw [e1,xL lk.symm (by rw [lk]; rfl),Wf,hy]; simp
   rw [e2] at h
   exact h
  ·show A.length + i' - ((A.length + k + 1:Nat):Int).toNat < A.length + i' - ((A.length + k:Nat):Int).toNat
   omega
 have h1:X.length≠1:=V8 h1
 refine ⟨⟨by omega,by omega⟩,?_⟩
 rw [eB]
 refine ae (λh4=>?_) λh4=>?_
 ·-- one on the right
  have h4:=V7 h4
  obtain ⟨y,hY0⟩ : ∃ y,Y = [y]:=List.length_eq_one_iff.1 h4
  subst hY0
  obtain ⟨_,hy0,gy⟩:=atY 0 (by simp)
  cases hy0
  have hsy:Ic y:=smY y (by simp)
  refine ⟨λi j w'=>∃ i' j' : Nat,i = ((A.length + i' : Nat):Int)/\j = ((A.length + j' : Nat):Int)/\i'<=j'/\j'<=X.length/\(∀ x,0 < i'->X[i' - 1]? = some x->fq x<=fq y)/\(∀ x,X[j']? = some x->fq y < fq x)/\St w' (own 3 o n c (cG xs) :: L),λi j _=>j.toNat - i.toNat,⟨0,X.length,by simp,rfl,Wi _,Wr _,λx hx=>absurd hx (by omega),λx hx=>(by rw [Wt (Wr _)] at hx; cases hx),h⟩,?_⟩
  clear h
  rintro _ _ _ w1 ⟨i',j',rfl,rfl,hij,hj,hlo,hhi,h⟩
  refine ae (λh2=>?_) λh2=>?_
  ·have h2:i' < j':=by have:=V7 h2; omega
   rw [K3 (by omega)]
   obtain ⟨q,hq⟩ : ∃ q,q = (i' + j') / 2:=⟨_,rfl⟩
   have hq2:(A.length + i' + (A.length + j')) / 2 = A.length + q:=by omega
   rw [hq2]
   have hqj:q < j':=by omega
   have hqi:i'<=q:=by omega
   obtain ⟨x,hx,gx⟩:=atX q (by omega)
   refine ⟨⟨by omega,by omega⟩,hns,⟨by omega,by omega⟩,λw2 hd=>?_⟩
   have h:=h.eq (aB hd)
   obtain ⟨ad,ho,ry⟩:=JJ h gy
   obtain ⟨ad',ho',rx⟩:=JJ h gx
   rw [ho] at ho'; cases ho'
   refine ⟨λu=>Gr w2 u,Gr.refl _,au ho (by omega) ⟨_,_,_,_,_,λu g=>ry.at g rfl,au ho (by omega) ⟨_,_,_,_,_,λu g=>rx.at g rfl,bJ.2 ⟨hc.1,(hc.2 y x w2 hsy (smX x (V_ hx))).mono ?_⟩⟩⟩⟩
   rintro _ w5 ⟨t,rfl,ht,g5⟩
   have h:=h.gr g5
   refine ⟨_,rfl,g5,ae (λh3=>?_) λh3=>?_⟩
   ·have h3:¬ fq y < fq x:=λhh=>by
     have:=ht.2 hh
     simp at h3; omega
    refine ⟨⟨by omega,by omega⟩,⟨q + 1,j',by omega,rfl,by omega,hj,λx' _ hx'=>?_,hhi,h⟩,?_⟩
    ·rw [Nat.add_sub_cancel,hx] at hx'; cases hx'; omega
    ·show ((A.length + j' : Nat):Int).toNat - (((A.length + q:Nat):Int) + 1).toNat < ((A.length + j' : Nat):Int).toNat - ((A.length + i' : Nat):Int).toNat
     omega
   ·have h3:fq y < fq x:=ht.1 (by simpa using h3)
    refine ⟨⟨i',q,rfl,rfl,hqi,by omega,hlo,λx' hx'=>?_,h⟩,?_⟩
    ·rw [hx] at hx'; cases hx'; exact h3
    ·show ((A.length + q:Nat):Int).toNat - ((A.length + i' : Nat):Int).toNat < ((A.length + j' : Nat):Int).toNat - ((A.length + i' : Nat):Int).toNat
     omega
  have h2:i' = j':=by have:=V8 h2; omega
  subst h2
  refine ⟨λz w'=>∃ k:Nat,z = ((A.length + k:Nat):Int)/\i'<=k/\k<=X.length/\St w' (own 3 o n c (cG (A ++ (X.take k ++ y :: (X.drop k ++ C)))) :: L),λz _=>z.toNat,⟨X.length,rfl,hj,Wr _,by rw [hxs] at h; simpa using h⟩,?_⟩
  clear h
  rintro _ _ w17 ⟨k,rfl,hik,hk,h⟩
  refine ae (λh3=>?_) λh3=>?_
  rotate_left
  ·have h3:k = i':=by have:=V8 h3; omega
   subst h3
   have hXs:jP fq (X.take k ++ X.drop k):=by rw [Wz]; exact hsX
   refine ⟨rfl,X.take k ++ y :: X.drop k,?_,FK hXs (λx hx=>?_) (λx hx=>?_),by simpa using h⟩
   ·refine W4.trans ?_
    rw [Wz]
    exact (List.perm_append_singleton y X).symm
   ·have hk0:0 < k:=X6 λe=>by subst e; simp at hx
    rw [X7,Wx,show min k X.length - 1 = k - 1 by omega,Xg,Wn (by omega)] at hx
    exact hlo x hk0 hx
   ·rw [List.head?_eq_getElem?,WL,Nat.add_zero] at hx
    exact Int.le_of_lt (hhi x hx)
  have h3:i' < k:=by have:=V7 h3; omega
  obtain ⟨k,rfl⟩ : ∃ k',k = k' + 1:=⟨k - 1,by omega⟩
  intro w18 hd
  have h:=h.eq (aB hd)
  obtain ⟨x,hx⟩ : ∃ x,X[k]? = some x:=⟨_,Wa (by omega)⟩
  obtain ⟨D,hD⟩ : ∃ D,D = A ++ (X.take (k + 1) ++ y :: (X.drop (k + 1) ++ C)):=⟨_,rfl⟩
  rw [<- hD] at h
  have lk:(A ++ X.take k).length = A.length + k:=by simp; omega
  have e1:D = (A ++ X.take k) ++ x :: ([] ++ y :: (X.drop (k + 1) ++ C)):=by rw [hD,Wf,hx]; simp
  have g1:D[A.length + k]? = some x:=by rw [e1]; exact mr lk.symm
  have g2:D[A.length + (k + 1)]? = some y:=by
   rw [e1,show (A ++ X.take k) ++ x :: ([] ++ y :: (X.drop (k + 1) ++ C)) = ((A ++ X.take k) ++ [x]) ++ y :: (X.drop (k + 1) ++ C) by simp]
   exact mr (by rw [We,lk]; rfl)
  have hDn:=FO h
  have b1:A.length + k < n:=by rw [hDn]; exact (V9.1 g1).1
  have b2:A.length + (k + 1) < n:=by rw [hDn]; exact (V9.1 g2).1
  obtain ⟨ad,ho,r1⟩:=JJ h g1
  obtain ⟨ad',ho',r2⟩:=JJ h g2
  rw [ho] at ho'; cases ho'
  have z1:((A.length + (k + 1):Nat):Int) - 1 = ((A.length + k:Nat):Int):=by simp; omega
  rw [z1]
  refine ⟨λu=>hp u = hp w18,rfl,⟨by omega,by omega⟩,⟨by omega,by omega⟩,au ho b1 ⟨_,_,_,_,_,λu e=>r1.at (by rw [e]; exact sub.refl _) rfl,au ho b2 ⟨_,_,_,_,_,λu e=>r2.at (by rw [e]; exact sub.refl _) rfl,au ho b2 (Sf (x:=x) h ho (by omega) λw21 h=>au ho b1 (Sf (x:=y) h ho (by rw [WE]; omega) λw22 h=>⟨⟨by omega,by omega⟩,⟨k,rfl,by omega,by omega,?_⟩,?_⟩))⟩⟩⟩
  ·have eX:X.drop k = x :: X.drop (k + 1):=by rw [WO (by omega)]; congr 1; rw [Wa (by omega)] at hx; exact Option.some.inj hx
   have e2:(D.set (A.length + (k + 1)) x).set (A.length + k) y = A ++ (X.take k ++ y :: (X.drop k ++ C)):=by
    rw [List.set_comm _ _ (by omega),e1,xL lk.symm (by rw [lk]; rfl),eX]; simp
   rw [e2] at h
   exact h
  ·show ((A.length + k:Nat):Int).toNat < ((A.length + (k + 1):Nat):Int).toNat
   omega
 have h4:Y.length≠1:=V8 h4
 -- the halves
 obtain ⟨H,hH⟩ : ∃ H,H = (X.length + Y.length) / 2:=⟨_,rfl⟩
 have hM:(A.length + (A.length + X.length + Y.length)) / 2 = A.length + H:=by omega
 have hM1:0 < H:=by omega
 have hM2:H < X.length + Y.length:=by omega
 have hM3:2 * H<=X.length + Y.length:=by omega
 have hM4:X.length + Y.length<=2 * H + 1:=by omega
 rw [K3 (by omega),hM]
 clear hH hM
 refine ⟨⟨by omega,by omega⟩,hns,⟨by omega,by omega⟩,⟨by omega,by omega⟩,λs r w'=>∃ s' r' : Nat,s = ((A.length + s' : Nat):Int)/\r = ((A.length + r' : Nat):Int)/\s'<=r'/\r'<=X.length/\r'<=H/\H - s'<=Y.length/\(s' = 0\/H - s' = Y.length)/\(r' = X.length\/r' = H)/\hp w' = hp w,?_,?_⟩
 ·refine ae (λh5=>?_) λh5=>?_
  ·have h5:H < X.length:=by have:=V7 h5; omega
   exact ⟨⟨by omega,by omega⟩,H - Y.length,H,by omega,by omega,by omega,by omega,by omega,by omega,by omega,by omega,rfl⟩
  ·have h5:X.length<=H:=by have:=V8 h5; omega
   exact ⟨0,X.length,by simp,rfl,Wi _,Wr _,h5,by omega,.inl rfl,.inl rfl,rfl⟩
 rintro _ _ _ w23 ⟨s0,r0,rfl,rfl,hsr,hrX,hrM,hsM,hsc,hrc,e23⟩
 have h:=h.eq e23
 obtain ⟨P,hP⟩ : ∃ P,P = A.length + H + (A.length + X.length):=⟨_,rfl⟩
 refine ⟨⟨by omega,by omega⟩,λs r w'=>∃ s' r' : Nat,s = ((A.length + s' : Nat):Int)/\r = ((A.length + r' : Nat):Int)/\s0<=s'/\s'<=r'/\r'<=r0/\V3 X Y H s0 s'/\V4 X Y H r0 r'/\St w' (own 3 o n c (cG xs) :: L),λs r _=>r.toNat - s.toNat,⟨s0,r0,rfl,rfl,Wr _,hsr,Wr _,.inl rfl,.inl rfl,h⟩,?_⟩
 clear h
 rintro _ _ _ w24 ⟨s,r,rfl,rfl,hs0,hsr',hr0,hlo,hhi,h⟩
 refine ae (λh5=>?_) λh5=>?_
 ·have h5:s < r:=by have:=V7 h5; omega
  rw [K3 (by omega)]
  obtain ⟨q,hq⟩ : ∃ q,q = (s + r) / 2:=⟨_,rfl⟩
  have hq2:(A.length + s + (A.length + r)) / 2 = A.length + q:=by omega
  rw [hq2]
  have hqr:q < r:=by omega
  have hqs:s<=q:=by omega
  have z1:((A.length + H:Nat):Int) + ((A.length + X.length:Nat):Int) - 1 - ((A.length + q:Nat):Int) = ((A.length + X.length + (H - q - 1):Nat):Int):=by omega
  rw [z1]
  obtain ⟨x,hx,gx⟩:=atX q (by omega)
  obtain ⟨y,hy,gy⟩:=atY (H - q - 1) (by omega)
  refine ⟨⟨by omega,by omega⟩,hns,⟨by omega,by omega⟩,λw25 hd=>?_⟩
  have h:=h.eq (aB hd)
  obtain ⟨ad,ho,ry⟩:=JJ h gy
  obtain ⟨ad',ho',rx⟩:=JJ h gx
  rw [ho] at ho'; cases ho'
  refine ⟨λu=>Gr w25 u,Gr.refl _,⟨by omega,by omega⟩,au ho (by omega) ⟨_,_,_,_,_,λu g=>ry.at g rfl,au ho (by omega) ⟨_,_,_,_,_,λu g=>rx.at g rfl,bJ.2 ⟨hc.1,(hc.2 y x w25 (smY y (V_ hy)) (smX x (V_ hx))).mono ?_⟩⟩⟩⟩
  rintro _ w28 ⟨t,rfl,ht,g5⟩
  have h:=h.gr g5
  refine ⟨_,rfl,g5,ae (λh3=>?_) λh3=>?_⟩
  ·have h3:¬ fq y < fq x:=λhh=>by
    have:=ht.2 hh
    simp at h3; omega
   refine ⟨⟨by omega,by omega⟩,⟨q + 1,r,by omega,rfl,by omega,by omega,hr0,.inr ⟨x,y,by rw [Nat.add_sub_cancel]; exact hx,by rw [show H - (q + 1) = H - q - 1 by omega]; exact hy,by omega⟩,hhi,h⟩,?_⟩
   show ((A.length + r:Nat):Int).toNat - (((A.length + q:Nat):Int) + 1).toNat < ((A.length + r:Nat):Int).toNat - ((A.length + s:Nat):Int).toNat
   omega
  ·have h3:fq y < fq x:=ht.1 (by simpa using h3)
   refine ⟨⟨s,q,rfl,rfl,hs0,hqs,by omega,hlo,.inr ⟨x,y,hx,hy,h3⟩,h⟩,?_⟩
   show ((A.length + q:Nat):Int).toNat - ((A.length + s:Nat):Int).toNat < ((A.length + r:Nat):Int).toNat - ((A.length + s:Nat):Int).toNat
   omega
 have h5:s = r:=by have:=V8 h5; omega
 subst h5
 obtain ⟨t,ht⟩ : ∃ t,t = H - s:=⟨_,rfl⟩
 have htY:t<=Y.length:=by omega
 have z2:((A.length + H:Nat):Int) + ((A.length + X.length:Nat):Int) - ((A.length + s:Nat):Int) = ((A.length + X.length + t:Nat):Int):=by omega
 rw [z2]
 have hXs:jP fq (X.take s ++ X.drop s):=by rw [Wz]; exact hsX
 have hYs:jP fq (Y.take t ++ Y.drop t):=by rw [Wz]; exact hsY
 have lX1:(X.take s).length = s:=by simp; omega
 have lX2:(X.drop s).length = X.length - s:=by simp
 have lY1:(Y.take t).length = t:=by simp; omega
 have lY2:(Y.drop t).length = Y.length - t:=by simp
 have c1:∀ x y,(X.take s).getLast? = some x->(Y.drop t).head? = some y->fq x<=fq y:=λx y hx hy=>by
  have hs1:0 < s:=X6 λe=>by subst e; simp at hx
  rw [X7,lX1,Xg,Wn (by omega)] at hx
  rw [List.head?_eq_getElem?,WL,Nat.add_zero] at hy
  rcases hlo with e | ⟨x',y',e1,e2,e3⟩
  ·have:t = Y.length:=by omega
   rw [this,Wt (Wr _)] at hy; cases hy
  ·rw [hx] at e1; cases e1
   rw [<- ht,hy] at e2; cases e2
   exact e3
 have c2:∀ x y,(Y.take t).getLast? = some x->(X.drop s).head? = some y->fq x<=fq y:=λx y hx hy=>by
  have ht1:0 < t:=X6 λe=>by subst e; simp at hx
  rw [X7,lY1,Xg,Wn (by omega)] at hx
  rw [List.head?_eq_getElem?,WL,Nat.add_zero] at hy
  rcases hhi with e | ⟨x',y',e1,e2,e3⟩
  ·have:s = X.length:=by omega
   rw [this,Wt (Wr _)] at hy; cases hy
  ·rw [hy] at e1; cases e1
   rw [<- ht,hx] at e2; cases e2
   exact Int.le_of_lt e3
 have rest:∀ w29,St w29 (own 3 o n c (cG (A ++ (X.take s ++ (Y.take t ++ (X.drop s ++ (Y.drop t ++ C)))))) :: L)->br (decide ((A.length:Int) < ((A.length + s:Nat):Int))) (br (decide (((A.length + s:Nat):Int) < ((A.length + H:Nat):Int))) (aA Tryz.prog aR [.slice o n c,.int .i64 (A.length:Int),.int .i64 ((A.length + s:Nat):Int),.int .i64 ((A.length + H:Nat):Int),.func (.func d) #[] ⟨e⟩] w29 λv4 w30=>v4 = .tuple #[]/\br (decide (((A.length + H:Nat):Int) < ((A.length + X.length + t:Nat):Int))) (br (decide (((A.length + X.length + t:Nat):Int) < ((A.length + X.length + Y.length:Nat):Int))) (aA Tryz.prog aR [.slice o n c,.int .i64 ((A.length + H:Nat):Int),.int .i64 ((A.length + X.length + t:Nat):Int),.int .i64 ((A.length + X.length + Y.length:Nat):Int),.func (.func d) #[] ⟨e⟩] w30 λv5 w31=>v5 = .tuple #[]/\((.tuple #[] : Value) = .tuple #[]/\∃ S,S.Perm (X ++ Y)/\jP fq S/\St w31 (own 3 o n c (cG (A ++ (S ++ C))) :: L))) ((.tuple #[] : Value) = .tuple #[]/\∃ S,S.Perm (X ++ Y)/\jP fq S/\St w30 (own 3 o n c (cG (A ++ (S ++ C))) :: L))) ((.tuple #[] : Value) = .tuple #[]/\∃ S,S.Perm (X ++ Y)/\jP fq S/\St w30 (own 3 o n c (cG (A ++ (S ++ C))) :: L)))
   (br (decide (((A.length + H:Nat):Int) < ((A.length + X.length + t:Nat):Int))) (br (decide (((A.length + X.length + t:Nat):Int) < ((A.length + X.length + Y.length:Nat):Int))) (aA Tryz.prog aR [.slice o n c,.int .i64 ((A.length + H:Nat):Int),.int .i64 ((A.length + X.length + t:Nat):Int),.int .i64 ((A.length + X.length + Y.length:Nat):Int),.func (.func d) #[] ⟨e⟩] w29 λv5 w31=>v5 = .tuple #[]/\((.tuple #[] : Value) = .tuple #[]/\∃ S,S.Perm (X ++ Y)/\jP fq S/\St w31 (own 3 o n c (cG (A ++ (S ++ C))) :: L))) ((.tuple #[] : Value) = .tuple #[]/\∃ S,S.Perm (X ++ Y)/\jP fq S/\St w29 (own 3 o n c (cG (A ++ (S ++ C))) :: L))) ((.tuple #[] : Value) = .tuple #[]/\∃ S,S.Perm (X ++ Y)/\jP fq S/\St w29 (own 3 o n c (cG (A ++ (S ++ C))) :: L))))
   (br (decide (((A.length + H:Nat):Int) < ((A.length + X.length + t:Nat):Int))) (br (decide (((A.length + X.length + t:Nat):Int) < ((A.length + X.length + Y.length:Nat):Int))) (aA Tryz.prog aR [.slice o n c,.int .i64 ((A.length + H:Nat):Int),.int .i64 ((A.length + X.length + t:Nat):Int),.int .i64 ((A.length + X.length + Y.length:Nat):Int),.func (.func d) #[] ⟨e⟩] w29 λv5 w31=>v5 = .tuple #[]/\((.tuple #[] : Value) = .tuple #[]/\∃ S,S.Perm (X ++ Y)/\jP fq S/\St w31 (own 3 o n c (cG (A ++ (S ++ C))) :: L))) ((.tuple #[] : Value) = .tuple #[]/\∃ S,S.Perm (X ++ Y)/\jP fq S/\St w29 (own 3 o n c (cG (A ++ (S ++ C))) :: L))) ((.tuple #[] : Value) = .tuple #[]/\∃ S,S.Perm (X ++ Y)/\jP fq S/\St w29 (own 3 o n c (cG (A ++ (S ++ C))) :: L))):=by
  intro w29 h
  -- the second half
  have second:∀ {w30:World} {S1:List gU},S1.Perm (X.take s ++ Y.take t)->jP fq S1->St w30 (own 3 o n c (cG (A ++ (S1 ++ (X.drop s ++ (Y.drop t ++ C))))) :: L)->br (decide (((A.length + H:Nat):Int) < ((A.length + X.length + t:Nat):Int))) (br (decide (((A.length + X.length + t:Nat):Int) < ((A.length + X.length + Y.length:Nat):Int))) (aA Tryz.prog aR [.slice o n c,.int .i64 ((A.length + H:Nat):Int),.int .i64 ((A.length + X.length + t:Nat):Int),.int .i64 ((A.length + X.length + Y.length:Nat):Int),.func (.func d) #[] ⟨e⟩] w30 λv5 w31=>v5 = .tuple #[]/\((.tuple #[] : Value) = .tuple #[]/\∃ S,S.Perm (X ++ Y)/\jP fq S/\St w31 (own 3 o n c (cG (A ++ (S ++ C))) :: L))) ((.tuple #[] : Value) = .tuple #[]/\∃ S,S.Perm (X ++ Y)/\jP fq S/\St w30 (own 3 o n c (cG (A ++ (S ++ C))) :: L))) ((.tuple #[] : Value) = .tuple #[]/\∃ S,S.Perm (X ++ Y)/\jP fq S/\St w30 (own 3 o n c (cG (A ++ (S ++ C))) :: L)):=by
   intro w30 S1 p1 s1 h
   have l1:S1.length = s + t:=by rw [p1.length_eq,We,lX1,lY1]
   have fin:∀ {w31:World} {S2:List gU},S2.Perm (X.drop s ++ Y.drop t)->jP fq S2->St w31 (own 3 o n c (cG (A ++ (S1 ++ (S2 ++ C)))) :: L)->∃ S,S.Perm (X ++ Y)/\jP fq S/\St w31 (own 3 o n c (cG (A ++ (S ++ C))) :: L):=λ{w31 S2} p2 s2 h=>by
    obtain ⟨q1,q2⟩:=JH hXs hYs c1 c2 p1 s1 p2 s2
    rw [Wz,Wz] at q2
    exact ⟨S1 ++ S2,q2,q1,by rw [Wj]; exact h⟩
   refine ae (λh6=>?_) λh6=>?_
   rotate_left
   ·have:X.drop s = []:=Wv (by have:=V8 h6; omega)
    exact ⟨rfl,fin (S2:=X.drop s ++ Y.drop t) (.refl _) (by rw [this,WT]; exact (fF.1 hYs).2.1) (by simpa using h)⟩
   have h6:s < X.length:=by have:=V7 h6; omega
   refine ae (λh7=>?_) λh7=>?_
   rotate_left
   ·have:Y.drop t = []:=Wv (by have:=V8 h7; omega)
    exact ⟨rfl,fin (S2:=X.drop s ++ Y.drop t) (.refl _) (by rw [this,WG]; exact (fF.1 hXs).2.1) (by simpa using h)⟩
   have h7:t < Y.length:=by have:=V7 h7; omega
   refine (ih (A:=A ++ S1) (X:=X.drop s) (Y:=Y.drop t) (C:=C) h (by simp) (by simp; omega) (by simp; omega) (by simp; omega) (λhh=>by rw [hh] at lX2; simp at lX2; omega) (λhh=>by rw [hh] at lY2; simp at lY2; omega) (by rw [lX2,lY2]; omega) (fF.1 hXs).2.1 (fF.1 hYs).2.1 (λz hz=>?_) (by simp [l1]; omega)).mono ?_
   ·rcases Wd.1 hz with hz | hz
    ·exact smX z (Xm hz)
    ·exact smY z (Xm hz)
   rintro _ w31 ⟨rfl,S2,p2,s2,h⟩
   exact ⟨rfl,rfl,fin p2 s2 (by simpa using h)⟩
  refine ae (λh6=>?_) λh6=>?_
  rotate_left
  ·have:X.take s = []:=Wv (by rw [lX1]; have:=V8 h6; omega)
   exact second (S1:=X.take s ++ Y.take t) (.refl _) (by rw [this,WT]; exact (fF.1 hYs).1) (by simpa using h)
  have h6:0 < s:=by have:=V7 h6; omega
  refine ae (λh7=>?_) λh7=>?_
  rotate_left
  ·have:Y.take t = []:=Wv (by rw [lY1]; have:=V8 h7; omega)
   exact second (S1:=X.take s ++ Y.take t) (.refl _) (by rw [this,WG]; exact (fF.1 hXs).1) (by simpa using h)
  have h7:0 < t:=by have:=V7 h7; omega
  refine (ih (A:=A) (X:=X.take s) (Y:=Y.take t) (C:=X.drop s ++ (Y.drop t ++ C)) h rfl rfl (by simp; omega) (by simp; omega) (λhh=>by rw [hh] at lX1; simp at lX1; omega) (λhh=>by rw [hh] at lY1; simp at lY1; omega) (by rw [lX1,lY1]; omega) (fF.1 hXs).1 (fF.1 hYs).1 (λz hz=>?_) (by simp; omega)).mono ?_
  ·rcases Wd.1 hz with hz | hz
   ·exact smX z (Yb hz)
   ·exact smY z (Yb hz)
  rintro _ w30 ⟨rfl,S1,p1,s1,h⟩
  exact ⟨rfl,second p1 s1 h⟩
 refine ⟨⟨by omega,by omega⟩,λw'=>St w' (own 3 o n c (cG (A ++ (X.take s ++ (Y.take t ++ (X.drop s ++ (Y.drop t ++ C)))))) :: L),?_,λ_ w29 h=>rest w29 h⟩
 have exs:xs = A ++ (X.take s ++ (X.drop s ++ (Y.take t ++ (Y.drop t ++ C)))):=by
  rw [hxs,<- Wj (X.take s),Wz,<- Wj (Y.take t),Wz]
 refine ae (λh6=>?_) λh6=>?_
 rotate_left
 ·have:X.drop s = []:=Wv (by have:=V8 h6; omega)
  rw [exs,this] at h
  rw [this]
  simpa using h
 have h6:s < X.length:=by have:=V7 h6; omega
 refine ae (λh7=>?_) λh7=>?_
 rotate_left
 ·have:Y.take t = []:=Wv (by rw [lY1]; have:=V8 h7; omega)
  rw [exs,this] at h
  rw [this]
  simpa using h
 have h7:0 < t:=by have:=V7 h7; omega
 refine (Pc (A:=A ++ X.take s) (X:=X.drop s) (Y:=Y.take t) (C:=Y.drop t ++ C) h (by rw [exs]; simp) (by simp; omega) (by simp; omega) (by simp; omega) (λhh=>by rw [hh] at lX2; simp at lX2; omega) (λhh=>by rw [hh] at lY1; simp at lY1; omega) hn).mono ?_
 rintro _ w29 ⟨rfl,h⟩
 exact ⟨rfl,by simpa using h⟩
end
end Go.Proofs.YtndaepmjkbmjmaaGreatDoor
namespace Go.Proofs.YtndaepmjkbmjmaaGreatDoor
open Go.V
section
variable {w:World} {L:List ay} {o:Yg} {n c:Nat} {d:FuncId} {e:List Value}
theorem Pe {xs:List gU} (hc:Rv d e) (h:St w (own 3 o n c (cG xs) :: L)) (hs:∀ x∈xs,Ic x) (hn:n<=100000) :
  aA Tryz.prog iV [.slice o n c,.int .i64 (n:Int),.func (.func d) #[] ⟨e⟩] w λv w'=>v = .tuple #[]/\∃ ys,ys.Perm xs/\jP fq ys/\St w' (own 3 o n c (cG ys) :: L):=by
 have hnl:=FO h
 refine gZ ⟨λa b w'=>∃ D E:List gU,a = (D.length:Int)/\b = (D.length:Int) + 20/\(D ++ E).Perm xs/\TF fq 20 D/\St w' (own 3 o n c (cG (D ++ E)) :: L),λa _ _=>n - a.toNat,⟨[],xs,rfl,rfl,.refl _,.nil,h⟩,?_⟩
 clear h
 rintro _ _ _ w1 ⟨D,E,rfl,rfl,hp,hF,h⟩
 have hpl:D.length + E.length = xs.length:=by have:=hp.length_eq; simpa using this
 have smE:∀ x∈E,Ic x:=λx hx=>hs x (hp.mem_iff.1 (by simp [hx]))
 refine ae (λh1=>?_) λh1=>?_
 ·have h1:D.length + 20<=n:=by have:=V7 h1; omega
  have l1:(E.take 20).length = 20:=by rw [Wx]; omega
  refine (HT (A:=D) (X:=E.take 20) (C:=E.drop 20) hc h (by rw [Wz]) rfl (by rw [l1]; simp) (λx hx=>smE x (Yb hx)) (by simp; omega)).mono ?_
  rintro _ w2 ⟨rfl,S,pS,sS,h⟩
  have lS:S.length = 20:=by rw [pS.length_eq,l1]
  refine ⟨rfl,⟨by omega,by omega⟩,⟨D ++ S,E.drop 20,by simp [lS],by simp [lS],?_,.snoc D S hF lS sS,by simpa using h⟩,?_⟩
  ·refine List.Perm.trans ?_ hp
   rw [Wj]
   refine XQ _ ?_
   exact (pS.append_right _).trans (by rw [Wz])
  ·show n - ((D.length:Int) + 20).toNat < n - (D.length:Int).toNat
   omega
 have h1:n < D.length + 20:=by have:=V8 h1; omega
 refine (HT (A:=D) (X:=E) (C:=[]) hc h (by simp) rfl (by omega) smE (by simp; omega)).mono ?_
 rintro _ w3 ⟨rfl,S,pS,sS,h⟩
 have lS:S.length = E.length:=pS.length_eq
 have hR0:JK fq 20 (D ++ S):=hF.VM S (.last S (by omega) sS)
 have hp0:(D ++ S).Perm xs:=(XQ _ pS).trans hp
 refine ⟨rfl,λz w'=>∃ (bs:Nat) (ys:List gU),z = bs/\20<=bs/\bs<=200000/\ys.Perm xs/\JK fq bs ys/\St w' (own 3 o n c (cG ys) :: L),λz _=>n - z.toNat,⟨20,D ++ S,rfl,Wr _,by omega,hp0,hR0,by simpa using h⟩,?_⟩
 clear h hp hF hp0 hR0 pS sS lS hpl smE h1
 rintro _ _ w4 ⟨bs,ys,rfl,hb20,hbM,hp,hR,h⟩
 have hyl:ys.length = n:=by rw [hp.length_eq]; exact hnl.symm
 refine ae (λh1=>?_) λh1=>?_
 rotate_left
 ·have h1:n<=bs:=by have:=V8 h1; omega
  exact ⟨rfl,ys,hp,hR.Pd (by omega),h⟩
 have h1:bs < n:=by have:=V7 h1; omega
 have z0:2 * (bs:Int) = ((2 * bs:Nat):Int):=by simp
 rw [z0]
 refine ⟨⟨by omega,by omega⟩,λa b w'=>∃ D E:List gU,a = (D.length:Int)/\b = ((D.length + 2 * bs:Nat):Int)/\(D ++ E).Perm xs/\TF fq (2 * bs) D/\JK fq bs E/\St w' (own 3 o n c (cG (D ++ E)) :: L),λa _ _=>n - a.toNat,⟨[],ys,rfl,by simp,hp,.nil,hR,h⟩,?_⟩
 clear h hp hR hyl
 rintro _ _ _ w5 ⟨D,E,rfl,rfl,hp,hF,hR,h⟩
 have hpl:D.length + E.length = xs.length:=by have:=hp.length_eq; simpa using this
 have smE:∀ x∈E,Ic x:=λx hx=>hs x (hp.mem_iff.1 (by simp [hx]))
 refine ae (λh2=>?_) λh2=>?_
 ·have h2:D.length + 2 * bs<=n:=by have:=V7 h2; omega
  obtain ⟨X,m,rfl,hX,sX,hm,_⟩:=hR.cut (by omega)
  have hml:bs<=m.length:=by simp at hpl; omega
  obtain ⟨Y,E',rfl,hY,sY,hE'⟩ : ∃ Y E',m = Y ++ E'/\Y.length = bs/\jP fq Y/\JK fq bs E':=by
   by_cases e:m.length = bs
   ·exact ⟨m,[],by simp,e,hm.Pd (by omega),.last [] (Wi _) .nil⟩
   ·obtain ⟨Y,E',q1,q2,q3,q4,_⟩:=hm.cut (by omega)
    exact ⟨Y,E',q1,q2,q3,q4⟩
  refine ⟨⟨by omega,by omega⟩,(CE hc (X.length + Y.length) (A:=D) (X:=X) (Y:=Y) (C:=E') h (by simp) rfl (by rw [hX]; simp) (by rw [hX,hY]; omega) (λhh=>by rw [hh] at hX; simp at hX; omega) (λhh=>by rw [hh] at hY; simp at hY; omega) (Wr _) sX sY (λx hx=>smE x ?_) (by simp at hpl ⊢; omega)).mono ?_⟩
  ·rcases Wd.1 hx with hx | hx <;> simp [hx]
  rintro _ w6 ⟨rfl,S,pS,sS,h⟩
  have lS:S.length = 2 * bs:=by rw [pS.length_eq,We]; omega
  refine ⟨rfl,⟨by omega,by omega⟩,⟨by omega,by omega⟩,⟨D ++ S,E',by simp [lS],by simp [lS],?_,.snoc D S hF lS sS,hE',by simpa using h⟩,?_⟩
  ·refine List.Perm.trans ?_ hp
   rw [Wj]
   refine XQ _ ?_
   rw [<- Wj]
   exact pS.append_right _
  ·show n - ((D.length + 2 * bs:Nat):Int).toNat < n - (D.length:Int).toNat
   omega
 have h2:n < D.length + 2 * bs:=by have:=V8 h2; omega
 have z1:(D.length:Int) + (bs:Int) = ((D.length + bs:Nat):Int):=by simp
 rw [z1]
 have next:∀ {w' : World} {S:List gU},S.Perm E->jP fq S->St w' (own 3 o n c (cG (D ++ S)) :: L)->ax ((bs:Int) * 2)/\(∃ (bs' : Nat) (ys:List gU),(bs:Int) * 2 = bs'/\20<=bs'/\bs'<=200000/\ys.Perm xs/\JK fq bs' ys/\St w' (own 3 o n c (cG ys) :: L))/\n - ((bs:Int) * 2).toNat < n - (bs:Int).toNat:=λ{w' S} pS sS h=>by
  have lS:=pS.length_eq
  refine ⟨⟨by omega,by omega⟩,⟨2 * bs,D ++ S,by omega,by omega,by omega,(XQ _ pS).trans hp,hF.VM S (.last S (by omega) sS),h⟩,by omega⟩
 refine ⟨⟨by omega,by omega⟩,ae (λh3=>?_) λh3=>?_⟩
 ·have h3:D.length + bs < n:=by have:=V7 h3; omega
  obtain ⟨X,Y,rfl,hX,sX,hY,hY0⟩:=hR.cut (by omega)
  have hYl:Y.length < bs:=by simp at hpl; omega
  refine (CE hc (X.length + Y.length) (A:=D) (X:=X) (Y:=Y) (C:=[]) h (by simp) rfl (by rw [hX]) (by simp at hpl; omega) (λhh=>by rw [hh] at hX; simp at hX; omega) hY0 (Wr _) sX (hY.Pd (by omega)) smE (by simp at hpl ⊢; omega)).mono ?_
  rintro _ w7 ⟨rfl,S,pS,sS,h⟩
  exact ⟨rfl,next pS sS (by simpa using h)⟩
 ·exact next (.refl E) (hR.Pd (by have:=V8 h3; omega)) h
theorem Pf:Rv mv []:=by
 refine ⟨rfl,λx y u hx hy=>?_⟩
 obtain ⟨x1,x2⟩:=hx
 obtain ⟨y1,y2⟩:=hy
 refine uP (ah (St.all u) λk1 w1 h=>ah h λk2 w2 h=>?_)
 refine ⟨_,(ai 1 h.l).cell (sub.refl _) (j:=1) rfl,_,(ai 0 h.l).cell (sub.refl _) (j:=1) rfl,⟨by omega,by omega⟩,_,rfl,?_,aU 2 h.l⟩
 show x.1.2 - y.1.2 < 0↔x.1.2 < y.1.2
 omega
theorem Pg {xs:List gU} (h:St w (own 3 o xs.length c (cG xs) :: aG (np xs) :: L)) (hs:∀ x∈xs,Ic x) (hn:xs.length<=100000) :
  aA Tryz.prog dX [.slice o xs.length c,.func (.func mv) #[] #[]] w λv w'=>v = .tuple #[]/\∃ ys:List gU,ys.Perm xs/\jP fq ys/\St w' (own 3 o xs.length c (cG ys) :: aG (np ys) :: L):=by
 refine dK ((Pe Pf h hs hn).mono ?_)
 rintro _ w' ⟨rfl,ys,p,s,h⟩
 refine ⟨rfl,rfl,ys,p,s,?_⟩
 have h1:=St.flat.1 (h.pick 2 [1,0])
 have h2:=h1.perm ((p.map λb=>dm 1 iv b.2).symm.append_right _)
 exact (St.flat.2 h2).pick 2 [1,0]
end
end Go.Proofs.YtndaepmjkbmjmaaGreatDoor
namespace Go.V
open Go.Proofs.YtndaepmjkbmjmaaGreatDoor
section
variable {g:af} {nn:List Bool} {ss:List SQ}
theorem zn {q:Nat} {es:List aO}:(mu g q es).length<=es.length:=by
 unfold mu; rw [Wh]; exact WM _ _
theorem Mh {q:Nat} {K:List ag}:(tq q K).length<=1:=by unfold tq; split <;> simp
theorem Em (h:∀ q∈ss,q.2.2.length<=130):∀ n,(lA g ss n).length<=n * 131
 | 0=>by simp [lA]
 | n + 1=>by
  rw [Cy,We]
  have h1:=Em h n
  have h2:(xM g ss n).length<=131:=by
   unfold xM
   split
   ·rename_i r hr
    have:=h r (V_ hr)
    have:=zn (g:=g) (q:=n) (es:=r.2.2)
    have:=Mh (q:=n) (K:=r.1.2)
    rw [We]; omega
   ·simp
  omega
theorem Eo {l:bG} {n:Nat}:(tt l n).length<=n:=by unfold tt; simp; omega
theorem Ep {ls:List bG} (h:∀ l∈ls,l.tm.length<=65):∀ n,(oz ls n).length<=n * 65
 | 0=>by simp [oz]
 | n + 1=>by
  have h1:=Ep h n
  cases hl:ls[n]? with
  | none =>
   have e:ls.take (n + 1) = ls.take n:=by rw [Wf,hl]; simp
   unfold oz at h1 ⊢
   rw [e]; omega
  | some l =>
   rw [CA hl,We]
   have h2:=Eo (l:=l) (n:=l.tm.length)
   have h3:=h l (V_ hl)
   omega
def Vt (g:af) (nn:List Bool) (ss:List SQ) (ps:List (dW × Lq bV)):Prop:=(ps.map Prod.fst).Nodup/\∀ q t:Nat,q < ss.length->t < g.T->gn ⟨(q:Int),(t:Int)⟩ ps = dM g nn ss q t
end
end Go.V
namespace Go.V
theorem VN {w:World} {L:List ay} {ds:List gU} {i:Nat} {b:gU} (h:St w (aG (np ds) :: L)) (hb:ds[i]? = some b):a_ (hp w) b.2.2 b.2.1.1 b.2.2.length:=by
 have hA:(np ds)[i]? = some (dm 1 iv b.2):=by unfold np; rw [Wc,hb]; rfl
 have h2:=St.out h hA
 exact dS rfl (fN 0 h2.l)
end Go.V
namespace Go.Proofs.YtndaepmjkbmjmaaGreatDoor
open Go.V
variable {w:World} {L:List ay} {g:af} {x:GA}
theorem Ph {xs:List ag} {a:Yg} {l c:Nat} {d e:Int} (hr:a_ (hp w) xs a l) (hb:l<=4611686018427387904):aA Tryz.prog fJ [.slice a l c,.agg #[.int .i64 d,.int .i64 e]] w λv w'=>v = .bool (decide ((⟨d,e⟩ : ag)∈xs))/\Gr w w':=by
 have hl:=hr.1
 refine fe (ah (St.all w) λk1 w1 h=>?_)
 have g1:Gr w w1:=h.aZ
 refine ⟨_,_,(ai 0 h.l).at (sub.refl _) rfl,?_⟩
 clear h
 have hr:=hr.mono g1
 have key:aA Tryz.prog ij [.slice a l c,.agg #[.int .i64 d,.int .i64 e]] w1 λv w'=>∃ z:Int,v = .int .i64 z/\(0<=z↔(⟨d,e⟩ : ag)∈xs)/\Gr w1 w':=by
  refine ga (ah (St.all w1) λk2 w2 h=>?_)
  have g2:Gr w1 w2:=h.aZ
  have rk:av (hp w2) (aM k2) [.int .i64 d,.int .i64 e]:=ai 0 h.l
  clear h
  have hr:=hr.mono g2
  refine ⟨λz w'=>∃ j:Nat,z = j/\j<=l/\(⟨d,e⟩ : ag)∉xs.take j/\hp w' = hp w2,λz _=>l - z.toNat,⟨0,rfl,Wi _,by simp,rfl⟩,?_⟩
  rintro _ _ w3 ⟨j,rfl,hj,hno,e3⟩
  refine ae (λh1=>?_) λh1=>?_
  rotate_left
  ·have h1:j = l:=by have:=V8 h1; omega
   rw [Wq (by omega)] at hno
   exact ⟨-1,rfl,⟨λh=>by omega,λh=>absurd h hno⟩,g2.trans (Gr.of_eq e3)⟩
  have h1:j < l:=by have:=V7 h1; omega
  obtain ⟨y,ad,hy,rfl,ry⟩:=od hr h1
  intro w4 hd
  have e4:hp w4 = hp w2:=(aB hd).trans e3
  have sb:∀ u:World,hp u = hp w2->sub (hp w2) (hp u):=λu e=>by rw [e]; exact sub.refl _
  refine ⟨λu=>hp u = hp w2,e4,_,_,λu e=>rk.at (sb u e) rfl,au rfl h1 ⟨_,_,λu e=>ry.at (sb u e) rfl,_,λu _=>BR u _ _ ⟨d,e⟩ y,_,rfl,ae (λh2=>?_) λh2=>?_⟩⟩
  ·have h2:=V7 h2
   exact ⟨j,rfl,⟨λ_=>by rw [h2]; exact V_ hy,λ_=>WJ _⟩,g2.trans (Gr.of_eq e4)⟩
  ·have h2:=V8 h2
   refine ⟨⟨by omega,by omega⟩,⟨j + 1,by simp,h1,λhm=>?_,e4⟩,bw h1⟩
   rw [Wf,hy,Wd] at hm
   rcases hm with hm | hm
   ·exact hno hm
   ·simp at hm; exact h2 hm
 refine key.mono ?_
 rintro _ w' ⟨z,rfl,hz,g⟩
 refine ⟨z,rfl,?_,g1.trans g⟩
 rw [show decide (0<=z) = decide ((⟨d,e⟩ : ag)∈xs) from decide_eq_decide.2 hz]
theorem HU (hg:gR (hp w) g x) (hb:iE g) (ht:eM (hp w)):aA Tryz.prog CD [.agg ⟨x.cells⟩] w λv w'=>∃ (ss:List SQ) (ask int f:Int) (nn:List Bool) (b:Option Nat) (z:Int),v = .tuple #[.map b,.int .i64 z,.int .i64 f]/\tT g ss ask int f/\(f = 0->ju g nn)/\Gr w w'/\(f = 0->∃ (k:Nat) (ps:List (dW × Lq bV)),b = some k/\z = (ss.length:Int)/\Vt g nn ss ps/\St w' (mapA k (mV ps) :: aG (mO 2 mZ ps) :: all w)):=by
 refine zl (cW hg λk1 w1 gw hg1 B=>?_)
 refine ⟨_,_,_,_,_,_,_,_,_,_,_,_,_,B.row (sub.refl _),(B5 hg1 hb).mono ?_⟩
 rintro _ w2 ⟨o,c,ss,ask,int,f,rfl,hR,h3⟩
 have g12:Gr w1 w2:=aU 3 h3.l
 have hs:xl (hp w2) ss o:=tS h3.l
 clear h3
 refine ⟨_,_,_,_,_,_,rfl,ah (St.all w2) λk12 w3 h=>bx h rfl (by simp [aV]) λw4 h=>?_⟩
 have g24:Gr w2 w4:=h.aZ
 have r12:av (hp w4) (aM k12) [.slice o ss.length c,.int .i64 ask,.int .i64 int]:=ai 0 h.l
 clear h
 have g14:=g12.trans g24
 refine ae (λh1=>?_) λh1=>?_
 ·have h1:f≠0:=by simpa using h1
  exact ⟨ss,ask,int,f,[],none,0,rfl,hR,λh=>absurd h h1,gw.trans g14,λh=>absurd h h1⟩
 have h1:f = 0:=by simpa using h1
 subst h1
 obtain ⟨hc,hA⟩:=hR.L4 rfl
 have hkl:=hA.yG hc
 have h256:=hA.dn.2.1
 obtain ⟨sT,sN,sP,_,_,_⟩:=hc.ct
 have tl:=hg.t.1
 refine ⟨_,_,_,_,_,_,_,_,_,_,_,_,_,B.row g14,(TA (hg1.mono g14) hb (eR.mono (gw.trans g14) ht)).mono ?_⟩
 rintro _ w5 ⟨ss2,ask2,int2,f2,nn,oS,cS,ds,rfl,hR2,hn,hds,h⟩
 obtain ⟨_,hes,_,_,ef,_⟩:=hR.one hR2
 subst ef
 rw [Ec hes.symm] at hds
 have hnn:=hn rfl
 refine ⟨_,_,_,_,rfl,ae (λh1=>by simp at h1) λ_=>?_⟩
 obtain ⟨hbl,_⟩:=AP hc hA
 have hdl:ds.length<=24832:=by
  have:=congrArg List.length hds
  rw [Wh,vQ] at this
  omega
 have hlk:∀ l∈bq g nn ss,l.tm.length<=65:=λl hl=>by
  obtain ⟨b,_,rfl⟩:=Wu.1 hl
  exact WC HO sT
 have hs:=hs.mono g24
 have hel:∀ q∈ss,q.2.2.length<=130:=λq hq=>(hkl q hq).2
 have pS:∀ n,n<=ss.length->(lA g ss n).length<=33536:=λn hn=>by have:=Em (g:=g) hel n; omega
 have smD:∀ b∈ds,Ic b:=λb hb=>by
  have hm:jb b∈bq g nn ss:=by rw [<- hds]; exact List.mem_map_of_mem hb
  obtain ⟨q,m,_,hm2,_,e⟩:=xN hm
  have e:b.1.2 = (m:Int):=congrArg bG.prod e
  unfold Ic; omega
 refine mh h λk23 w6 h=>?_
 have h:St w6 (mapA k23 (mV ([] : List (dW × Lq bV))) :: own 3 oS ds.length cS (cG ds) :: aG (np ds) :: all w4):=dC h
 have h:St w6 (mapA k23 (mV ([] : List (dW × Lq bV))) :: aG (mO 2 mZ ([] : List (dW × Lq bV))) :: own 3 oS ds.length cS (cG ds) :: aG (np ds) :: all w4):=((St.flat (M:=[])).2 h).pick 2 [1,0]
 refine ⟨_,_,_,r12.cell0 (aU 4 h.l),λz w'=>∃ (q:Nat) (ps:List (dW × Lq bV)),z = q/\q<=ss.length/\An ps (lA g ss q)/\St w' (mapA k23 (mV ps) :: aG (mO 2 mZ ps) :: own 3 oS ds.length cS (cG ds) :: aG (np ds) :: all w4),λz _=>ss.length - z.toNat,⟨0,[],rfl,Wi _,An.nil,h⟩,?_⟩
 clear h
 rintro _ _ w7 ⟨q,ps,rfl,hq,hG,h⟩
 refine ae (λh1=>?_) λh1=>?_
 ·have h1:q < ss.length:=by have:=V7 h1; omega
  obtain ⟨r,hr⟩ : ∃ r,ss[q]? = some r:=⟨_,Wa h1⟩
  obtain ⟨ad,ho,rs,rk,re⟩:=hs q r hr
  have hrm:=V_ hr
  have hrl:=hel r hrm
  have hkl1:=(hkl r hrm).1
  have hpq:=pS q hq
  have eS:lA g ss (q + 1) = lA g ss q ++ (mu g q r.2.2 ++ tq q r.1.2):=by
   rw [Cy]; unfold xM; rw [hr]
  refine au ho h1 ⟨_,_,_,_,_,_,rs.at (aU 4 h.l) rfl,ah h λk30 w8 h=>bx h rfl (by simp [aV]) λw9 h=>⟨_,_,_,(ai 0 h.l).cell (sub.refl _) (j:=1) rfl,?_⟩⟩
  refine ⟨λz w'=>∃ (k:Nat) (ps:List (dW × Lq bV)),z = k/\k<=r.2.2.length/\An ps (lA g ss q ++ mu g q (r.2.2.take k))/\St w' (mapA k23 (mV ps) :: aG (mO 2 mZ ps) :: aK k30 (PR r) :: own 3 oS ds.length cS (cG ds) :: aG (np ds) :: all w4),λz _=>r.2.2.length - z.toNat,⟨0,ps,rfl,Wi _,by simpa [mu] using hG,h.pick 3 [1,2,0]⟩,?_⟩
  clear h hG
  rintro _ _ w10 ⟨k,ps,rfl,hk,hG,h⟩
  have hpe:=zn (g:=g) (q:=q) (es:=r.2.2.take k)
  rw [Wx] at hpe
  refine ae (λh2=>?_) λh2=>?_
  ·have h2:k < r.2.2.length:=by have:=V7 h2; omega
   obtain ⟨e,ead,he,hea,re'⟩:=lj re h2
   have etk:r.2.2.take (k + 1) = r.2.2.take k ++ [e]:=by rw [Wf,he]; rfl
   refine au hea h2 ⟨_,_,re'.at (aU 5 h.l) rfl,ah h λk33 w11 h=>bx h rfl (by simp [aV]) λw12 h=>⟨_,(ai 0 h.l).cell0 (sub.refl _),_,_,_,B.c0 (sub.trans g14 (aU 6 h.l)),ae (λh3=>?_) λh3=>?_⟩⟩
   ·have h3:e.sym < (g.T:Int):=by have:=V7 h3; rw [<- tl] at this; exact this
    refine ⟨_,(ai 0 h.l).cell0 (sub.refl _),_,(ai 0 h.l).cell (sub.refl _) (j:=1) rfl,ah h λk36 w13 h=>(Pa (q:=q) (t:=e.sym) (a:=⟨1,e.to⟩) (h.pick 2 [0]) hG (by rw [We]; omega)).mono ?_⟩
    rintro _ w14 ⟨rfl,ps',hG',h⟩
    refine ⟨rfl,⟨by omega,by omega⟩,⟨k + 1,ps',by simp,h2,?_,h⟩,bw h2⟩
    rw [etk,Cz,Wn h3,<- Wj]
    exact hG'
   ·have h3:¬ e.sym < (g.T:Int):=by have:=V8 h3; rw [<- tl] at this; exact this
    refine ⟨⟨by omega,by omega⟩,⟨k + 1,ps,by simp,h2,?_,h.tail⟩,bw h2⟩
    rw [etk,Cz,Wg h3]
    exact hG
  have h2:k = r.2.2.length:=by have:=V8 h2; omega
  rw [h2,Ww] at hG
  refine ⟨_,_,_,(ai 2 h.l).cell0 (sub.refl _),(Ph (rk.mono (aU 5 h.l)) (by omega)).mono ?_⟩
  rintro _ w15 ⟨rfl,g15⟩
  have h:=h.gr g15
  refine ⟨_,rfl,ae (λh3=>ah h λk39 w16 h=>(Pa (q:=q) (t:=0) (a:=⟨3,0⟩) h hG (by rw [We]; have:=zn (g:=g) (q:=q) (es:=r.2.2); omega)).mono ?_) λh3=>?_⟩
  ·rintro _ w17 ⟨rfl,ps',hG',h⟩
   refine ⟨rfl,⟨by omega,by omega⟩,⟨q + 1,ps',by simp,h1,?_,h.pick 3 [0,1]⟩,bw h1⟩
   have ea:tq q r.1.2 = [(⟨(q:Int),0⟩,⟨3,0⟩)]:=by unfold tq; rw [Wn (V7 h3)]
   rw [eS,ea,<- Wj]
   exact hG'
  ·refine ⟨⟨by omega,by omega⟩,⟨q + 1,ps,by simp,h1,?_,h.pick 3 [0,1]⟩,bw h1⟩
   have ea:tq q r.1.2 = []:=by unfold tq; rw [Wg (V8 h3)]
   rw [eS,ea,WG]
   exact hG
 have h1:q = ss.length:=by have:=V8 h1; omega
 subst h1
 have hpS:=pS ss.length (Wr _)
 refine (Pg (h.pick 4 [2,3,0,1]) smD (by omega)).mono ?_
 rintro _ w18 ⟨rfl,ys,pys,sys,h⟩
 have hyl:ds.length = ys.length:=pys.length_eq.symm
 rw [hyl] at h ⊢
 have pL:(ys.map jb).Perm (bq g nn ss):=by rw [<- hds]; exact pys.map _
 have sL:jP (·.prod) (ys.map jb):=by rw [jP,W3]; exact sys
 have hyt:∀ l∈ys.map jb,l.tm.length<=65:=λl hl=>hlk l (pL.mem_iff.1 hl)
 have pL2:∀ n,n<=ys.length->(oz (ys.map jb) n).length<=24832 * 65:=λn hn=>by have:=Ep hyt n; omega
 refine ⟨rfl,λz w'=>∃ (i:Nat) (ps:List (dW × Lq bV)),z = i/\i<=ys.length/\An ps (lA g ss ss.length ++ oz (ys.map jb) i)/\St w' (mapA k23 (mV ps) :: aG (mO 2 mZ ps) :: own 3 oS ys.length cS (cG ys) :: aG (np ys) :: all w4),λz _=>ys.length - z.toNat,⟨0,ps,rfl,Wi _,by simpa [oz] using hG,h.pick 4 [2,3,0,1]⟩,?_⟩
 clear h hG
 rintro _ _ w19 ⟨i,ps,rfl,hi,hG,h⟩
 refine ae (λh1=>?_) λh1=>?_
 ·have h1:i < ys.length:=by have:=V7 h1; omega
  obtain ⟨b,hb1⟩ : ∃ b,ys[i]? = some b:=⟨_,Wa h1⟩
  have hbl:(ys.map jb)[i]? = some (jb b):=by rw [Wc,hb1]; rfl
  have hbt:b.2.2.length<=65:=hyt (jb b) (V_ hbl)
  have hpi:=pL2 i hi
  obtain ⟨ad,ho,rb⟩:=JJ (h.pick 3 [2,0,1]) hb1
  refine au ho h1 ⟨_,_,_,_,_,rb.at (sub.refl _) rfl,ah h λk42 w20 h=>bx h rfl (by simp [aV]) λw21 h=>⟨_,_,_,(ai 0 h.l).cell (sub.refl _) (j:=2) rfl,?_⟩⟩
  refine ⟨λz w'=>∃ (k:Nat) (ps:List (dW × Lq bV)),z = k/\k<=b.2.2.length/\An ps ((lA g ss ss.length ++ oz (ys.map jb) i) ++ tt (jb b) k)/\St w' (mapA k23 (mV ps) :: aG (mO 2 mZ ps) :: aK k42 (UK b) :: own 3 oS ys.length cS (cG ys) :: aG (np ys) :: all w4),λz _=>b.2.2.length - z.toNat,⟨0,ps,rfl,Wi _,by simpa [tt] using hG,h.pick 3 [1,2,0]⟩,?_⟩
  clear h hG rb
  rintro _ _ w22 ⟨k,ps,rfl,hk,hG,h⟩
  refine ae (λh2=>?_) λh2=>?_
  ·have h2:k < b.2.2.length:=by have:=V7 h2; omega
   have rt:=VN (h.pick 5 [4,0,1,2,3]) hb1
   obtain ⟨t,tad,ht1,hta,ht2⟩:=rt.cE h2
   have hpk:=Eo (l:=jb b) (n:=k)
   refine aw hta h2 ⟨t,ht2 _ (sub.refl _),_,(ai 2 h.l).cell0 (sub.refl _),_,(ai 2 h.l).cell (sub.refl _) (j:=1) rfl,ah h λk45 w23 h=>(Pa (q:=b.1.1) (t:=t) (a:=⟨2,b.1.2⟩) h hG (by simp only [We]; omega)).mono ?_⟩
   rintro _ w24 ⟨rfl,ps',hG',h⟩
   refine ⟨rfl,⟨by omega,by omega⟩,⟨k + 1,ps',by simp,h2,?_,h⟩,bw h2⟩
   rw [JI (show (jb b).tm[k]? = some t from ht1),<- Wj]
   exact hG'
  ·have h2:k = b.2.2.length:=by have:=V8 h2; omega
   refine ⟨⟨by omega,by omega⟩,⟨i + 1,ps,by simp,h1,?_,h.pick 3 [0,1]⟩,bw h1⟩
   rw [CA hbl,<- Wj]
   rw [h2] at hG
   exact hG
 have h1:i = ys.length:=by have:=V8 h1; omega
 subst h1
 intro w25 hd
 have h:=h.eq (aB hd)
 refine ⟨λu=>hp u = hp w25,rfl,_,_,_,λu e=>r12.cell0 (by rw [e]; exact aU 4 h.l),ss,ask,int,0,nn,some k23,_,rfl,hR,λ_=>hnn,gw.trans (sub.trans g14 (aU 4 h.l)),λ_=>⟨k23,ps,rfl,rfl,⟨hG.1,λq t hq ht=>?_⟩,?_⟩⟩
 ·rw [hG.2,show ys.length = (ys.map jb).length by simp]
  exact UJ hA pL sL hq ht
 ·exact St.Kl (h.pick 5 [0,1,4]) (bD (gw.trans g14))
end Go.Proofs.YtndaepmjkbmjmaaGreatDoor
namespace Go.V
abbrev t_:=(Int × Int) × Lq bV
def K4 (b:t_):List Value:=[.int .i64 b.1.1,.int .i64 b.1.2,dO b.2]
def xR (bs:List t_):List Value:=bs.flatMap K4
def oG (bs:List t_):List ay:=bs.map λb=>dm 2 mZ b.2
def vV (b:t_):iS:=⟨b.1.1,b.1.2,b.2.2⟩
def UL (b:t_):dW × Lq bV:=(⟨b.1.1,b.1.2⟩,b.2)
theorem FQ (bs:List t_):(xR bs).length = bs.length * 3:=mN (f:=K4) (n:=3) (λ_=>rfl) bs
theorem K5 (xs ys:List t_):xR (xs ++ ys) = xR xs ++ xR ys:=WU
theorem HV {α : Type}:∀ {l1 l2:List α},l1.Nodup->(∀ x∈l1,x∈l2)->∃ l3,l2.Perm (l1 ++ l3)
 | [],l2,_,_=>⟨l2,.refl _⟩
 | a :: l1,l2,hn,hs=>by
  obtain ⟨h1,h2⟩:=W5.1 hn
  obtain ⟨s,t,rfl⟩:=X4 (hs a (by simp))
  obtain ⟨l3,h3⟩:=HV (l2:=s ++ t) h2 λx hx=>by
   have:=hs x (by simp [hx])
   simp only [Wd,Wp] at this ⊢
   rcases this with h | rfl | h
   ·exact .inl h
   ·exact absurd hx h1
   ·exact .inr h
  exact ⟨l3,W4.trans (.cons a h3)⟩
section
variable {g:af} {nn:List Bool} {ss:List SQ} {least:Nat} {w:World} {L:List ay}
theorem JL {ds:List t_} {ps:List (dW × Lq bV)} {n:Nat} (hd:ds.map vV = iU g nn ss least n) (hm:∀ d∈ds,UL d∈ps) (h:St w (aG (mO 2 mZ ps) :: L)):St w (aG (oG ds) :: L):=by
 have hnd:(ds.map UL).Nodup:=by
  have h1:(ds.map vV).Pairwise iS.lt:=by rw [hd]; exact El n
  rw [W3] at h1
  rw [WY,W3]
  refine h1.imp λ{a b} h e=>?_
  have e1:=congrArg (λz=>z.1.st) e
  have e2:=congrArg (λz=>z.1.tm) e
  unfold iS.lt vV at h
  simp only [UL] at e1 e2
  simp only at h
  omega
 obtain ⟨l3,h3⟩:=HV hnd (l2:=ps) λx hx=>by
  obtain ⟨d,hd,rfl⟩:=Wu.1 hx
  exact hm d hd
 have hp:(mO 2 mZ ps).Perm (oG ds ++ mO 2 mZ l3):=by
  have:=h3.map λq=>dm 2 mZ q.2
  rw [WB,XK] at this
  exact this
 have h1:=(St.flat.1 h).perm (hp.append_right _)
 rw [Wj] at h1
 have h2:St w (aG (oG ds) :: (mO 2 mZ l3 ++ L)):=St.flat.2 h1
 have h3:St w (mO 2 mZ l3 ++ (aG (oG ds) :: L)):=h2.perm W4.symm
 exact (St.flat.2 h3).tail
theorem Mi (ps:List (dW × Lq bV)) (p:dW):∃ e:Lq bV,(assoc p (mV ps)).getD (.slice none 0 0) = dO e/\e.2 = gn p ps/\(e.2≠[]->(p,e)∈ps):=by
 rw [gp]
 unfold gn
 cases h:cY p ps with
 | none=>exact ⟨((none,0),[]),rfl,rfl,λh=>absurd rfl h⟩
 | some e=>exact ⟨e,rfl,rfl,λ_=>BS h⟩
end
end Go.V
namespace Go.Proofs.YtndaepmjkbmjmaaGreatDoor
open Go.V
variable {w:World} {L:List ay} {g:af} {x:GA}
theorem K6 {least:Nat} (hl1:1<=least) (hl2:least<=10) (hg:gR (hp w) g x) (hb:iE g) (ht:eM (hp w)):aA Tryz.prog Dl [.agg ⟨x.cells⟩,.int .i64 (least:Int)] w λv w'=>∃ (ss:List SQ) (ask int f:Int) (nn:List Bool) (o:Yg) (c:Nat) (ds:List t_),v = .tuple #[.slice o ds.length c,.int .i64 f]/\tT g ss ask int f/\(f = 0->ju g nn)/\ds.map vV = dj g nn ss least/\St w' (own 3 o ds.length c (xR ds) :: aG (oG ds) :: all w):=by
 refine Am (cW hg λk1 w1 gw hg1 B=>?_)
 refine ⟨_,_,_,_,_,_,_,_,_,_,_,_,_,B.row (sub.refl _),(HU hg1 hb (eR.mono gw ht)).mono ?_⟩
 rintro _ w2 ⟨ss,ask,int,f,nn,b,z,rfl,hR,hn,g12,h2⟩
 refine ⟨_,_,_,rfl,ae (λh1=>?_) λh1=>?_⟩
 ·have h1:f≠0:=by simpa using h1
  have hz:=hR.nil h1
  subst hz
  exact ⟨[],ask,int,f,[],none,0,[],rfl,hR,λh=>absurd h h1,rfl,az 3 ((St.flat (M:=[])).2 (St.here (gw.trans g12)))⟩
 have h1:f = 0:=by simpa using h1
 subst h1
 obtain ⟨hc,hA⟩:=hR.L4 rfl
 obtain ⟨k,ps,rfl,rfl,hG,h⟩:=h2 rfl
 have h256:=hA.dn.2.1
 obtain ⟨sT,sN,sP,_,_,_⟩:=hc.ct
 have tl:=hg.t.1
 have hcl:∀ n,n<=ss.length->(iU g nn ss least n).length<=16640:=λn hn=>by
  have h1:=zf (g:=g) (nn:=nn) (ss:=ss) (least:=least) (n:=n)
  have h2:n * g.T<=256 * 65:=XT (by omega) sT
  omega
 refine ⟨λo n c z w'=>∃ (q:Nat) (ds:List t_),z = q/\q<=ss.length/\n = ds.length/\ds.map vV = iU g nn ss least q/\(∀ d∈ds,UL d∈ps)/\St w' (own 3 o n c (xR ds) :: mapA k (mV ps) :: aG (mO 2 mZ ps) :: all w1),λ_ _ _ z _=>ss.length - z.toNat,⟨0,[],rfl,Wi _,rfl,rfl,λd hd=>by simp at hd,az 3 h⟩,?_⟩
 clear h
 rintro _ o6 _ c6 _ w3 ⟨q,ds,rfl,hq,rfl,hds,hdp,h⟩
 refine ae (λh1=>?_) λh1=>?_
 rotate_left
 ·have h1:q = ss.length:=by have:=V8 h1; omega
  subst h1
  have h:=JL hds hdp (h.pick 3 [2,0])
  exact ⟨ss,ask,int,0,nn,_,_,ds,rfl,hR,hn,hds,St.Kl (h.pick 2 [1,0]) (bD gw)⟩
 have h1:q < ss.length:=by have:=V7 h1; omega
 have hcq:=hcl q hq
 refine ⟨_,_,_,B.c0 (aU 3 h.l),λo n c z w'=>∃ (t:Nat) (ds:List t_),z = t/\t<=g.T/\n = ds.length/\ds.map vV = iU g nn ss least q ++ iT g nn ss least q t/\(∀ d∈ds,UL d∈ps)/\St w' (own 3 o n c (xR ds) :: mapA k (mV ps) :: aG (mO 2 mZ ps) :: all w1),λ_ _ _ z _=>g.T - z.toNat,⟨0,ds,rfl,Wi _,rfl,by rw [hds]; simp [iT],hdp,h⟩,?_⟩
 clear h hds hdp
 rintro _ o8 _ c8 _ w4 ⟨t,ds2,rfl,ht2,rfl,hds,hdp,h⟩
 have hdl:ds2.length<=17000:=by
  have e:=congrArg List.length hds
  rw [Wh,We] at e
  have:=ze (g:=g) (nn:=nn) (ss:=ss) (least:=least) (q:=q) (n:=t)
  omega
 refine ae (λh2=>?_) λh2=>?_
 rotate_left
 ·have h2:t = g.T:=by have:=V8 h2; rw [<- tl] at this; have e:g.T = g.terms.length:=rfl; omega
  refine ⟨⟨by omega,by omega⟩,⟨q + 1,ds2,by simp,h1,rfl,?_,hdp,h⟩,bw h1⟩
  rw [hds,h2,pM]
 have h2:t < g.T:=by have:=V7 h2; rw [<- tl] at this; have e:g.T = g.terms.length:=rfl; omega
 obtain ⟨e,e1,e2,e3⟩:=Mi ps ⟨(q:Int),(t:Int)⟩
 rw [hG.2 q t h1 h2] at e2
 refine (jI (κ:=dW) aQ (rfl:aj Ty _ = .map _ _) zm rfl rfl (h.pick 2 [1,0]) ⟨(q:Int),(t:Int)⟩).mono ?_
 rintro _ w5 ⟨rfl,rfl⟩
 rw [e1]
 refine ⟨_,_,_,rfl,ae (λh3=>?_) λh3=>?_⟩
 rotate_left
 ·have h3:¬ least<=(dM g nn ss q t).length:=by have:=V8 h3; rw [e2] at this; omega
  refine ⟨⟨by omega,by omega⟩,⟨t + 1,ds2,by simp,h2,rfl,?_,hdp,h⟩,bw h2⟩
  rw [jo,show cellAt g nn ss least q t = [] by unfold cellAt; rw [Wg h3],WG]
  exact hds
 have h3:least<=(dM g nn ss q t).length:=by have:=V7 h3; rw [e2] at this; omega
 refine ah h λk18 w6 h=>?_
 refine (aP (us:=xR ds2) aQ (rfl:aj Ty _ = .slice _) (rfl:aj Ty _ = .slice _) rfl rfl rfl h rfl (by simp [aV]) (by show (ds2.length + 1) * 40<=_; omega) (by omega)).mono ?_
 rintro _ w7 ⟨o10,c10,rfl,h⟩
 refine ⟨_,_,_,rfl,⟨by omega,by omega⟩,⟨t + 1,ds2 ++ [(((q:Int),(t:Int)),e)],by simp,h2,by simp,?_,λd hd=>?_,?_⟩,bw h2⟩
 ·rw [WB,hds,jo,Wj]
  congr 2
  unfold cellAt
  rw [Wn h3,<- e2]
  rfl
 ·rcases Wd.1 hd with hd | hd
  ·exact hdp d hd
  ·rw [Wy] at hd
   subst hd
   exact e3 λhh=>by rw [hh] at e2; rw [<- e2] at h3; simp at h3; omega
 ·rw [K5]
  exact h.pick 2 [0]
theorem HW (hg:gR (hp w) g x) (hb:iE g) (ht:eM (hp w)):aA Tryz.prog tu [.agg ⟨x.cells⟩] w λv w'=>∃ (ss:List SQ) (ask int f:Int) (nn:List Bool) (o:Yg) (c:Nat) (ds:List t_),v = .tuple #[.slice o ds.length c,.int .i64 f]/\tT g ss ask int f/\(f = 0->ju g nn)/\ds.map vV = dj g nn ss 1/\St w' (own 3 o ds.length c (xR ds) :: aG (oG ds) :: all w):=by
 refine zh (cW hg λk1 w1 gw hg1 B=>?_)
 refine ⟨_,_,_,_,_,_,_,_,_,_,_,_,_,B.row (sub.refl _),(K6 (least:=1) (by decide) (by decide) hg1 hb (eR.mono gw ht)).mono ?_⟩
 rintro _ w2 ⟨ss,ask,int,f,nn,o,c,ds,rfl,hR,hn,hds,h⟩
 exact ⟨_,_,_,_,rfl,ss,ask,int,f,nn,o,c,ds,rfl,hR,hn,hds,St.Kl h (bD gw)⟩
theorem Mj (hg:gR (hp w) g x) (hb:iE g) (ht:eM (hp w)):aA Tryz.prog p9 [.agg ⟨x.cells⟩] w λv w'=>∃ (ss:List SQ) (ask int f:Int) (nn:List Bool) (o:Yg) (c:Nat) (ds:List t_),v = .tuple #[.slice o ds.length c,.int .i64 f]/\tT g ss ask int f/\(f = 0->ju g nn)/\ds.map vV = dj g nn ss 2/\St w' (own 3 o ds.length c (xR ds) :: aG (oG ds) :: all w):=by
 refine xP (cW hg λk1 w1 gw hg1 B=>?_)
 refine ⟨_,_,_,_,_,_,_,_,_,_,_,_,_,B.row (sub.refl _),(K6 (least:=2) (by decide) (by decide) hg1 hb (eR.mono gw ht)).mono ?_⟩
 rintro _ w2 ⟨ss,ask,int,f,nn,o,c,ds,rfl,hR,hn,hds,h⟩
 exact ⟨_,_,_,_,rfl,ss,ask,int,f,nn,o,c,ds,rfl,hR,hn,hds,St.Kl h (bD gw)⟩
def TG (g:af) (nn:List Bool) (ss:List SQ) (f q t e:Int) (acts:List bV):Prop:=(f≠0/\e = f/\acts = [])\/(f = 0/\(q < 0\/(ss.length:Int)<=q\/t < 0\/(g.T:Int)<=t)/\e = 1/\acts = [])\/(f = 0/\∃ i j:Nat,q = i/\t = j/\i < ss.length/\j < g.T/\e = 0/\acts = dM g nn ss i j)
theorem Pj {q t:Int} (hg:gR (hp w) g x) (hb:iE g) (ht:eM (hp w)):aA Tryz.prog tw [.agg ⟨x.cells⟩,.int .i64 q,.int .i64 t] w λv w'=>∃ (ss:List SQ) (ask int f e:Int) (nn:List Bool) (o:Yg) (c:Nat) (acts:List bV),v = .tuple #[.slice o acts.length c,.int .i64 e]/\tT g ss ask int f/\(f = 0->ju g nn)/\TG g nn ss f q t e acts/\St w' (own 2 o acts.length c (mZ acts) :: all w):=by
 refine zj (cW hg λk1 w1 gw hg1 B=>?_)
 refine ⟨_,_,_,_,_,_,_,_,_,_,_,_,_,B.row (sub.refl _),(HU hg1 hb (eR.mono gw ht)).mono ?_⟩
 rintro _ w2 ⟨ss,ask,int,f,nn,b,z,rfl,hR,hn,g12,h2⟩
 have gw2:=gw.trans g12
 refine ⟨_,_,_,rfl,ae (λh1=>?_) λh1=>?_⟩
 ·have h1:f≠0:=by simpa using h1
  exact ⟨ss,ask,int,f,f,nn,none,0,[],rfl,hR,hn,.inl ⟨h1,rfl,rfl⟩,az 2 (St.here gw2)⟩
 have h1:f = 0:=by simpa using h1
 subst h1
 obtain ⟨k,ps,rfl,rfl,hG,h⟩:=h2 rfl
 have tl:=hg.t.1
 have eT:g.T = g.terms.length:=rfl
 have no:(q < 0\/(ss.length:Int)<=q\/t < 0\/(g.T:Int)<=t)->∃ (ss' : List SQ) (ask int f e:Int) (nn:List Bool) (o:Yg) (c:Nat) (acts:List bV),(.tuple #[.slice none 0 0,.int .i64 1] : Value) = .tuple #[.slice o acts.length c,.int .i64 e]/\tT g ss' ask int f/\(f = 0->ju g nn)/\TG g nn ss' f q t e acts/\St w2 (own 2 o acts.length c (mZ acts) :: all w):=λh=>⟨ss,ask,int,0,1,nn,none,0,[],rfl,hR,hn,.inr (.inl ⟨rfl,h,rfl,rfl⟩),az 2 (St.here gw2)⟩
 refine ae (λh1=>no (.inl (V7 h1))) λh1=>ae (λh2=>no (.inr (.inl (V7 h2)))) λh2=>ae (λh3=>no (.inr (.inr (.inl (V7 h3))))) λh3=>⟨_,_,_,B.c0 (aU 2 h.l),ae (λh4=>no (.inr (.inr (.inr ?_)))) λh4=>?_⟩
 ·have:=V7 h4; omega
 have h1:=V8 h1
 have h2:=V8 h2
 have h3:=V8 h3
 have h4:=V8 h4
 obtain ⟨i,rfl⟩ : ∃ i:Nat,q = i:=⟨q.toNat,by omega⟩
 obtain ⟨j,rfl⟩ : ∃ j:Nat,t = j:=⟨t.toNat,by omega⟩
 have hi:i < ss.length:=by omega
 have hj:j < g.T:=by omega
 refine (jI (κ:=dW) aQ (rfl:aj Ty _ = .map _ _) zm rfl rfl h ⟨(i:Int),(j:Int)⟩).mono ?_
 rintro _ w3 ⟨rfl,rfl⟩
 obtain ⟨e,M,e1,e2,he,_⟩:=mo rfl (h.pick 2 [1,0]) ⟨(i:Int),(j:Int)⟩
 rw [hG.2 i j hi hj] at e2
 have e1:(assoc (⟨(i:Int),(j:Int)⟩ : dW) (mV ps)).getD (.slice none 0 0) = dO e:=e1
 refine ⟨_,_,_,e1,ss,ask,int,0,0,nn,e.1.1,e.1.2,e.2,rfl,hR,hn,.inr (.inr ⟨rfl,i,j,rfl,rfl,hi,hj,rfl,e2⟩),?_⟩
 exact St.qV (he.pick 4 [0,3]) (bD gw)
end Go.Proofs.YtndaepmjkbmjmaaGreatDoor
namespace Go.Proofs.YtndaepmjkbmjmaaGreatDoor
open Go.V
abbrev lB:FuncId:=3
def jZ:bn:={ rngs:=[],loops:=[],joins:=[(5,[(28,(.one .bool))])],blocks:=[] }
theorem j3 {a:Yg} {b c:Nat} {d:Yg} {e f:Nat} {g:Yg} {i j:Nat} {k:Int} {l:Yg} {m n:Nat} {w:World} {R:Value->WP} (h:new w (oC [vS a b c,vS d e f,vS g i j,iI k,vS l m n] 27) λk1 w1=>∃ o1 k2 k3 o2 k4 k5 o3 k6 k7 n1 o4 k8 k9,V.rowAt w1 (aM k1) 0 5 = some [vS o1 k2 k3,vS o2 k4 k5,vS o3 k6 k7,iI n1,vS o4 k8 k9]/\rE 14 [vA (Array.mk [vS o1 k2 k3,vS o2 k4 k5,vS o3 k6 k7,iI n1,vS o4 k8 k9])] w1 λv1 w2=>∃ o5 k10 k11 o6 k12 k13 o7 k14 k15 n2 o8 k16 k17,v1 = vA (Array.mk [vS o5 k10 k11,vS o6 k12 k13,vS o7 k14 k15,iI n2,vS o8 k16 k17])/\new w2 (oC [vS none 0 0,vS none 0 0,vS none 0 0,iI 0,vS none 0 0] 27) λk18 w3=>fV w3 (aM k18) [vS o5 k10 k11,vS o6 k12 k13,vS o7 k14 k15,iI n2,vS o8 k16 k17] λw4=>∃ o9 k19 k20 o10 k21 k22 o11 k23 k24 n3 o12 k25 k26,V.rowAt w4 (aM k18) 0 5 = some [vS o9 k19 k20,vS o10 k21 k22,vS o11 k23 k24,iI n3,vS o12 k25 k26]/\rE 15 [vA (Array.mk [vS o9 k19 k20,vS o10 k21 k22,vS o11 k23 k24,iI n3,vS o12 k25 k26])] w4 λv2 w5=>∃ o13 k27 k28 n4,v2 = vT (Array.mk [vS o13 k27 k28,iI n4])/\∃ o14 k29 k30 o15 k31 k32 o16 k33 k34 n5 o17 k35 k36,V.rowAt w5 (aM k1) 0 5 = some [vS o14 k29 k30,vS o15 k31 k32,vS o16 k33 k34,iI n5,vS o17 k35 k36]/\rE 16 [vA (Array.mk [vS o14 k29 k30,vS o15 k31 k32,vS o16 k33 k34,iI n5,vS o17 k35 k36])] w5 λv3 w6=>∃ o18 k37 k38 n6,v3 = vT (Array.mk [vS o18 k37 k38,iI n6])/\∃ (x1:lP [(28,nm)]),br (n4 != n6) (x1 true w6) (rE 17 [vS o13 k27 k28,vS o18 k37 k38] w6 λv4 w7=>∃ b1,v4 = vB b1/\x1 (!b1) w7)/\∀ (I1:Nat->Value) (b2:Bool) (w8:World),x1 b2 w8->br b2 (R (vB false) w8) (rE 18 [vS o13 k27 k28] w8 λv5 w9=>v5 = vT (Array.mk [])/\∃ o19 k39 k40 o20 k41 k42 o21 k43 k44 n7 o22 k45 k46,V.rowAt w9 (aM k18) 0 5 = some [vS o19 k39 k40,vS o20 k41 k42,vS o21 k43 k44,iI n7,vS o22 k45 k46]/\rE 15 [vA (Array.mk [vS o19 k39 k40,vS o20 k41 k42,vS o21 k43 k44,iI n7,vS o22 k45 k46])] w9 λv6 w10=>∃ o23 k47 k48 n8,v6 = vT (Array.mk [vS o23 k47 k48,iI n8])/\br (n8 == n6) (rE 17 [vS o23 k47 k48,vS o18 k37 k38] w10 λv7 w11=>∃ b3,v7 = vB b3/\br b3 (∃ o24 k49 k50 o25 k51 k52 o26 k53 k54 n9 o27 k55 k56,V.rowAt w11 (aM k18) 0 5 = some [vS o24 k49 k50,vS o25 k51 k52,vS o26 k53 k54,iI n9,vS o27 k55 k56]/\∃ o28 k57 k58 o29 k59 k60 o30 k61 k62 n10 o31 k63 k64,V.rowAt w11 (aM k1) 0 5 = some [vS o28 k57 k58,vS o29 k59 k60,vS o30 k61 k62,iI n10,vS o31 k63 k64]/\rE 19 [vA (Array.mk [vS o24 k49 k50,vS o25 k51 k52,vS o26 k53 k54,iI n9,vS o27 k55 k56]),vA (Array.mk [vS o28 k57 k58,vS o29 k59 k60,vS o30 k61 k62,iI n10,vS o31 k63 k64])] w11 λv8 w12=>∃ b4,v8 = vB b4/\br b4 (rE 20 [] w12 λv9 w13=>∃ b5,v9 = vB b5/\R (vB b5) w13) (R (vB false) w12)) (R (vB false) w11)) (R (vB false) w10))):aA Tryz.prog 3 [(.agg #[(.slice a b c),(.slice d e f),(.slice g i j),(.int .i64 k),(.slice l m n)])] w R:=rv Tryz.func3 jZ (by kernel_rfl) h
abbrev tz:FuncId:=18
def pO:bn:={ rngs:=[],loops:=[(1,[(2,(.one (.int .i64)))]),(4,[(3,(.one (.int .i64)))])],joins:=[],blocks:=[] }
theorem pP {a:Yg} {b c:Nat} {w:World} {R:Value->WP} (h:∃ (x1:lP [(2,aD)]),∃ (x2:lN [(2,aD)]),x1 0 w/\∀ (I1:Nat->Value) (n1:Int) (w1:World),x1 n1 w1->br (decide (n1 < (b:Int))) (∃ (x3:lP [(3,aD)]),∃ (x4:lN [(3,aD)]),x3 0 w1/\∀ (I2:Nat->Value) (n2:Int) (w2:World),x3 n2 w2->idx a b n1 3 λa1=>∃ o1 k1 k2,World.cell? w2 (Addr.add a1 2) = some (vS o1 k1 k2)/\br (decide (n2 < (k1:Int))) (idx a b n1 3 λa2=>∃ o2 k3 k4,World.cell? w2 (Addr.add a2 2) = some (vS o2 k3 k4)/\idx o2 k3 n2 2 λa3=>fV w2 a3 [iI (-1),iI (-1)] λw3=>ax (n2 + 1)/\x3 (n2 + 1) w3/\x4 (n2 + 1) w3 < x4 n2 w2) (idx a b n1 3 λa4=>fV w2 a4 [iI (-9),iI 0,vS none 0 0] λw4=>ax (n1 + 1)/\x1 (n1 + 1) w4/\x2 (n1 + 1) w4 < x2 n1 w1)) (R (vT (Array.mk [])) w1)):aA Tryz.prog 18 [(.slice a b c)] w R:=rv Tryz.func18 pO (by kernel_rfl) h
abbrev tA:FuncId:=20
def pQ:bn:={ rngs:=[],loops:=[],joins:=[],blocks:=[] }
theorem pR  {w:World} {R:Value->WP} (h:new w (oC [Value.string (ByteArray.mk (Array.mk [])),iI 0,Value.string (ByteArray.mk (Array.mk [43])),iI 0,Value.string (ByteArray.mk (Array.mk [110])),iI 0] 83) λk1 w1=>new w1 (oC [Value.string (ByteArray.mk (Array.mk [])),Value.string (ByteArray.mk (Array.mk [101]))] 9) λk2 w2=>new w2 (oC [iI 4] 3) λk3 w3=>new w3 (oC [iI 4,iI 1,iI 4] 3) λk4 w4=>new w4 (oC [iI 2] 3) λk5 w5=>new w5 (oC [iI 3,vS (some (aM k3)) 1 1,iI 0,iI 4,vS (some (aM k4)) 3 3,iI 0,iI 4,vS (some (aM k5)) 1 1,iI 0] 81) λk6 w6=>new w6 (oC [vS none 0 0,vS none 0 0,vS none 0 0,iI 0,vS none 0 0] 27) λk7 w7=>fV w7 (aM k7) [vS (some (aM k1)) 3 3,vS (some (aM k2)) 2 2,vS none 0 0,iI 4,vS (some (aM k6)) 3 3] λw8=>∃ o1 k8 k9 o2 k10 k11 o3 k12 k13 n1 o4 k14 k15,V.rowAt w8 (aM k7) 0 5 = some [vS o1 k8 k9,vS o2 k10 k11,vS o3 k12 k13,iI n1,vS o4 k14 k15]/\rE 15 [vA (Array.mk [vS o1 k8 k9,vS o2 k10 k11,vS o3 k12 k13,iI n1,vS o4 k14 k15])] w8 λv1 w9=>∃ o5 k16 k17 n2,v1 = vT (Array.mk [vS o5 k16 k17,iI n2])/\∃ o6 k18 k19 o7 k20 k21 o8 k22 k23 n3 o9 k24 k25,V.rowAt w9 (aM k7) 0 5 = some [vS o6 k18 k19,vS o7 k20 k21,vS o8 k22 k23,iI n3,vS o9 k24 k25]/\rE 21 [vA (Array.mk [vS o6 k18 k19,vS o7 k20 k21,vS o8 k22 k23,iI n3,vS o9 k24 k25])] w9 λv2 w10=>∃ o10 k26 k27 n4,v2 = vT (Array.mk [vS o10 k26 k27,iI n4])/\∃ o11 k28 k29 o12 k30 k31 o13 k32 k33 n5 o14 k34 k35,V.rowAt w10 (aM k7) 0 5 = some [vS o11 k28 k29,vS o12 k30 k31,vS o13 k32 k33,iI n5,vS o14 k34 k35]/\rE 23 [vA (Array.mk [vS o11 k28 k29,vS o12 k30 k31,vS o13 k32 k33,iI n5,vS o14 k34 k35]),iI 4,iI 1] w10 λv3 w11=>∃ o15 k36 k37 n6,v3 = vT (Array.mk [vS o15 k36 k37,iI n6])/\br (n2 == 0) (br (n4 == 0) (br (n6 == 0) (br ((k16:Int) == 8) (br ((k26:Int) == 1) (new w11 (oC [iI 1,iI 3,iI 2,iI 1] 62) λk38 w12=>rE 25 [vS o15 k36 k37,vS (some (aM k38)) 2 2] w12 λv4 w13=>∃ b1,v4 = vB b1/\R (vB b1) w13) (R (vB false) w11)) (R (vB false) w11)) (R (vB false) w11)) (R (vB false) w11)) (R (vB false) w11)):aA Tryz.prog 20 [] w R:=rv Tryz.func20 pQ (by kernel_rfl) h
end Go.Proofs.YtndaepmjkbmjmaaGreatDoor
namespace Go.Proofs.YtndaepmjkbmjmaaGreatDoor
open Go.V
abbrev qS:FuncId:=16
def oB:bn:={ rngs:=[],loops:=[],joins:=[],blocks:=[] }
theorem oD {a:Yg} {b c:Nat} {d:Yg} {e f:Nat} {g:Yg} {i j:Nat} {k:Int} {l:Yg} {m n:Nat} {w:World} {R:Value->WP} (h:new w (oC [vS a b c,vS d e f,vS g i j,iI k,vS l m n] 27) λk1 w1=>∃ o1 k2 k3 o2 k4 k5 o3 k6 k7 n1 o4 k8 k9,V.rowAt w1 (aM k1) 0 5 = some [vS o1 k2 k3,vS o2 k4 k5,vS o3 k6 k7,iI n1,vS o4 k8 k9]/\rE 39 [vA (Array.mk [vS o1 k2 k3,vS o2 k4 k5,vS o3 k6 k7,iI n1,vS o4 k8 k9])] w1 λv1 w2=>∃ b1,v1 = vB b1/\br (!b1) (R (vT (Array.mk [vS none 0 0,iI 1])) w2) (∃ o5 k10 k11 o6 k12 k13 o7 k14 k15 n2 o8 k16 k17,V.rowAt w2 (aM k1) 0 5 = some [vS o5 k10 k11,vS o6 k12 k13,vS o7 k14 k15,iI n2,vS o8 k16 k17]/\rE 43 [vA (Array.mk [vS o5 k10 k11,vS o6 k12 k13,vS o7 k14 k15,iI n2,vS o8 k16 k17])] w2 λv2 w3=>∃ o9 k18 k19 n3 n4 n5,v2 = vT (Array.mk [vA (Array.mk [vS o9 k18 k19,iI n3,iI n4]),iI n5])/\new w3 (oC [vS none 0 0,iI 0,iI 0] 45) λk20 w4=>fV w4 (aM k20) [vS o9 k18 k19,iI n3,iI n4] λw5=>br (n5 != 0) (R (vT (Array.mk [vS none 0 0,iI n5])) w5) (∀ w6,drawn w5 w6->∃ (I1:WP),I1 w6/\∃ o10 k21 k22 o11 k23 k24 o12 k25 k26 n6 o13 k27 k28,(∀ w7,I1 w7->V.rowAt w7 (aM k1) 0 5 = some [vS o10 k21 k22,vS o11 k23 k24,vS o12 k25 k26,iI n6,vS o13 k27 k28])/\∃ o14 k29 k30 n7 n8,(∀ w8,I1 w8->V.rowAt w8 (aM k20) 0 3 = some [vS o14 k29 k30,iI n7,iI n8])/\∃ o15 k31 k32 o16 k33 k34 o17 k35 k36 n9 o18 k37 k38,(∀ w9,I1 w9->V.rowAt w9 (aM k1) 0 5 = some [vS o15 k31 k32,vS o16 k33 k34,vS o17 k35 k36,iI n9,vS o18 k37 k38])/\∃ o19 k39 k40 n10 n11,(∀ w10,I1 w10->V.rowAt w10 (aM k20) 0 3 = some [vS o19 k39 k40,iI n10,iI n11])/\rE 45 [vA (Array.mk [vS o15 k31 k32,vS o16 k33 k34,vS o17 k35 k36,iI n9,vS o18 k37 k38]),vA (Array.mk [vS o19 k39 k40,iI n10,iI n11])] w6 λv3 w11=>∃ o20,v3 = vP o20/\I1 w11/\rE 46 [vP o20] w11 λv4 w12=>∃ o21 k41 k42,v4 = vS o21 k41 k42/\I1 w12/\rE 44 [vA (Array.mk [vS o10 k21 k22,vS o11 k23 k24,vS o12 k25 k26,iI n6,vS o13 k27 k28]),vA (Array.mk [vS o14 k29 k30,iI n7,iI n8]),vS o21 k41 k42] w12 λv5 w13=>∃ o22 k43 k44,v5 = vS o22 k43 k44/\I1 w13/\R (vT (Array.mk [vS o22 k43 k44,iI 0])) w13))):aA Tryz.prog 16 [(.agg #[(.slice a b c),(.slice d e f),(.slice g i j),(.int .i64 k),(.slice l m n)])] w R:=rv Tryz.func16 oB (by kernel_rfl) h
abbrev tB:FuncId:=17
def pU:bn:={ rngs:=[],loops:=[(4,[(5,(.one (.int .i64)))])],joins:=[],blocks:=[] }
theorem pV {a:Yg} {b c:Nat} {d:Yg} {e f:Nat} {w:World} {R:Value->WP} (h:br ((b:Int) != (e:Int)) (R (vB false) w) (∃ (x1:lP [(5,aD)]),∃ (x2:lN [(5,aD)]),x1 0 w/\∀ (I1:Nat->Value) (n1:Int) (w1:World),x1 n1 w1->br (decide (n1 < (b:Int))) (∀ w2,drawn w1 w2->∃ (I2:WP),I2 w2/\idx a b n1 3 λa1=>∃ n2,(∀ w3,I2 w3->World.cell? w3 a1 = some (iI n2))/\idx d e n1 3 λa2=>∃ n3,(∀ w4,I2 w4->World.cell? w4 a2 = some (iI n3))/\br (n2 != n3) (R (vB false) w2) (idx a b n1 3 λa3=>∃ n4,(∀ w5,I2 w5->World.cell? w5 (Addr.add a3 1) = some (iI n4))/\idx d e n1 3 λa4=>∃ n5,(∀ w6,I2 w6->World.cell? w6 (Addr.add a4 1) = some (iI n5))/\br (n4 != n5) (R (vB false) w2) (idx a b n1 3 λa5=>∃ o1 k1 k2,(∀ w7,I2 w7->World.cell? w7 (Addr.add a5 2) = some (vS o1 k1 k2))/\idx d e n1 3 λa6=>∃ o2 k3 k4,(∀ w8,I2 w8->World.cell? w8 (Addr.add a6 2) = some (vS o2 k3 k4))/\rE 25 [vS o1 k1 k2,vS o2 k3 k4] w2 λv1 w9=>∃ b1,v1 = vB b1/\I2 w9/\br (!b1) (R (vB false) w9) (ax (n1 + 1)/\x1 (n1 + 1) w9/\x2 (n1 + 1) w9 < x2 n1 w1)))) (R (vB true) w1))):aA Tryz.prog 17 [(.slice a b c),(.slice d e f)] w R:=rv Tryz.func17 pU (by kernel_rfl) h
abbrev pW:FuncId:=25
def m_:bn:={ rngs:=[],loops:=[(4,[(5,(.one (.int .i64)))])],joins:=[],blocks:=[] }
theorem nb {a:Yg} {b c:Nat} {d:Yg} {e f:Nat} {w:World} {R:Value->WP} (h:br ((b:Int) != (e:Int)) (R (vB false) w) (∃ (x1:lP [(5,aD)]),∃ (x2:lN [(5,aD)]),x1 0 w/\∀ (I1:Nat->Value) (n1:Int) (w1:World),x1 n1 w1->br (decide (n1 < (b:Int))) (∀ w2,drawn w1 w2->∃ (I2:WP),I2 w2/\idx a b n1 2 λa1=>∃ n2 n3,(∀ w3,I2 w3->V.rowAt w3 a1 0 2 = some [iI n2,iI n3])/\idx d e n1 2 λa2=>∃ n4 n5,(∀ w4,I2 w4->V.rowAt w4 a2 0 2 = some [iI n4,iI n5])/\∃ v1,(∀ w5,I2 w5->Sem.run Proofs.Tryz.prog (iu BinOp.neq 62 (Operand.tmp 20) (Operand.tmp 24) (vG [iI n2,iI n3]) (vG [iI n4,iI n5])) w5 = Result.ok v1 w5)/\∃ b1,v1 = vB b1/\br b1 (R (vB false) w2) (ax (n1 + 1)/\x1 (n1 + 1) w2/\x2 (n1 + 1) w2 < x2 n1 w1)) (R (vB true) w1))):aA Tryz.prog 25 [(.slice a b c),(.slice d e f)] w R:=rv Tryz.func25 m_ (by kernel_rfl) h
abbrev xS:FuncId:=44
def uR:bn:={ rngs:=[],loops:=[(3,[(8,(.one (.int .i64)))]),(8,[(9,(.one .slice)),(10,(.one (.int .i64)))]),(11,[(9,(.one .slice)),(11,(.one (.int .i64)))])],joins:=[],blocks:=[] }
theorem uS {a:Yg} {b c:Nat} {d:Yg} {e f:Nat} {g:Yg} {i j:Nat} {k:Int} {l:Yg} {m n:Nat} {o:Yg} {p q:Nat} {s t:Int} {u:Yg} {v x:Nat} {w:World} {R:Value->WP} (h:new w (oC [vS a b c,vS d e f,vS g i j,iI k,vS l m n] 27) λk1 w1=>new w1 (oC [vS o p q,iI s,iI t] 45) λk2 w2=>∃ o1 k3 k4,World.cell? w2 (aM k2) = some (vS o1 k3 k4)/\wi (k3:Int) (k3:Int) 24/\new w2 (Obj.cells (Array.mk (jz (Int.toNat (k3:Int)) [vS none 0 0])) 48) λk5 w3=>∃ (x1:lP [(8,aD)]),∃ (x2:lN [(8,aD)]),x1 0 w3/\∀ (I1:Nat->Value) (n1:Int) (w4:World),x1 n1 w4->br (decide (n1 < (v:Int))) (∀ w5,drawn w4 w5->∃ (I2:WP),I2 w5/\idx u v n1 3 λa1=>∃ n2,(∀ w6,I2 w6->World.cell? w6 a1 = some (iI n2))/\idx u v n1 3 λa2=>∃ n3,(∀ w7,I2 w7->World.cell? w7 a2 = some (iI n3))/\idx (some (aM k5)) (Int.toNat (k3:Int)) n3 1 λa3=>∃ o2 k6 k7,(∀ w8,I2 w8->World.cell? w8 a3 = some (vS o2 k6 k7))/\idx u v n1 3 λa4=>∃ n4 n5 o3 k8 k9,(∀ w9,I2 w9->V.rowAt w9 a4 0 3 = some [iI n4,iI n5,vS o3 k8 k9])/\new w5 (oC [iI n4,iI n5,vS o3 k8 k9] 58) λk10 w10=>I2 w10/\rS (ir 48 (Array.mk [vS o2 k6 k7,vS (some (aM k10)) 1 1])) w10 λv1 w11=>∃ o4 k11 k12,v1 = vS o4 k11 k12/\I2 w11/\idx (some (aM k5)) (Int.toNat (k3:Int)) n2 1 λa5=>st1 w11 a5 (vS o4 k11 k12) λw12=>ax (n1 + 1)/\x1 (n1 + 1) w12/\x2 (n1 + 1) w12 < x2 n1 w4) (∃ (x3:lP [(9,gD),(10,aD)]),∃ (x4:lN [(9,gD),(10,aD)]),x3 none 0 0 0 w4/\∀ (I3:Nat->Value) (o5:Yg) (k13 k14:Nat) (n6:Int) (w13:World),x3 o5 k13 k14 n6 w13->∃ o6 k15 k16,World.cell? w13 (aM k2) = some (vS o6 k15 k16)/\br (decide (n6 < (k15:Int))) (∃ (x5:lP [(9,gD),(11,aD)]),∃ (x6:lN [(9,gD),(11,aD)]),x5 o5 k13 k14 0 w13/\∀ (I4:Nat->Value) (o7:Yg) (k17 k18:Nat) (n7:Int) (w14:World),x5 o7 k17 k18 n7 w14->∃ o8 k19 k20,World.cell? w14 (aM k1) = some (vS o8 k19 k20)/\br (decide (n7 < (k19:Int))) (∀ w15,drawn w14 w15->∃ (I5:WP),I5 w15/\∃ o9 k21 k22 o10 k23 k24 o11 k25 k26 n8 o12 k27 k28,(∀ w16,I5 w16->V.rowAt w16 (aM k1) 0 5 = some [vS o9 k21 k22,vS o10 k23 k24,vS o11 k25 k26,iI n8,vS o12 k27 k28])/\∃ o13 k29 k30 n9 n10,(∀ w17,I5 w17->V.rowAt w17 (aM k2) 0 3 = some [vS o13 k29 k30,iI n9,iI n10])/\idx (some (aM k5)) (Int.toNat (k3:Int)) n6 1 λa6=>∃ o14 k31 k32,(∀ w18,I5 w18->World.cell? w18 a6 = some (vS o14 k31 k32))/\rE 79 [vA (Array.mk [vS o9 k21 k22,vS o10 k23 k24,vS o11 k25 k26,iI n8,vS o12 k27 k28]),vA (Array.mk [vS o13 k29 k30,iI n9,iI n10]),vS o14 k31 k32,iI n6,iI n7] w15 λv2 w19=>∃ o15 k33 k34,v2 = vS o15 k33 k34/\I5 w19/\br (decide (0 < (k33:Int))) (new w19 (oC [iI n6,iI n7,vS o15 k33 k34] 60) λk35 w20=>rS (ir 29 (Array.mk [vS o7 k17 k18,vS (some (aM k35)) 1 1])) w20 λv3 w21=>∃ o16 k36 k37,v3 = vS o16 k36 k37/\ax (n7 + 1)/\x5 o16 k36 k37 (n7 + 1) w21/\x6 o16 k36 k37 (n7 + 1) w21 < x6 o7 k17 k18 n7 w14) (ax (n7 + 1)/\x5 o7 k17 k18 (n7 + 1) w19/\x6 o7 k17 k18 (n7 + 1) w19 < x6 o7 k17 k18 n7 w14)) (ax (n6 + 1)/\x3 o7 k17 k18 (n6 + 1) w14/\x4 o7 k17 k18 (n6 + 1) w14 < x4 o5 k13 k14 n6 w13)) (R (vS o5 k13 k14) w13))):aA Tryz.prog 44 [(.agg #[(.slice a b c),(.slice d e f),(.slice g i j),(.int .i64 k),(.slice l m n)]),(.agg #[(.slice o p q),(.int .i64 s),(.int .i64 t)]),(.slice u v x)] w R:=rv Tryz.func44 uR (by kernel_rfl) h
abbrev pX:FuncId:=79
def nf:bn:={ rngs:=[],loops:=[(7,[(11,(.one .slice)),(14,(.one (.int .i64)))]),(12,[(11,(.one .slice)),(15,(.one (.int .i64)))]),(15,[(11,(.one .slice)),(16,(.one (.int .i64)))]),(19,[(11,(.one .slice)),(17,(.one (.int .i64)))])],joins:=[(5,[(11,(.one .slice))])],blocks:=[] }
theorem ng {a:Yg} {b c:Nat} {d:Yg} {e f:Nat} {g:Yg} {i j:Nat} {k:Int} {l:Yg} {m n:Nat} {o:Yg} {p q:Nat} {s t:Int} {u:Yg} {v x:Nat} {y z:Int} {w:World} {R:Value->WP} (h:new w (oC [vS a b c,vS d e f,vS g i j,iI k,vS l m n] 27) λk1 w1=>new w1 (oC [vS o p q,iI s,iI t] 45) λk2 w2=>∃ o1 k3 k4 n1 n2,V.rowAt w2 (aM k2) 0 3 = some [vS o1 k3 k4,iI n1,iI n2]/\rE 73 [vA (Array.mk [vS o1 k3 k4,iI n1,iI n2]),iI y,iI z] w2 λv1 w3=>∃ n3,v1 = iI n3/\∃ (x1:lP [(11,gD)]),br (decide (0 < z)) (br (decide (0<=n3)) (new w3 (oC [iI 1,iI n3] 62) λk5 w4=>rS (ir 38 (Array.mk [vS none 0 0,vS (some (aM k5)) 1 1])) w4 λv2 w5=>∃ o2 k6 k7,v2 = vS o2 k6 k7/\x1 o2 k6 k7 w5) (x1 none 0 0 w3)) (x1 none 0 0 w3)/\∀ (I1:Nat->Value) (o3:Yg) (k8 k9:Nat) (w6:World),x1 o3 k8 k9 w6->∃ o4 k10 k11,World.cell? w6 (aM k2) = some (vS o4 k10 k11)/\idx o4 k10 y 2 λa1=>∃ o5 k12 k13,World.cell? w6 a1 = some (vS o5 k12 k13)/\∃ (x2:lP [(11,gD),(14,aD)]),∃ (x3:lN [(11,gD),(14,aD)]),x2 o3 k8 k9 0 w6/\∀ (I2:Nat->Value) (o6:Yg) (k14 k15:Nat) (n4:Int) (w7:World),x2 o6 k14 k15 n4 w7->br (decide (n4 < (k12:Int))) (br (z == 0) (idx o5 k12 n4 2 λa2=>∃ n5,World.cell? w7 a2 = some (iI n5)/\br (n5 == 0) (idx o5 k12 n4 2 λa3=>∃ n6,World.cell? w7 (Addr.add a3 1) = some (iI n6)/\br (n6 == 1) (new w7 (oC [iI 3,iI 0] 62) λk16 w8=>rS (ir 38 (Array.mk [vS o6 k14 k15,vS (some (aM k16)) 1 1])) w8 λv3 w9=>∃ o7 k17 k18,v3 = vS o7 k17 k18/\ax (n4 + 1)/\x2 o7 k17 k18 (n4 + 1) w9/\x3 o7 k17 k18 (n4 + 1) w9 < x3 o6 k14 k15 n4 w7) (ax (n4 + 1)/\x2 o6 k14 k15 (n4 + 1) w7/\x3 o6 k14 k15 (n4 + 1) w7 < x3 o6 k14 k15 n4 w7)) (ax (n4 + 1)/\x2 o6 k14 k15 (n4 + 1) w7/\x3 o6 k14 k15 (n4 + 1) w7 < x3 o6 k14 k15 n4 w7)) (ax (n4 + 1)/\x2 o6 k14 k15 (n4 + 1) w7/\x3 o6 k14 k15 (n4 + 1) w7 < x3 o6 k14 k15 n4 w7)) (∃ (x4:lP [(11,gD),(15,aD)]),∃ (x5:lN [(11,gD),(15,aD)]),x4 o6 k14 k15 1 w7/\∀ (I3:Nat->Value) (o8:Yg) (k19 k20:Nat) (n7:Int) (w10:World),x4 o8 k19 k20 n7 w10->∃ o9 k21 k22,World.cell? w10 (Addr.add (aM k1) 4) = some (vS o9 k21 k22)/\br (decide (n7 < (k21:Int))) (∃ (x6:lP [(11,gD),(16,aD)]),∃ (x7:lN [(11,gD),(16,aD)]),x6 o8 k19 k20 0 w10/\∀ (I4:Nat->Value) (o10:Yg) (k23 k24:Nat) (n8:Int) (w11:World),x6 o10 k23 k24 n8 w11->br (decide (n8 < (v:Int))) (idx u v n8 3 λa4=>∃ n9,World.cell? w11 a4 = some (iI n9)/\br (n9 != y) (ax (n8 + 1)/\x6 o10 k23 k24 (n8 + 1) w11/\x7 o10 k23 k24 (n8 + 1) w11 < x7 o10 k23 k24 n8 w11) (idx u v n8 3 λa5=>∃ n10,World.cell? w11 (Addr.add a5 1) = some (iI n10)/\br (n10 != n7) (ax (n8 + 1)/\x6 o10 k23 k24 (n8 + 1) w11/\x7 o10 k23 k24 (n8 + 1) w11 < x7 o10 k23 k24 n8 w11) (∃ (x8:lP [(11,gD),(17,aD)]),∃ (x9:lN [(11,gD),(17,aD)]),x8 o10 k23 k24 0 w11/\∀ (I5:Nat->Value) (o11:Yg) (k25 k26:Nat) (n11:Int) (w12:World),x8 o11 k25 k26 n11 w12->idx u v n8 3 λa6=>∃ o12 k27 k28,World.cell? w12 (Addr.add a6 2) = some (vS o12 k27 k28)/\br (decide (n11 < (k27:Int))) (idx u v n8 3 λa7=>∃ o13 k29 k30,World.cell? w12 (Addr.add a7 2) = some (vS o13 k29 k30)/\idx o13 k29 n11 1 λa8=>∃ n12,World.cell? w12 a8 = some (iI n12)/\br (n12 == z) (new w12 (oC [iI 2,iI n7] 62) λk31 w13=>rS (ir 38 (Array.mk [vS o11 k25 k26,vS (some (aM k31)) 1 1])) w13 λv4 w14=>∃ o14 k32 k33,v4 = vS o14 k32 k33/\ax (n11 + 1)/\x8 o14 k32 k33 (n11 + 1) w14/\x9 o14 k32 k33 (n11 + 1) w14 < x9 o11 k25 k26 n11 w12) (ax (n11 + 1)/\x8 o11 k25 k26 (n11 + 1) w12/\x9 o11 k25 k26 (n11 + 1) w12 < x9 o11 k25 k26 n11 w12)) (ax (n8 + 1)/\x6 o11 k25 k26 (n8 + 1) w12/\x7 o11 k25 k26 (n8 + 1) w12 < x7 o10 k23 k24 n8 w11)))) (ax (n7 + 1)/\x4 o10 k23 k24 (n7 + 1) w11/\x5 o10 k23 k24 (n7 + 1) w11 < x5 o8 k19 k20 n7 w10)) (R (vS o8 k19 k20) w10))):aA Tryz.prog 79 [(.agg #[(.slice a b c),(.slice d e f),(.slice g i j),(.int .i64 k),(.slice l m n)]),(.agg #[(.slice o p q),(.int .i64 s),(.int .i64 t)]),(.slice u v x),(.int .i64 y),(.int .i64 z)] w R:=rv Tryz.func79 nf (by kernel_rfl) h
end Go.Proofs.YtndaepmjkbmjmaaGreatDoor
namespace Go.V
open Go.Proofs.YtndaepmjkbmjmaaGreatDoor
def p_:af:=⟨[⟨⟨⟨[]⟩⟩,0⟩,⟨⟨⟨[43]⟩⟩,0⟩,⟨⟨⟨[110]⟩⟩,0⟩],[⟨⟨[]⟩⟩,⟨⟨[101]⟩⟩],[],4,[⟨3,[4],0⟩,⟨4,[4,1,4],0⟩,⟨4,[2],0⟩]⟩
theorem Ml:ak p_:=by
 refine ⟨rfl,⟨rfl,by decide,by decide,by decide,by decide,?_,?_,?_,?_,?_⟩,⟨by decide,by decide,?_,by decide,by decide,by decide⟩,⟨3,[4],0⟩,rfl,rfl,rfl,rfl⟩
 ·decide
 ·intro i v h; simp [p_] at h
 ·decide
 ·decide
 ·decide
 ·intro p hp
  simp only [List.drop_succ_cons,List.drop_zero,p_,Wp,List.not_mem_nil,or_false] at hp
  unfold kW eH
  rcases hp with rfl | rfl
  ·refine ⟨by decide,?_⟩
   intro s hs; simp at hs
   rcases hs with rfl | rfl | rfl <;> decide
  ·refine ⟨by decide,?_⟩
   intro s hs; simp at hs; subst hs; decide
theorem Pk:iE p_:=by
 refine ⟨by decide,by decide,by decide,by decide,?_,by decide,by decide⟩
 intro t ht
 simp only [p_,Wp,List.not_mem_nil,or_false] at ht
 unfold anyI
 rcases ht with rfl | rfl | rfl <;> decide
theorem Pl:(b_ p_ 5).1.length = 5/\∀ i,i < 5->i < (b_ p_ i).1.length:=by decide +kernel
theorem K7:G3 p_ 5:=⟨Pl.1,by decide,Pl.2⟩
def Ie:List SQ:=((b_ p_ 5).1.zip (b_ p_ 5).2).map λp=>(((none,0),p.1),((none,0),p.2))
def MD:List Bool:=[false,false]
theorem JM:ju p_ MD:=by
 have key:∀ s,Af p_ s->False:=λs h=>by
  induction h with
  | mk p hp _ ih =>
   simp only [p_,Wp,List.not_mem_nil,or_false] at hp
   rcases hp with rfl | rfl | rfl
   ·exact ih 4 (by simp)
   ·exact ih 4 (by simp)
   ·exact ih 2 (by simp)
 refine ⟨rfl,λi=>⟨λh=>?_,λh=>(key _ h).elim⟩⟩
 match i with
 | 0=>cases h
 | 1=>cases h
 | i + 2=>simp [aN,MD] at h
def Vu:List (List Int):=[[0,1],[1]]
def Vv:List (List Int):=[[0,1],[0,1]]
def K8 (A:Nat->Nat->List bV) (n T least:Nat):List iS:=(List.range n).flatMap λq=>(List.range T).flatMap λt=>if least<=(A q t).length then [⟨(q:Int),(t:Int),A q t⟩] else []
def Vw:List bG:=(pB p_ Ie).map (OX p_ Vv)
def T_ (q t:Nat):List bV:=wg Ie q t ++ KZ Ie q t ++ FL Vw q t
theorem vW:Rn (qN p_ MD Ie) (pK p_ Ie) Vu 5 = true/\Rn (uA p_ MD Ie) Vu Vv 5 = true/\(K8 T_ 5 3 1).length = 8/\(K8 T_ 5 3 2).length = 1/\T_ 4 1 = [⟨1,3⟩,⟨2,1⟩]/\Ie.length = 5:=by decide +kernel
theorem Vx:JD p_ MD Ie = Vu:=(KX vW.1).symm
theorem Vy:CO p_ MD Ie = Vv:=by
 unfold CO
 rw [Vx]
 exact (KX vW.2.1).symm
theorem Vz:bq p_ MD Ie = Vw:=by
 unfold bq Vw
 rw [Vy]
 exact Xo λb _=>OY _ _ _
theorem UM (q t:Nat):dM p_ MD Ie q t = T_ q t:=by unfold dM T_; rw [Vz]
theorem UN (least:Nat):dj p_ MD Ie least = K8 T_ 5 3 least:=by
 unfold dj iU iT cellAt K8
 rw [vW.2.2.2.2.2]
 simp only [UM]
 rfl
theorem JN {ss:List SQ} {a i f:Int} (h:tT p_ ss a i f):f = 0/\bu ss = bu Ie/\ss.map (·.1.2) = Ie.map (·.1.2):=by
 rcases h with ⟨hn,_⟩ | ⟨_,hbig,_⟩ | ⟨_,hA,_,_,rfl⟩
 ·exact absurd Ml hn
 ·exact (BQ K7 hbig).elim
 ·have e5:=G4 hA.dn K7
  have hl:(b_ p_ 5).1.length = (b_ p_ 5).2.length:=by decide +kernel
  refine ⟨rfl,?_,?_⟩
  ·rw [hA.es,e5]
   unfold Ie bu
   rw [XK]
   show _ = ((b_ p_ 5).1.zip (b_ p_ 5).2).map Prod.snd
   rw [List.map_snd_zip (by omega)]
  ·show bL ss = _
   rw [hA.ks,e5]
   unfold Ie
   rw [XK]
   show _ = ((b_ p_ 5).1.zip (b_ p_ 5).2).map Prod.fst
   rw [List.map_fst_zip (by omega)]
theorem FR {g:af} {nn:List Bool} {ss ss' : List SQ} (h:bu ss = bu ss') (hk:ss.map (·.1.2) = ss'.map (·.1.2)) (q t:Nat):dM g nn ss q t = dM g nn ss' q t:=by
 have e1:wg ss q t = wg ss' q t:=by unfold wg; rw [Fp h]
 have e2:KZ ss q t = KZ ss' q t:=by
  have hq:=congrArg (λl=>l[q]?) hk
  simp only [Wc] at hq
  unfold KZ
  cases h1:ss[q]? with
  | none=>cases h2:ss'[q]? with
   | none=>rfl
   | some b=>rw [h1,h2] at hq; cases hq
  | some a=>cases h2:ss'[q]? with
   | none=>rw [h1,h2] at hq; cases hq
   | some b =>
    rw [h1,h2] at hq
    have e:a.1.2 = b.1.2:=Option.some.inj hq
    show (if t = 0/\(⟨0,1⟩ : ag)∈a.1.2 then [(⟨3,0⟩ : bV)] else []) = if t = 0/\(⟨0,1⟩ : ag)∈b.1.2 then [⟨3,0⟩] else []
    rw [e]
 unfold dM
 rw [e1,e2,Ec h]
theorem CF {g:af} {nn:List Bool} {ss ss' : List SQ} {least:Nat} (h:bu ss = bu ss') (hk:ss.map (·.1.2) = ss'.map (·.1.2)):dj g nn ss least = dj g nn ss' least:=by
 unfold dj iU iT cellAt
 rw [Fq h]
 simp only [FR h hk]
end Go.V
namespace Go.V
instance:oF iS:={ n:=3,rd:=λh x vs=>∃ (a:Yg) (c:Nat),vs = [.int .i64 x.st,.int .i64 x.tm,.slice a x.acts.length c]/\a_ h x.acts a x.acts.length,mono:=λs ⟨a,c,e,r⟩=>⟨a,c,e,r.mono s⟩,len:=λ⟨_,_,e,_⟩=>by rw [e]; rfl }
section
variable {h:Hp} {w:World} {L:List ay} {o:Yg} {l i c:Nat}
theorem AR {xs:List bV} {a:Yg} (hl:xs.length = l) (r:eR a (mZ xs) h):a_ h xs a l:=by
 refine ⟨hl,λi x hx=>?_⟩
 rcases r with e | ⟨ad,rfl,hc⟩
 ·have h1:=congrArg List.length e
  rw [FM,W0] at h1
  have:=(V9.1 hx).1; omega
 ·exact ⟨ad,uQ x,rfl,bR (n:=2) (λ_=>rfl) xs ad hc i x hx,rfl⟩
theorem HX {xs:List bV} {a:Yg} (r:a_ h xs a l) (hi:i < l):∃ x ad,xs[i]? = some x/\a = some ad/\av h (ad.add (cV i 2)) (uQ x):=by
 obtain ⟨x,ad,vs,hx,ha,hr,e⟩:=r.get hi
 rw [show vs = uQ x from e] at hr
 exact ⟨x,ad,hx,ha,hr⟩
theorem K9 {ds:List t_} (r:eR o (xR ds) h) (hd:∀ d∈ds,a_ h d.2.2 d.2.1.1 d.2.2.length):a_ h (ds.map vV) o ds.length:=by
 refine ⟨by simp,λi x hi=>?_⟩
 rw [Wc] at hi
 cases hb:ds[i]? with
 | none=>rw [hb] at hi; cases hi
 | some p =>
  rw [hb] at hi
  simp only [Xb,Option.some.injEq] at hi
  subst hi
  rcases r with e | ⟨ad,e,hc⟩
  ·have h1:=congrArg List.length e
   rw [FQ,W0] at h1
   have:=(V9.1 hb).1; omega
  ·exact ⟨ad,K4 p,e,bR (n:=3) (λ_=>rfl) ds ad hc i p hb,p.2.1.1,p.2.1.2,rfl,hd p (V_ hb)⟩
theorem V5 {ds:List t_} {b:t_} (h:St w (aG (oG ds) :: L)) (hb:b∈ds):a_ (hp w) b.2.2 b.2.1.1 b.2.2.length:=by
 obtain ⟨i,hi⟩:=WH hb
 have hA:(oG ds)[i]? = some (dm 2 mZ b.2):=by unfold oG; rw [Wc,hi]; rfl
 have h2:=St.out h hA
 exact AR rfl (fN 0 h2.l)
theorem TH {ds:List t_} (h:St w (own 3 o ds.length c (xR ds) :: aG (oG ds) :: L)):a_ (hp w) (ds.map vV) o ds.length:=K9 (fN 0 h.l) λd hd=>V5 (h.pick 2 [1]) hd
theorem HY {xs:List iS} (r:a_ h xs o l) (hi:i < l):∃ x ad a c,xs[i]? = some x/\o = some ad/\av h (ad.add (cV i 3)) [.int .i64 x.st,.int .i64 x.tm,.slice a x.acts.length c]/\a_ h x.acts a x.acts.length:=by
 obtain ⟨x,ad,vs,hx,ha,hr,a,c',rfl,hx2⟩:=r.get hi
 exact ⟨x,ad,a,c',hx,ha,hr,hx2⟩
end
end Go.V
namespace Go.Proofs.YtndaepmjkbmjmaaGreatDoor
open Go.V
variable {w:World} {L:List ay} {g:af} {x:GA}
theorem JO : T7 Tryz.prog mJ cX { name := "Kind", type := cX, offset := 0, embedded := false, tag := "", pkgPath := "", byteOffset := 0 } { name := "To", type := cX, offset := 1, embedded := false, tag := "", pkgPath := "", byteOffset := 8 } where
 ht:=by kernel_rfl
 hf:=by kernel_rfl
 hi:=bB
 ht0:=rfl
 ht1:=rfl
 n0:=by decide
 n1:=by decide
 o0:=rfl
 o1:=rfl
 sih:=BA
theorem Rx (x y:bV):decide (x = y) = decide (x.kind = y.kind/\x.to = y.to):=by cases x; cases y; simp
theorem UO (w:World) (xo yo:Operand) (x y:bV):Sem.run Tryz.prog (iu .neq mJ xo yo (.agg ⟨uQ x⟩) (.agg ⟨uQ y⟩)) w = .ok (.bool (!decide (x = y))) w:=by
 unfold iu
 rw [Sem.run_bind,run_eqGuard_agg w _ _ _ _ _ _ Bz]
 simp only [Result.andThen_ok]
 rw [run_neq_struct,Rx]
 show ((Op.equal mJ (.agg #[.int .i64 x.kind,.int .i64 x.to]) (.agg #[.int .i64 y.kind,.int .i64 y.to])).run Tryz.prog w).andThen _ = _
 rw [Jg JO]
 rfl
theorem CG {α : Type} {xs ys:List α} (hl:xs.length = ys.length) (h:xs.take xs.length = ys.take xs.length):xs = ys:=by
 rw [Ww,hl,Ww] at h; exact h
theorem Er {a a2:Yg} {l l2 c c2:Nat} {xs ys:List bV} (hx:a_ (hp w) xs a l) (hy:a_ (hp w) ys a2 l2) (hb:l<=4611686018427387904):aA Tryz.prog pW [.slice a l c,.slice a2 l2 c2] w λv w'=>v = .bool (decide (xs = ys))/\Gr w w':=by
 have hxl:=hx.1
 have hyl:=hy.1
 refine nb (ae (λh1=>?_) λh1=>?_)
 ·have h1:(l:Int)≠l2:=by simpa using h1
  have:xs≠ys:=λe=>h1 (by rw [<- hxl,<- hyl,e])
  exact ⟨by rw [W2 this],Gr.refl _⟩
 have h1:(l:Int) = l2:=by simpa using h1
 have h1:l2 = l:=by omega
 subst h1
 refine ⟨λz w'=>∃ j:Nat,z = j/\j<=l2/\xs.take j = ys.take j/\hp w' = hp w,λz _=>l2 - z.toNat,⟨0,rfl,Wi _,rfl,rfl⟩,?_⟩
 rintro _ _ w1 ⟨j,rfl,hj,hs,e1⟩
 refine ae (λh1=>?_) λh1=>?_
 rotate_left
 ·have h1:j = l2:=by have:=V8 h1; omega
  have:xs = ys:=CG (by omega) (by rw [hxl,<- h1]; exact hs)
  exact ⟨by rw [WI this],Gr.of_eq e1⟩
 have h1:j < l2:=by have:=V7 h1; omega
 intro w2 hd
 have e2:hp w2 = hp w:=(aB hd).trans e1
 have sb:∀ u:World,hp u = hp w->sub (hp w) (hp u):=λu e=>by rw [e]; exact sub.refl _
 obtain ⟨y1,ad1,q1,p1,r1⟩:=HX hx h1
 obtain ⟨y2,ad2,q2,p2,r2⟩:=HX hy h1
 refine ⟨λu=>hp u = hp w,e2,au p1 h1 ⟨_,_,λu e=>r1.at (sb u e) rfl,au p2 h1 ⟨_,_,λu e=>r2.at (sb u e) rfl,_,λu _=>UO u _ _ y1 y2,_,rfl,ae (λh2=>?_) λh2=>?_⟩⟩⟩
 ·have h2:y1≠y2:=by simpa using h2
  have:xs≠ys:=λe=>by rw [e,q2] at q1; exact h2 (Option.some.inj q1).symm
  exact ⟨by rw [W2 this],Gr.of_eq e2⟩
 ·have h2:y1 = y2:=by simpa using h2
  subst h2
  exact ⟨⟨by omega,by omega⟩,⟨j + 1,by simp,h1,by rw [Wf,Wf,hs,q1,q2],e2⟩,bw h1⟩
theorem K_ {a a2:Yg} {l l2 c c2:Nat} {xs ys:List iS} (hx:a_ (hp w) xs a l) (hy:a_ (hp w) ys a2 l2) (hb:l<=4611686018427387904) (hbs:∀ x∈xs,x.acts.length<=4611686018427387904):aA Tryz.prog tB [.slice a l c,.slice a2 l2 c2] w λv w'=>v = .bool (decide (xs = ys))/\Gr w w':=by
 have hxl:=hx.1
 have hyl:=hy.1
 refine pV (ae (λh1=>?_) λh1=>?_)
 ·have h1:(l:Int)≠l2:=by simpa using h1
  have:xs≠ys:=λe=>h1 (by rw [<- hxl,<- hyl,e])
  exact ⟨by rw [W2 this],Gr.refl _⟩
 have h1:(l:Int) = l2:=by simpa using h1
 have h1:l2 = l:=by omega
 subst h1
 refine ⟨λz w'=>∃ j:Nat,z = j/\j<=l2/\xs.take j = ys.take j/\Gr w w',λz _=>l2 - z.toNat,⟨0,rfl,Wi _,rfl,Gr.refl _⟩,?_⟩
 rintro _ _ w1 ⟨j,rfl,hj,hs,g1⟩
 refine ae (λh1=>?_) λh1=>?_
 rotate_left
 ·have h1:j = l2:=by have:=V8 h1; omega
  have:xs = ys:=CG (by omega) (by rw [hxl,<- h1]; exact hs)
  exact ⟨by rw [WI this],g1⟩
 have h1:j < l2:=by have:=V7 h1; omega
 intro w2 hd
 have g2:Gr w w2:=g1.trans (Gr.drawn hd)
 obtain ⟨y1,ad1,b1,d1,q1,p1,r1,t1⟩:=HY hx h1
 obtain ⟨y2,ad2,b2,d2,q2,p2,r2,t2⟩:=HY hy h1
 have no:y1≠y2->∀ {u:World},Gr w u->(.bool false:Value) = .bool (decide (xs = ys))/\Gr w u:=λhne u gu=>⟨by rw [W2 λe=>by rw [e,q2] at q1; exact hne (Option.some.inj q1).symm],gu⟩
 refine ⟨λu=>Gr w2 u,Gr.refl _,au p1 h1 ⟨_,λu s=>r1.cell0 (sub.trans g2 s),au p2 h1 ⟨_,λu s=>r2.cell0 (sub.trans g2 s),ae (λh2=>no (λe=>by rw [e] at h2; simp at h2) g2) λh2=>?_⟩⟩⟩
 refine au p1 h1 ⟨_,λu s=>r1.cell (sub.trans g2 s) (j:=1) rfl,au p2 h1 ⟨_,λu s=>r2.cell (sub.trans g2 s) (j:=1) rfl,ae (λh3=>no (λe=>by rw [e] at h3; simp at h3) g2) λh3=>?_⟩⟩
 refine au p1 h1 ⟨_,_,_,λu s=>r1.cell (sub.trans g2 s) (j:=2) rfl,au p2 h1 ⟨_,_,_,λu s=>r2.cell (sub.trans g2 s) (j:=2) rfl,(Er (t1.mono g2) (t2.mono g2) (hbs _ (V_ q1))).mono ?_⟩⟩
 rintro _ w9 ⟨rfl,g9⟩
 have g29:=g2.trans g9
 refine ⟨_,rfl,g9,ae (λh4=>no (λe=>by rw [e] at h4; simp at h4) g29) λh4=>?_⟩
 have h2:y1.st = y2.st:=by simpa using h2
 have h3:y1.tm = y2.tm:=by simpa using h3
 have h4:y1.acts = y2.acts:=by simpa using h4
 have e:y1 = y2:=by cases y1; cases y2; simp at h2 h3 h4; simp [h2,h3,h4]
 subst e
 exact ⟨⟨by omega,by omega⟩,⟨j + 1,by simp,h1,by rw [Wf,Wf,hs,q1,q2],g29⟩,bw h1⟩
end Go.Proofs.YtndaepmjkbmjmaaGreatDoor
namespace Go.Proofs.YtndaepmjkbmjmaaGreatDoor
open Go.V
variable {w:World} {L:List ay} {g:af} {x:GA}
theorem HZ {ss ss' : List SQ} {nn nn' : List Bool} {a i f a' i' f' : Int} (hR:tT g ss a i f) (hn:f = 0->ju g nn) (hR' : tT g ss' a' i' f') (hn' : f' = 0->ju g nn'):f' = f/\(∀ l,dj g nn' ss' l = dj g nn ss l)/\(f = 0->∀ q t,dM g nn' ss' q t = dM g nn ss q t)/\ss'.length = ss.length:=by
 obtain ⟨hk,hes,_,_,rfl,hl⟩:=hR.one hR'
 have hk:ss.map (·.1.2) = ss'.map (·.1.2):=hk
 refine ⟨rfl,λl=>?_,λhf q t=>?_,hl.symm⟩
 ·by_cases hf:f = 0
  ·rw [(hn' hf).inj (hn hf)]; exact (CF hes hk).symm
  ·rw [hR.nil hf,hR'.nil hf]; rfl
 ·rw [(hn' hf).inj (hn hf)]; exact (FR hes hk q t).symm
theorem Ry {ss:List SQ} {nn:List Bool} {a i f:Int} {l:Nat} (hR:tT g ss a i f):(dj g nn ss l).length<=16640:=by
 by_cases hf:f = 0
 ·obtain ⟨hc,hA⟩:=hR.L4 hf
  have h256:=hA.dn.2.1
  obtain ⟨sT,_⟩:=hc.ct
  have h1:=zf (g:=g) (nn:=nn) (ss:=ss) (least:=l) (n:=ss.length)
  have h2:ss.length * g.T<=256 * 65:=XT (by omega) sT
  unfold dj
  omega
 ·rw [hR.nil hf]; exact Wi _
theorem Rz {ss:List SQ} {nn:List Bool} {l:Nat} (hb:iE g):∀ c∈dj g nn ss l,c.acts.length<=4611686018427387904:=λc hc=>by
 obtain ⟨q,t,_,_,_,rfl⟩:=Ej.1 hc
 have:=HS (g:=g) (nn:=nn) (ss:=ss) (q:=q) (t:=t)
 have:=hb.2.2.2.1
 show (dM g nn ss q t).length<=_
 omega
theorem TI (hg:gR (hp w) g x) (hb:iE g) (hbT:g.terms.length * 24<=140737488355328) (hbN:g.nons.length * 16<=140737488355328):aA Tryz.prog j7 [.agg ⟨x.cells⟩] w λv w'=>∃ y:GA,v = .agg ⟨y.cells⟩/\gR (hp w') g y/\Gr w w':=by
 refine (S5 (x:=x) hg hb hbT hbN).mono ?_
 rintro _ w3 ⟨y,os,rfl,hy,hos,h3⟩
 exact ⟨y,rfl,Qx hy hos h3,aU 5 h3.l⟩
theorem H0 (hg:gR (hp w) g x) (hb:iE g) (ht:eM (hp w)):aA Tryz.prog tu [.agg ⟨x.cells⟩] w λv w'=>∃ (ss:List SQ) (ask int f:Int) (nn:List Bool) (o:Yg) (c:Nat),v = .tuple #[.slice o (dj g nn ss 1).length c,.int .i64 f]/\tT g ss ask int f/\(f = 0->ju g nn)/\a_ (hp w') (dj g nn ss 1) o (dj g nn ss 1).length/\Gr w w':=by
 refine (HW hg hb ht).mono ?_
 rintro _ w' ⟨ss,ask,int,f,nn,o,c,ds,rfl,hR,hn,hds,h⟩
 have r:=TH h
 have e:ds.length = (dj g nn ss 1).length:=by rw [<- hds]; simp
 rw [hds,e] at r
 exact ⟨ss,ask,int,f,nn,o,c,by rw [e],hR,hn,r,aU 2 h.l⟩
theorem Mm (hg:gR (hp w) g x) (hb:iE g) (ht:eM (hp w)):aA Tryz.prog p9 [.agg ⟨x.cells⟩] w λv w'=>∃ (ss:List SQ) (ask int f:Int) (nn:List Bool) (o:Yg) (c:Nat),v = .tuple #[.slice o (dj g nn ss 2).length c,.int .i64 f]/\tT g ss ask int f/\(f = 0->ju g nn)/\a_ (hp w') (dj g nn ss 2) o (dj g nn ss 2).length/\Gr w w':=by
 refine (Mj hg hb ht).mono ?_
 rintro _ w' ⟨ss,ask,int,f,nn,o,c,ds,rfl,hR,hn,hds,h⟩
 have r:=TH h
 have e:ds.length = (dj g nn ss 2).length:=by rw [<- hds]; simp
 rw [hds,e] at r
 exact ⟨ss,ask,int,f,nn,o,c,by rw [e],hR,hn,r,aU 2 h.l⟩
theorem Pm {q t:Int} (hg:gR (hp w) g x) (hb:iE g) (ht:eM (hp w)):aA Tryz.prog tw [.agg ⟨x.cells⟩,.int .i64 q,.int .i64 t] w λv w'=>∃ (ss:List SQ) (ask int f e:Int) (nn:List Bool) (o:Yg) (c:Nat) (acts:List bV),v = .tuple #[.slice o acts.length c,.int .i64 e]/\tT g ss ask int f/\(f = 0->ju g nn)/\TG g nn ss f q t e acts/\a_ (hp w') acts o acts.length/\Gr w w':=by
 refine (Pj hg hb ht).mono ?_
 rintro _ w' ⟨ss,ask,int,f,e,nn,o,c,acts,rfl,hR,hn,hA,h⟩
 exact ⟨ss,ask,int,f,e,nn,o,c,acts,rfl,hR,hn,hA,AR rfl (fN 0 h.l),aU 1 h.l⟩
theorem Mn (ht:eM (hp w)):aA Tryz.prog tA [] w λv w'=>v = .bool true/\Gr w w':=by
 refine pR ?_
 refine ah (St.all w) λk1 w1 h=>ah h λk2 w2 h=>ah h λk3 w3 h=>ah h λk4 w4 h=>ah h λk5 w5 h=>ah h λk6 w6 h=>ah h λk7 w7 h=>bx h rfl (by intro v hv; simp at hv; rcases hv with rfl | rfl | rfl | rfl | rfl <;> rfl) λw8 h=>?_
 have r7:av (hp w8) ⟨k7,0,none⟩ _:=ai 0 h.l
 have r6:av (hp w8) ⟨k6,0,none⟩ _:=ai 1 h.l
 have r5:av (hp w8) ⟨k5,0,none⟩ _:=ai 2 h.l
 have r4:av (hp w8) ⟨k4,0,none⟩ _:=ai 3 h.l
 have r3:av (hp w8) ⟨k3,0,none⟩ _:=ai 4 h.l
 have r2:av (hp w8) ⟨k2,0,none⟩ _:=ai 5 h.l
 have r1:av (hp w8) ⟨k1,0,none⟩ _:=ai 6 h.l
 have g8:Gr w w8:=aU 7 h.l
 clear h
 have p3:a_ (hp w8) ([4] : List Int) (some ⟨k3,0,none⟩) 1:=dS rfl (.inr ⟨_,rfl,r3⟩)
 have p4:a_ (hp w8) ([4,1,4] : List Int) (some ⟨k4,0,none⟩) 3:=dS rfl (.inr ⟨_,rfl,r4⟩)
 have p5:a_ (hp w8) ([2] : List Int) (some ⟨k5,0,none⟩) 1:=dS rfl (.inr ⟨_,rfl,r5⟩)
 have p0:a_ (hp w8) ([] : List Int) none 0:=dS rfl (.inl rfl)
 obtain ⟨x,hx⟩ : ∃ x:GA,x = ⟨some ⟨k1,0,none⟩,3,3,some ⟨k2,0,none⟩,2,2,none,0,0,4,some ⟨k6,0,none⟩,3,3⟩:=⟨_,rfl⟩
 have hg:gR (hp w8) p_ x:=by
  subst hx
  refine ⟨?_,?_,?_,rfl,?_,Wr _,Wr _,Wr _,Wr _⟩
  ·refine Hk (xs:=p_.terms) r1 λi t hi=>?_
   match i,hi with
   | 0,hi=>cases hi; rfl
   | 1,hi=>cases hi; rfl
   | 2,hi=>cases hi; rfl
   | i + 3,hi=>cases hi
  ·exact fi (xs:=p_.nons) rfl (.inr ⟨_,rfl,r2⟩)
  ·exact p0
  ·refine Hk (xs:=p_.prods) r6 λi t hi=>?_
   match i,hi with
   | 0,hi=>cases hi; exact ⟨_,_,_,rfl,by decide,p3⟩
   | 1,hi=>cases hi; exact ⟨_,_,_,rfl,by decide,p4⟩
   | 2,hi=>cases hi; exact ⟨_,_,_,rfl,by decide,p5⟩
   | i + 3,hi=>cases hi
 have B:GB (hp w8) k7 x:=by subst hx; exact NF r7
 have ht8:eM (hp w8):=eR.mono g8 ht
 clear r1 r2 r3 r4 r5 r6 r7 p0 p3 p4 p5 hx ht
 refine ⟨_,_,_,_,_,_,_,_,_,_,_,_,_,B.row (sub.refl _),(H0 hg Pk ht8).mono ?_⟩
 rintro _ w9 ⟨ss,ask,int,f,nn,o,c,rfl,hR,hn,hr,g89⟩
 obtain ⟨rfl,hes,hks⟩:=JN hR
 have e:=(hn rfl).inj JM
 subst e
 have e1:(dj p_ MD ss 1).length = 8:=by rw [CF hes hks,UN]; exact vW.2.2.1
 rw [e1]
 refine ⟨_,_,_,_,rfl,_,_,_,_,_,_,_,_,_,_,_,_,_,B.row g89,(Mm (hg.mono g89) Pk (eR.mono g89 ht8)).mono ?_⟩
 rintro _ w10 ⟨ss2,ask2,int2,f2,nn2,o2,c2,rfl,hR2,hn2,hr2,g90⟩
 obtain ⟨rfl,hes2,hks2⟩:=JN hR2
 have e:=(hn2 rfl).inj JM
 subst e
 have e2:(dj p_ MD ss2 2).length = 1:=by rw [CF hes2 hks2,UN]; exact vW.2.2.2.1
 rw [e2]
 have g80:=g89.trans g90
 refine ⟨_,_,_,_,rfl,_,_,_,_,_,_,_,_,_,_,_,_,_,B.row g80,(Pm (q:=4) (t:=1) (hg.mono g80) Pk (eR.mono g80 ht8)).mono ?_⟩
 rintro _ w11 ⟨ss3,ask3,int3,f3,e3,nn3,o3,c3,acts,rfl,hR3,hn3,hA3,hr3,g01⟩
 obtain ⟨rfl,hes3,hks3⟩:=JN hR3
 have e:=(hn3 rfl).inj JM
 subst e
 have hl3:ss3.length = 5:=by rw [Fq hes3]; exact vW.2.2.2.2.2
 rcases hA3 with ⟨h,_⟩ | ⟨_,h,_⟩ | ⟨_,i,j,hi,hj,_,_,rfl,rfl⟩
 ·exact absurd rfl h
 ·rw [hl3] at h
  have:p_.T = 3:=rfl
  omega
 obtain rfl:i = 4:=by omega
 obtain rfl:j = 1:=by omega
 have e4:dM p_ MD ss3 4 1 = [⟨1,3⟩,⟨2,1⟩]:=by rw [FR hes3 hks3,UM]; exact vW.2.2.2.2.1
 rw [e4] at hr3 ⊢
 refine ⟨_,_,_,_,rfl,C7 rfl (C7 rfl (C7 rfl (C7 rfl (C7 rfl (ah (St.all w11) λk38 w12 h=>?_)))))⟩
 have g12:Gr w11 w12:=aU 1 h.l
 have hr4:a_ (hp w12) ([⟨1,3⟩,⟨2,1⟩] : List bV) (some ⟨k38,0,none⟩) 2:=AR rfl (.inr ⟨_,rfl,ai 0 h.l⟩)
 refine (Er (hr3.mono g12) hr4 (by decide)).mono ?_
 rintro _ w13 ⟨rfl,g13⟩
 exact ⟨_,rfl,rfl,g8.trans (g80.trans (g01.trans (g12.trans g13)))⟩
end Go.Proofs.YtndaepmjkbmjmaaGreatDoor
namespace Go.V
open Go.Proofs.YtndaepmjkbmjmaaGreatDoor
section
variable {g:af} {nn:List Bool} {ss:List SQ}
theorem La (hc:ak g) (hA:bm g ss) {q m d:Nat} {r:SQ} {p:aH} {s:Int} (hq:ss[q]? = some r) (hy:nT g r.1.2 ⟨(m:Int),(d:Int)⟩) (hp:g.prods[m]? = some p) (hs:p.right[d]? = some s) (hT:(g.T:Int)<=s):∃ (v j:Nat) (r' : SQ),(bj g ss)[v]? = some ⟨(q:Int),s⟩/\eW ss q s = some (j:Int)/\ss[j]? = some r'/\(⟨(m:Int),((d + 1:Nat):Int)⟩ : ag)∈r'.1.2:=by
 obtain ⟨j,r',h1,h2,h3⟩:=tV hc hA hq hy (fE hp hs) (by omega)
 obtain ⟨v,hv⟩:=O4 (g:=g) h1 hT
 exact ⟨v,j,r',hv,h1,h2,by simpa using h3⟩
end
end Go.V
namespace Go.V
open Go.Proofs.YtndaepmjkbmjmaaGreatDoor
inductive zo (g:af) (ss:List SQ):Nat->Nat->Nat->Nat->Prop
 | st:zo g ss 0 0 0 0
 | sh (q m d j x:Nat) (p:aH) (s:Int):g.prods[m]? = some p->p.right[d]? = some s->eW ss q s = some (j:Int)->zo g ss q m d x->zo g ss j m (d + 1) x
 | fs (q m d n x:Nat) (p p' : aH) (s:Int) (r:SQ):ss[q]? = some r->nT g r.1.2 ⟨(m:Int),(d:Int)⟩->g.prods[m]? = some p->p.right[d]? = some s->g.prods[n]? = some p'->p'.left = s->qM g (p.right.drop (d + 1)) x->zo g ss q n 0 x
 | up (q m d n x:Nat) (p p' : aH) (s:Int):g.prods[m]? = some p->p.right[d]? = some s->g.prods[n]? = some p'->p'.left = s->De g (p.right.drop (d + 1))->zo g ss q m d x->zo g ss q n 0 x
section
variable {g:af} {nn:List Bool} {ss:List SQ}
theorem zo.VA (hc:ak g) (hA:bm g ss) {m i x:Nat} {p:aH} (hp:g.prods[m]? = some p) (h:zo g ss i m 0 x) (hi:i < ss.length):∀ (d q:Nat),d<=p.right.length->b9 ss (i:Int) (p.right.take d) = (q:Int)->zo g ss q m d x/\q < ss.length
 | 0,q,_,hw=>by
  rw [List.take_zero] at hw
  have hw:(i:Int) = q:=hw
  have:i = q:=by omega
  subst this
  exact ⟨h,hi⟩
 | d + 1,q,hd,hw=>by
  have hs:p.right[d]? = some p.right[d]:=Wa (by omega)
  rw [bA hs,sR (λi s j h=>iL hc hA h) _ _ _ (WJ _) (by omega)] at hw
  obtain ⟨k,hk⟩ : ∃ k,k = b9 ss (i:Int) (p.right.take d):=⟨_,rfl⟩
  rw [<- hk] at hw
  by_cases h0:k = -1
  ·rw [Wn h0] at hw; omega
  ·rw [Wg h0] at hw
   have hk0:0<=k:=by
    rcases xq (ss:=ss) (λi s j h=>iL hc hA h) (p.right.take d) i (WJ _) (by omega) with h | h
    ·rw [<- hk] at h; exact absurd h h0
    ·rw [<- hk] at h; exact h.1
   obtain ⟨k',rfl⟩ : ∃ k' : Nat,k = k':=⟨k.toNat,by omega⟩
   obtain ⟨ih,ihl⟩:=zo.VA hc hA hp h hi d k' (by omega) hk.symm
   rw [jk,Ws] at hw
   cases hn:eW ss k' p.right[d] with
   | none=>rw [hn] at hw; simp at hw
   | some j =>
    rw [hn] at hw
    have hw:b9 ss j [] = (q:Int):=hw
    have hj:j = q:=hw
    subst hj
    obtain ⟨_,_,_,_,_,_,hto⟩:=py hn
    exact ⟨.sh k' m d q x p _ hp hs hn ih,(iL hc hA hn).2 |> λh=>by omega⟩
theorem TJ (hc:ak g) {p:aH} (hp:p∈g.prods) {s:Int} (hs:s∈p.right):s≠g.T:=by
 obtain ⟨_,hsy,hpr,p0,hp0,hl0,hr0,_⟩:=hc
 obtain ⟨n,hn⟩:=WH hp
 cases n with
 | zero =>
  rw [hp0] at hn; cases hn
  rw [hr0,Wy] at hs
  have:=hpr.2.2.2.2.1
  omega
 | succ n =>
  have hm:p∈g.prods.drop 1:=by
   refine V_ (i:=n) ?_
   rw [WL,X9]; exact hn
  have:=(hpr.2.2.1 p hm).2 s hs
  unfold eH at this
  omega
theorem Lb (hc:ak g) {n:Nat} {p p' : aH} {s:Int} (hp:p∈g.prods) (hs:s∈p.right) (hn:g.prods[n]? = some p') (hl:p'.left = s):n≠0:=λh=>by
 subst h
 have h:=TJ hc hp hs
 obtain ⟨_,_,_,p0,hp0,hl0,_⟩:=hc
 rw [hp0] at hn; cases hn
 omega
theorem RA (hc:ak g) (hA:bm g ss) (hn:ju g nn) {v x:Nat} (h:dw (uA g nn ss) (JD g nn ss) v x):∀ (i:Nat) t,(bj g ss)[v]? = some t->t.st = i->∀ (n:Nat) p',g.prods[n]? = some p'->p'.left = t.sym->zo g ss i n 0 x:=by
 refine dw.least (Q:=λv x=>∀ (i:Nat) t,(bj g ss)[v]? = some t->t.st = i->∀ (n:Nat) p',g.prods[n]? = some p'->p'.left = t.sym->zo g ss i n 0 x) (λv x hx i t ht hi n p' hn' hl=>?_) (λv u x hu ih i t ht hi n p' hn' hl=>?_) h
 ·rw [JF (V9.1 ht).1] at hx
  obtain ⟨x',e,_,hh⟩:=gX.1 hx
  have:x' = x:=by omega
  subst this
  obtain ⟨i',j,q,r,f1,hq,f3,f4,f5,hr,hrk⟩:=vU hc hA ht
  have:i' = i:=by omega
  subst this
  rcases Rq hc hA hn hh i' j t ht f1 f4 with ⟨rfl,rfl⟩ | h5
  ·have hi:i' = 0:=by have f1:(0:Int) = i':=f1; omega
   subst hi
   obtain ⟨_,_,_,p0,hp0,hl0,hr0,_⟩:=hc
   exact .up 0 0 0 n 0 p0 p' _ hp0 (by rw [hr0]; rfl) hn' hl (λs hs=>by rw [hr0] at hs; simp at hs) .st
  ·obtain ⟨z,hz,hf⟩:=h5.item hc hA r hr
   rw [hrk] at hz
   obtain ⟨y,h1,h2,rfl⟩:=cH.1 hz
   obtain ⟨p,hp,hs,_⟩:=xK (y:=y) (by rw [h2]; omega)
   obtain ⟨hT,hN,hP,hP2,_,_⟩:=hc.ct
   have hK:=(fl hA hq).1
   have hfit:=h1.fit ((dg (g:=g) (by omega) i').fit _ (V_ hK))
   have hd:(y.dot + 1).toNat = y.dot.toNat + 1:=by have:=hfit.2.1; omega
   unfold rest at hf
   rw [show g.prods[((⟨y.prod,y.dot + 1⟩ : ag).prod).toNat]? = some p from hp] at hf
   have hf:qM g (p.right.drop (y.dot + 1).toNat) x':=hf
   rw [hd] at hf
   rw [h2] at hs
   refine .fs i' y.prod.toNat y.dot.toNat n x' p p' _ q hq ?_ hp hs hn' hl hf
   have e:(⟨(y.prod.toNat:Int),(y.dot.toNat:Int)⟩ : ag) = y:=by
    have a1:=hfit.1; have a2:=hfit.2.1
    cases y; simp at *; omega
   rw [e]; exact h1
 ·obtain ⟨h1,h2,h3⟩:=O3.1 hu
  have hu' : (bj g ss)[u]? = some (bj g ss)[u]:=Wa h2
  unfold xu at h3
  rw [hu'] at h3
  simp only [Xq] at h3
  obtain ⟨m,hm,h3⟩:=h3
  rw [Wo] at h3
  obtain ⟨_,h3⟩:=h3
  cases hp:g.prods[m]? with
  | none=>rw [hp] at h3; cases h3
  | some p =>
   rw [hp] at h3
   simp only [Wo,Xq,Wk] at h3
   obtain ⟨h4,k,hk,h5,h6⟩:=h3
   have hk:=WA.1 hk
   rw [ht] at h5
   have h5:=Option.some.inj h5
   subst h5
   obtain ⟨i0,j0,q0,_,f1,hq0,_⟩:=vU hc hA hu'
   have hs:p.right[k]? = some (p.right.getD k 0):=by rw [Wb,Wa hk]; rfl
   have hi:b9 ss (bj g ss)[u].st (p.right.take k) = (i:Int):=hi
   rw [f1] at hi
   have hb:=ih i0 _ hu' f1 m p hp h4
   have:=(hb.VA hc hA hp (V9.1 hq0).1 k i (by omega) hi).1
   exact .up i m k n x p p' _ hp hs hn' hl ((HM hc hn).1 h6) this
structure VB (g:af) (nn:List Bool) (ss:List SQ) (q m d x:Nat):Prop where
 it:∃ r,ss[q]? = some r/\nT g r.1.2 ⟨(m:Int),(d:Int)⟩
 pr:∃ p,g.prods[m]? = some p/\d<=p.right.length/\(m = 0->x = 0/\b9 ss 0 (p.right.take d) = (q:Int)) /\
  (m≠0->∃ (i v:Nat),(bj g ss)[v]? = some ⟨(i:Int),p.left⟩/\b9 ss (i:Int) (p.right.take d) = (q:Int)/\dw (uA g nn ss) (JD g nn ss) v x)
theorem zo.inv (hc:ak g) (hA:bm g ss) (hn:ju g nn) {q m d x:Nat} (h:zo g ss q m d x):VB g nn ss q m d x:=by
 have hc':=hc
 obtain ⟨_,_,hpr,p0,hp0,hl0,hr0,_⟩:=hc'
 have hst:=hpr.2.2.2.2.1
 have hpos:=hA.pos
 induction h with
 | st =>
  obtain ⟨r,hr⟩ : ∃ r,ss[0]? = some r:=⟨_,Wa hpos⟩
  have hK:=(fl hA hr).1
  have e:r.1.2 = [⟨0,0⟩]:=by
   have:(b_ g 0).1[0]? = some [⟨0,0⟩]:=rfl
   rw [this] at hK
   exact (Option.some.inj hK).symm
  exact ⟨⟨r,hr,.base (by rw [e]; simp)⟩,p0,hp0,Wi _,λ_=>⟨rfl,rfl⟩,λh=>absurd rfl h⟩
 | sh q m d j x p s hp hs hj _ ih =>
  obtain ⟨⟨r,hr,hcl⟩,p',hp',hd,h0,h1⟩:=ih
  rw [hp] at hp'; cases hp'
  have hdl:=(V9.1 hs).1
  have hsy:=hc.sym (V_ hp) (V_ hs)
  obtain ⟨j',r',e1,e2,e3⟩:=tV hc hA hr hcl (fE hp hs) (by omega)
  rw [hj] at e1
  have:j = j':=by have:=Option.some.inj e1; omega
  subst this
  have step:∀ i:Nat,i < ss.length->b9 ss (i:Int) (p.right.take d) = (q:Int)->b9 ss (i:Int) (p.right.take (d + 1)) = (j:Int):=λi hi hw=>by
   rw [bA hs,sR (λi s j h=>iL hc hA h) _ _ _ (WJ _) (by omega),hw,Wg (by omega),jk,Ws,hj]
   rfl
  refine ⟨⟨r',e2,.base (by simpa using e3)⟩,p,hp,hdl,λhm=>⟨(h0 hm).1,?_⟩,λhm=>?_⟩
  ·have:=step 0 hpos (h0 hm).2
   exact this
  ·obtain ⟨i,v,q1,q2,q3⟩:=h1 hm
   obtain ⟨i',_,q',_,f1,hq',_⟩:=vU hc hA q1
   have:i = i':=by have f1:(i:Int) = i':=f1; omega
   subst this
   exact ⟨i,v,q1,step i (V9.1 hq').1 q2,q3⟩
 | fs q m d n x p p' s r hr hcl hp hs hn' hl hf =>
  have hsT:(g.T:Int)<=s:=by rw [<- hl]; exact hc.left (V_ hn')
  obtain ⟨v,j,r',hv,f1,f2,f3⟩:=La hc hA hr hcl hp hs hsT
  have hn0:=Lb hc (V_ hp) (V_ hs) hn' hl
  refine ⟨⟨r,hr,.step hcl (by rw [fE hp hs]; omega) hn' (by rw [fE hp hs]; exact hl)⟩,p',hn',Wi _,λh=>absurd h hn0,λ_=>⟨q,v,by rw [hl]; exact hv,rfl,dw.iff.2 (.inl ?_)⟩⟩
  have hh:=(Dk.TD hc hA hp f2 (.base f3) hf).has hc hA hn v q _ hv rfl f1
  have hlt:=UI hc hA hh
  obtain ⟨sT,_⟩:=hc.ct
  rw [JF (V9.1 hv).1]
  exact gX.2 ⟨x,rfl,by omega,hh⟩
 | up q m d n x p p' s hp hs hn' hl hnu _ ih =>
  obtain ⟨⟨r,hr,hcl⟩,p2,hp2,hd,h0,h1⟩:=ih
  rw [hp] at hp2; cases hp2
  have hsT:(g.T:Int)<=s:=by rw [<- hl]; exact hc.left (V_ hn')
  obtain ⟨v,j,r',hv,f1,f2,f3⟩:=La hc hA hr hcl hp hs hsT
  have hn0:=Lb hc (V_ hp) (V_ hs) hn' hl
  refine ⟨⟨r,hr,.step hcl (by rw [fE hp hs]; omega) hn' (by rw [fE hp hs]; exact hl)⟩,p',hn',Wi _,λh=>absurd h hn0,λ_=>⟨q,v,by rw [hl]; exact hv,rfl,?_⟩⟩
  by_cases hm:m = 0
  ·subst hm
   obtain ⟨rfl,hw⟩:=h0 rfl
   rw [hp0] at hp; cases hp
   have hdl:=(V9.1 hs).1
   rw [hr0] at hdl
   have hd0:d = 0:=by simp at hdl; omega
   subst hd0
   have hq:(0:Int) = q:=hw
   have hq:q = 0:=by omega
   subst hq
   rw [hr0] at hs
   have hs:g.start = s:=Option.some.inj hs
   subst hs
   obtain ⟨sT,_⟩:=hc.ct
   have hd:dw (qN g nn ss) (pK g ss) v 0:=dw.iff.2 (.inl ((FJ hc hA hv rfl f1).2 (.inl ⟨rfl,rfl⟩)))
   refine dw.iff.2 (.inl ?_)
   rw [JF (V9.1 hv).1]
   exact gX.2 ⟨0,rfl,by omega,hd⟩
  ·obtain ⟨i,u,hu,hw,hh⟩:=h1 hm
   refine dw.iff.2 (.inr ⟨u,O3.2 ⟨(V9.1 hv).1,(V9.1 hu).1,?_⟩,hh⟩)
   unfold xu
   rw [hu]
   simp only [Xq,WA]
   refine ⟨m,(V9.1 hp).1,?_⟩
   rw [WI hm,XL,hp]
   simp only [decide_true,XL,Xq,WA,Wo,Wk]
   refine ⟨d,(V9.1 hs).1,?_,(HM hc hn).2 hnu⟩
   rw [hv,hw,Wb,hs]
   rfl
theorem Pn (hc:ak g) (hA:bm g ss) (hn:ju g nn) {q m:Nat} {p:aH} (hp:g.prods[m]? = some p) (hm:m≠0) {z:Int}:z∈(dV g (CO g nn ss) ⟨(q:Int),(m:Int),bX (bj g ss).length (dv g ss q m)⟩).tm↔∃ x:Nat,z = x/\x < g.T/\zo g ss q m p.right.length x:=by
 rw [HN]
 refine exists_congr λx=>and_congr_right λ_=>and_congr_right λhx=>?_
 constructor
 ·rintro ⟨t,ht,hf⟩
  obtain ⟨u,rfl,hu,hb⟩:=cJ.1 ht
  have ht:(bj g ss)[u]? = some (bj g ss)[u]:=Wa hu
  obtain ⟨hmm,p',hp',hw⟩:=(jm ht).1 hb
  rw [hp] at hp'; cases hp'
  obtain ⟨_,p2,hp2,hl⟩:=iP.1 hmm
  rw [hp] at hp2; cases hp2
  rw [Ws,O5 hu] at hf
  obtain ⟨x',e,_,hh⟩:=gX.1 hf
  have:x' = x:=by omega
  subst this
  obtain ⟨i,_,q0,_,f1,hq0,_⟩:=vU hc hA ht
  have h0:=RA hc hA hn hh i _ ht f1 m p hp hl
  rw [f1] at hw
  exact (h0.VA hc hA hp (V9.1 hq0).1 p.right.length q (Wr _) (by rw [Ww]; exact hw)).1
 ·intro h
  obtain ⟨_,p',hp',_,_,h1⟩:=h.inv hc hA hn
  rw [hp] at hp'; cases hp'
  obtain ⟨i,v,q1,q2,q3⟩:=h1 hm
  rw [Ww] at q2
  have hv:=(V9.1 q1).1
  obtain ⟨sT,_⟩:=hc.ct
  refine ⟨(v:Int),cJ.2 ⟨v,rfl,hv,(jm q1).2 ⟨iP.2 ⟨by omega,p,hp,rfl⟩,p,hp,q2⟩⟩,?_⟩
  rw [Ws,O5 hv]
  exact gX.2 ⟨x,rfl,by omega,q3⟩
end
end Go.V
namespace Go.V
open Go.Proofs.YtndaepmjkbmjmaaGreatDoor
abbrev dY:=Nat->Nat->List Bool
def bQ (g:af) (ss:List SQ) (q:Nat):List ag:=match ss[q]? with
 | some r=>cls g r.1.2
 | none=>[]
def h_ (g:af) (ss:List SQ) (q i:Nat):Option ag:=(bQ g ss q)[i]?
def Mo (g:af) (ss:List SQ) (q:Nat):List (Nat × Nat):=(List.range (bQ g ss q).length).map λi=>(q,i)
def Dm (g:af) (ss:List SQ) (n:Nat):List (Nat × Nat):=(List.range n).flatMap (Mo g ss)
abbrev fI (g:af) (ss:List SQ):List (Nat × Nat):=Dm g ss ss.length
def CQ (F:dY) (q i:Nat) (v:List Bool):dY:=λq' i'=>if q' = q/\i' = i then v else F q' i'
def nh (D:List (Nat × Nat)) (F:dY):Nat:=(D.map λx=>aY (F x.1 x.2)).sum
section
variable {g:af} {nn:List Bool} {ss:List SQ} {F F' F0:dY} {q i:Nat} {v:List Bool} {D:List (Nat × Nat)}
theorem gA:CQ F q i v q i = v:=by unfold CQ; rw [Wn ⟨rfl,rfl⟩]
theorem ni {q' i' : Nat} (h:¬ (q' = q/\i' = i)):CQ F q i v q' i' = F q' i':=by unfold CQ; rw [Wg h]
theorem H3:CQ F q i (F q i) = F:=by
 funext q' i'; unfold CQ
 by_cases h:q' = q/\i' = i
 ·rw [Wn h,h.1,h.2]
 ·rw [Wg h]
theorem Es {n:Nat}:Dm g ss (n + 1) = Dm g ss n ++ Mo g ss n:=by unfold Dm; rw [Xi,WU]; simp
theorem CH {x:Nat × Nat}:x∈Mo g ss q↔x.1 = q/\x.2 < (bQ g ss q).length:=by
 unfold Mo
 rw [Wu]
 constructor
 ·rintro ⟨i,hi,rfl⟩; exact ⟨rfl,WA.1 hi⟩
 ·rintro ⟨rfl,h⟩; exact ⟨x.2,WA.2 h,rfl⟩
theorem iX {n:Nat} {x:Nat × Nat}:x∈Dm g ss n↔x.1 < n/\x.2 < (bQ g ss x.1).length:=by
 unfold Dm
 rw [Xx]
 constructor
 ·rintro ⟨q,hq,h⟩
  obtain ⟨rfl,h2⟩:=CH.1 h
  exact ⟨WA.1 hq,h2⟩
 ·rintro ⟨h1,h2⟩; exact ⟨x.1,WA.2 h1,CH.2 ⟨rfl,h2⟩⟩
theorem FT:∀ n,(Dm g ss n).Nodup
 | 0=>by simp [Dm]
 | n + 1=>by
  rw [Es,WR]
  refine ⟨FT n,?_,λa ha b hb e=>?_⟩
  ·unfold Mo
   rw [WY,W3]
   exact List.Pairwise.imp (λh e=>h (by cases e; rfl)) (WY.1 List.nodup_range)
  ·have h1:=iX.1 ha
   have h2:=CH.1 hb
   rw [e] at h1; omega
theorem AU {y:ag} (h:h_ g ss q i = some y):q < ss.length/\i < (bQ g ss q).length:=by
 refine ⟨?_,(V9.1 h).1⟩
 refine Nat.lt_of_not_le λhle=>?_
 unfold h_ bQ at h
 rw [Wt hle] at h
 simp at h
theorem iY {y:ag} (h:h_ g ss q i = some y):(q,i)∈fI g ss:=iX.2 (AU h)
theorem Lc {r:SQ} (hr:ss[q]? = some r):bQ g ss q = cls g r.1.2:=by unfold bQ; rw [hr]
theorem xT {r:SQ} {y:ag} (hr:ss[q]? = some r) (h:nT g r.1.2 y):∃ i,h_ g ss q i = some y:=by
 obtain ⟨i,hi⟩:=WH (iJ.2 h)
 exact ⟨i,by unfold h_; rw [Lc hr]; exact hi⟩
theorem RB {r:SQ} {y:ag} (hr:ss[q]? = some r) (h:h_ g ss q i = some y):nT g r.1.2 y:=by
 unfold h_ at h
 rw [Lc hr] at h
 exact iJ.1 (V_ h)
theorem UP:(bQ g ss q).Nodup:=by
 unfold bQ
 split
 ·have h:∀ {I:List ag},im (cls g I):=xc
  exact WY.2 (h.imp λ{a b} h e=>by subst e; unfold ag.lt at h; omega)
 ·simp
theorem xU {i' : Nat} {y:ag} (h:h_ g ss q i = some y) (h' : h_ g ss q i' = some y):i = i' :=
 (List.getElem?_inj (V9.1 h).1 UP).1 (by show h_ g ss q i = h_ g ss q i'; rw [h,h'])
theorem Ld {F:dY} {q i:Nat} {v:List Bool}:∀ {D:List (Nat × Nat)},D.Nodup->(q,i)∈D->nh D (CQ F q i v) + aY (F q i) = nh D F + aY v
 | [],_,h=>by cases h
 | x :: D,hn,h=>by
  obtain ⟨h1,h2⟩:=W5.1 hn
  have e:∀ F:dY,nh (x :: D) F = aY (F x.1 x.2) + nh D F:=λF=>by unfold nh; rw [WV,Yc]
  rw [e,e]
  by_cases hx:x = (q,i)
  ·subst hx
   have:nh D (CQ F q i v) = nh D F:=by
    unfold nh
    congr 1
    refine Xo λy hy=>?_
    rw [ni λhh=>h1 (by rw [<- hh.1,<- hh.2]; exact hy)]
   rw [this]
   show aY (CQ F q i v q i) + _ + _ = aY (F q i) + _ + _
   rw [gA]; omega
  ·rw [ni λhh=>hx (by rw [<- hh.1,<- hh.2])]
   have:=Ld (F:=F) (v:=v) h2 ((Wp.1 h).resolve_left (XG hx))
   omega
theorem Le {B:Nat}:∀ {D:List (Nat × Nat)},(∀ x∈D,aY (F x.1 x.2)<=B)->nh D F<=D.length * B
 | [],_=>by simp [nh]
 | x :: D,h=>by
  have e:nh (x :: D) F = aY (F x.1 x.2) + nh D F:=by unfold nh; rw [WV,Yc]
  rw [e,WZ,Xz]
  have:=Le (D:=D) λy hy=>h y (by simp [hy])
  have:=h x (by simp)
  omega
theorem Mp {bs cs:List Bool} (hl:cs.length = bs.length) (hs:∀ k,aN bs k = true->aN cs k = true):aY bs<=aY cs:=by
 unfold aY; rw [hl]; exact (yP hs _).1
structure lC (D:List (Nat × Nat)) (F0 F:dY) (b:Bool):Prop where
 le:nh D F0<=nh D F
 yes:b = true->nh D F0 < nh D F
 no:b = false->F = F0
theorem lC.start:lC D F F false:=⟨Wr _,λh=>(by cases h),λ_=>rfl⟩
theorem lC.trans {b b' : Bool} (h:lC D F0 F b) (h' : lC D F F' b'):lC D F0 F' (b || b'):=by
 have h1:=h.le
 have h2:=h'.le
 refine ⟨by omega,λhb=>?_,λhb=>?_⟩
 ·rcases W9 _ _ ▸ hb with hb | hb
  ·have:=h.yes hb; omega
  ·have:=h'.yes hb; omega
 ·rw [X8] at hb
  rw [h'.no hb.2,h.no hb.1]
theorem lC.one {T:Nat} {l:List Bool} (hD:D.Nodup) (hm:(q,i)∈D) (hF:(F q i).length = T) (hl:l.length = T):lC D F (CQ F q i (vD T (F q i) l)) (decide (vD T (F q i) l≠F q i)):=by
 have h1:=Ld (F:=F) (v:=vD T (F q i) l) hD hm
 have h2:aY (F q i)<=aY (vD T (F q i) l):=Mp (by rw [iR,hF]) λk hk=>(yT hF hl k).2 (.inl hk)
 refine ⟨by omega,λhb=>?_,λhb=>?_⟩
 ·have hb:=V7 hb
  have:aY (vD T (F q i) l)≠aY (F q i):=λe=>hb (Cg (by rw [iR,hF]) (λk hk=>(yT hF hl k).2 (.inl hk)) e)
  omega
 ·have hb:=V8 hb
  have:vD T (F q i) l = F q i:=Xa hb
  rw [this,H3]
structure zK (g:af) (ss:List SQ) (F:dY):Prop where
 ln:∀ q i,(q,i)∈fI g ss->(F q i).length = g.T
 sd:∀ q i y t,h_ g ss q i = some y->aN (F q i) t = true->zo g ss q y.prod.toNat y.dot.toNat t
 st:∀ i,h_ g ss 0 i = some ⟨0,0⟩->aN (F 0 i) 0 = true
theorem zK.up (h:zK g ss F) {y:ag} {l:List Bool} (hy:h_ g ss q i = some y) (hl:l.length = g.T) (hs:∀ t,aN l t = true->zo g ss q y.prod.toNat y.dot.toNat t):zK g ss (CQ F q i (vD g.T (F q i) l)):=by
 have hF:=h.ln q i (iY hy)
 refine ⟨λq' i' hm=>?_,λq' i' y' t hy' ht=>?_,λi' hi'=>?_⟩
 ·by_cases e:q' = q/\i' = i
  ·rw [e.1,e.2,gA,iR]
  ·rw [ni e]; exact h.ln q' i' hm
 ·by_cases e:q' = q/\i' = i
  ·obtain ⟨rfl,rfl⟩:=e
   rw [gA] at ht
   rw [hy] at hy'; cases hy'
   rcases (yT hF hl t).1 ht with ht | ht
   ·exact h.sd _ _ _ _ hy ht
   ·exact hs t ht
  ·rw [ni e] at ht; exact h.sd _ _ _ _ hy' ht
 ·by_cases e:0 = q/\i' = i
  ·obtain ⟨rfl,rfl⟩:=e
   rw [gA]
   exact (yT hF hl 0).2 (.inl (h.st _ hi'))
  ·rw [ni e]; exact h.st _ hi'
theorem zK.sum (h:zK g ss F):nh (fI g ss) F<=(fI g ss).length * g.T:=Le λx hx=>by
 have:=fy (F x.1 x.2)
 rw [h.ln x.1 x.2 hx] at this
 exact this
def VO (g:af) (ss:List SQ) (F:dY) (q i:Nat) (y:ag) (s:Int):Prop:=∀ q' i' : Nat,eW ss q s = some (q' : Int)->h_ g ss q' i' = some ⟨y.prod,y.dot + 1⟩->∀ t,aN (F q i) t = true->aN (F q' i') t = true
def VC (g:af) (ss:List SQ) (F:dY) (q:Nat) (s:Int) (l:List Bool) (k:Nat):Prop:=∀ (n:Nat) p' i',n < k->g.prods[n]? = some p'->p'.left = s->h_ g ss q i' = some ⟨(n:Int),0⟩->∀ t,aN l t = true->aN (F q i') t = true
def PT (g:af) (F:dY) (q i:Nat) (r:List Int) (l:List Bool):Prop:=l.length = g.T/\∀ t,aN l t = true↔t < g.T/\(qM g r t\/(De g r/\aN (F q i) t = true))
def Po (g:af) (ss:List SQ) (F:dY) (q i:Nat):Prop:=∀ y,h_ g ss q i = some y->0<=cM g y->VO g ss F q i y (cM g y)/\((g.T:Int)<=cM g y->∀ p,g.prods[y.prod.toNat]? = some p->∀ l,PT g F q i (p.right.drop (y.dot.toNat + 1)) l->VC g ss F q (cM g y) l g.prods.length)
open Classical in
theorem PT.ex (F:dY) (q i:Nat) (r:List Int):∃ l,PT g F q i r l:=by
 refine ⟨wL g.T λt=>decide (t < g.T) && decide (qM g r t\/(De g r/\aN (F q i) t = true)),kT _ _,λt=>?_⟩
 rw [wM λk hk=>by simp; omega]
 simp
theorem TK (hc:ak g) (hA:bm g ss) (hn:ju g nn) (hI:zK g ss F) (hC:∀ q i,(q,i)∈fI g ss->Po g ss F q i) {q m d x:Nat} (h:zo g ss q m d x) (hx:x < g.T):∃ i,h_ g ss q i = some ⟨(m:Int),(d:Int)⟩/\aN (F q i) x = true:=by
 induction h with
 | st =>
  obtain ⟨⟨r,hr,hcl⟩,_⟩:=(zo.st (g:=g) (ss:=ss)).inv hc hA hn
  obtain ⟨i,hi⟩:=xT hr hcl
  exact ⟨i,hi,hI.st i hi⟩
 | sh q m d j x p s hp hs hj h0 ih =>
  obtain ⟨i,hi,ht⟩:=ih hx
  obtain ⟨⟨r,hr,hcl⟩,_⟩:=(zo.sh q m d j x p s hp hs hj h0).inv hc hA hn
  obtain ⟨i',hi'⟩:=xT hr hcl
  have ha:cM g ⟨(m:Int),(d:Int)⟩ = s:=fE hp hs
  have hsy:=hc.sym (V_ hp) (V_ hs)
  have h1:=(hC q i (iY hi) _ hi (by rw [ha]; omega)).1
  rw [ha] at h1
  exact ⟨i',hi',h1 j i' hj (by simpa using hi') x ht⟩
 | fs q m d n x p p' s r hr hcl hp hs hn' hl hf =>
  obtain ⟨i,hi⟩:=xT hr hcl
  obtain ⟨⟨r',hr',hcl'⟩,_⟩:=(zo.fs q m d n x p p' s r hr hcl hp hs hn' hl hf).inv hc hA hn
  obtain ⟨i',hi'⟩:=xT hr' hcl'
  have ha:cM g ⟨(m:Int),(d:Int)⟩ = s:=fE hp hs
  have hT:(g.T:Int)<=s:=by rw [<- hl]; exact hc.left (V_ hn')
  obtain ⟨l,hl2⟩:=PT.ex (g:=g) F q i (p.right.drop (d + 1))
  have h1:=(hC q i (iY hi) _ hi (by rw [ha]; omega)).2 (by rw [ha]; exact hT) p (by show g.prods[(m:Int).toNat]? = _; rw [Ws]; exact hp) l (by simpa using hl2)
  rw [ha] at h1
  exact ⟨i',hi',h1 n p' i' (V9.1 hn').1 hn' hl (by simpa using hi') x ((hl2.2 x).2 ⟨hx,.inl hf⟩)⟩
 | up q m d n x p p' s hp hs hn' hl hnu h0 ih =>
  obtain ⟨i,hi,ht⟩:=ih hx
  obtain ⟨⟨r',hr',hcl'⟩,_⟩:=(zo.up q m d n x p p' s hp hs hn' hl hnu h0).inv hc hA hn
  obtain ⟨i',hi'⟩:=xT hr' hcl'
  have ha:cM g ⟨(m:Int),(d:Int)⟩ = s:=fE hp hs
  have hT:(g.T:Int)<=s:=by rw [<- hl]; exact hc.left (V_ hn')
  obtain ⟨l,hl2⟩:=PT.ex (g:=g) F q i (p.right.drop (d + 1))
  have h1:=(hC q i (iY hi) _ hi (by rw [ha]; omega)).2 (by rw [ha]; exact hT) p (by show g.prods[(m:Int).toNat]? = _; rw [Ws]; exact hp) l (by simpa using hl2)
  rw [ha] at h1
  exact ⟨i',hi',h1 n p' i' (V9.1 hn').1 hn' hl (by simpa using hi') x ((hl2.2 x).2 ⟨hx,.inr ⟨hnu,ht⟩⟩)⟩
end
end Go.V
namespace Go.Proofs.YtndaepmjkbmjmaaGreatDoor
open Go.V
abbrev uT:FuncId:=45
def qT:bn:={ rngs:=[],loops:=[(3,[(6,(.one (.int .i64)))]),(8,[(8,(.one .slice)),(9,(.one (.int .i64)))]),(17,[(11,(.one .bool))]),(20,[(11,(.one .bool)),(12,(.one (.int .i64)))]),(23,[(11,(.one .bool)),(13,(.one (.int .i64)))])],joins:=[],blocks:=[] }
theorem qU {a:Yg} {b c:Nat} {d:Yg} {e f:Nat} {g:Yg} {i j:Nat} {k:Int} {l:Yg} {m n:Nat} {o:Yg} {p q:Nat} {s t:Int} {w:World} {R:Value->WP} (h:new w (oC [vS a b c,vS d e f,vS g i j,iI k,vS l m n] 27) λk1 w1=>new w1 (oC [vS o p q,iI s,iI t] 45) λk2 w2=>∀ w3,drawn w2 w3->∃ (I1:WP),I1 w3/\∃ o1 k3 k4 o2 k5 k6 o3 k7 k8 n1 o4 k9 k10,(∀ w4,I1 w4->V.rowAt w4 (aM k1) 0 5 = some [vS o1 k3 k4,vS o2 k5 k6,vS o3 k7 k8,iI n1,vS o4 k9 k10])/\∃ o5 k11 k12 n2 n3,(∀ w5,I1 w5->V.rowAt w5 (aM k2) 0 3 = some [vS o5 k11 k12,iI n2,iI n3])/\∃ o6 k13 k14 o7 k15 k16 o8 k17 k18 n4 o9 k19 k20,(∀ w6,I1 w6->V.rowAt w6 (aM k1) 0 5 = some [vS o6 k13 k14,vS o7 k15 k16,vS o8 k17 k18,iI n4,vS o9 k19 k20])/\rE 80 [vA (Array.mk [vS o6 k13 k14,vS o7 k15 k16,vS o8 k17 k18,iI n4,vS o9 k19 k20])] w3 λv1 w7=>∃ o10,v1 = vP o10/\I1 w7/\new w7 (oC [vS o1 k3 k4,vS o2 k5 k6,vS o3 k7 k8,iI n1,vS o4 k9 k10,vS o5 k11 k12,iI n2,iI n3,vS none 0 0,vS none 0 0,vP o10] 147) λk21 w8=>I1 w8/\∃ (x1:lP [(6,aD)]),∃ (x2:lN [(6,aD)]),x1 0 w8/\∀ (I2:Nat->Value) (n5:Int) (w9:World),x1 n5 w9->∃ o11 k22 k23,World.cell? w9 (aM k2) = some (vS o11 k22 k23)/\br (decide (n5 < (k22:Int))) (∀ w10,drawn w9 w10->∃ (I3:WP),I3 w10/\∃ o12 k24 k25 o13 k26 k27 o14 k28 k29 n6 o15 k30 k31,(∀ w11,I3 w11->V.rowAt w11 (aM k1) 0 5 = some [vS o12 k24 k25,vS o13 k26 k27,vS o14 k28 k29,iI n6,vS o15 k30 k31])/\∃ o16 k32 k33,(∀ w12,I3 w12->World.cell? w12 (aM k2) = some (vS o16 k32 k33))/\idx o16 k32 n5 2 λa1=>∃ o17 k34 k35,(∀ w13,I3 w13->World.cell? w13 a1 = some (vS o17 k34 k35))/\rE 76 [vA (Array.mk [vS o12 k24 k25,vS o13 k26 k27,vS o14 k28 k29,iI n6,vS o15 k30 k31]),vS o17 k34 k35] w10 λv2 w14=>∃ o18 k36 k37,v2 = vS o18 k36 k37/\I3 w14/\∃ (x3:lP [(8,gD),(9,aD)]),∃ (x4:lN [(8,gD),(9,aD)]),x3 none 0 0 0 w14/\∀ (I4:Nat->Value) (o19:Yg) (k38 k39:Nat) (n7:Int) (w15:World),x3 o19 k38 k39 n7 w15->br (decide (n7 < (k36:Int))) (∃ o20 k40 k41,World.cell? w15 (aM k1) = some (vS o20 k40 k41)/\wi (k40:Int) (k40:Int) 1/\new w15 (Obj.cells (Array.mk (jz (Int.toNat (k40:Int)) [vB false])) 4) λk42 w16=>new w16 (oC [vS (some (aM k42)) (Int.toNat (k40:Int)) (Int.toNat (k40:Int))] 149) λk43 w17=>rS (ir 148 (Array.mk [vS o19 k38 k39,vS (some (aM k43)) 1 1])) w17 λv3 w18=>∃ o21 k44 k45,v3 = vS o21 k44 k45/\ax (n7 + 1)/\x3 o21 k44 k45 (n7 + 1) w18/\x4 o21 k44 k45 (n7 + 1) w18 < x4 o19 k38 k39 n7 w15) (∃ o22 k46 k47,World.cell? w15 (Addr.add (aM k21) 8) = some (vS o22 k46 k47)/\new w15 (oC [vS o18 k36 k37] 51) λk48 w19=>rS (ir 144 (Array.mk [vS o22 k46 k47,vS (some (aM k48)) 1 1])) w19 λv4 w20=>∃ o23 k49 k50,v4 = vS o23 k49 k50/\st1 w20 (Addr.add (aM k21) 8) (vS o23 k49 k50) λw21=>∃ o24 k51 k52,World.cell? w21 (Addr.add (aM k21) 9) = some (vS o24 k51 k52)/\new w21 (oC [vS o19 k38 k39] 148) λk53 w22=>rS (ir 145 (Array.mk [vS o24 k51 k52,vS (some (aM k53)) 1 1])) w22 λv5 w23=>∃ o25 k54 k55,v5 = vS o25 k54 k55/\st1 w23 (Addr.add (aM k21) 9) (vS o25 k54 k55) λw24=>ax (n5 + 1)/\x1 (n5 + 1) w24/\x2 (n5 + 1) w24 < x2 n5 w9)) (∃ o26 k56 k57,World.cell? w9 (aM k1) = some (vS o26 k56 k57)/\wi (k56:Int) (k56:Int) 1/\new w9 (Obj.cells (Array.mk (jz (Int.toNat (k56:Int)) [vB false])) 4) λk58 w25=>idx (some (aM k58)) (Int.toNat (k56:Int)) 0 1 λa2=>st1 w25 a2 (vB true) λw26=>rE 81 [vP (some (aM k21)),iI 0,vA (Array.mk [iI 0,iI 0]),vS (some (aM k58)) (Int.toNat (k56:Int)) (Int.toNat (k56:Int))] w26 λv6 w27=>∃ b1,v6 = vB b1/\∃ (x5:lP [(11,nm)]),∃ (x6:lN [(11,nm)]),x5 true w27/\∀ (I5:Nat->Value) (b2:Bool) (w28:World),x5 b2 w28->br b2 (∃ (x7:lP [(11,nm),(12,aD)]),∃ (x8:lN [(11,nm),(12,aD)]),x7 false 0 w28/\∀ (I6:Nat->Value) (b3:Bool) (n8:Int) (w29:World),x7 b3 n8 w29->∃ o27 k59 k60,World.cell? w29 (Addr.add (aM k21) 8) = some (vS o27 k59 k60)/\br (decide (n8 < (k59:Int))) (∃ (x9:lP [(11,nm),(13,aD)]),∃ (x10:lN [(11,nm),(13,aD)]),x9 b3 0 w29/\∀ (I7:Nat->Value) (b4:Bool) (n9:Int) (w30:World),x9 b4 n9 w30->∃ o28 k61 k62,World.cell? w30 (Addr.add (aM k21) 8) = some (vS o28 k61 k62)/\idx o28 k61 n8 1 λa3=>∃ o29 k63 k64,World.cell? w30 a3 = some (vS o29 k63 k64)/\br (decide (n9 < (k63:Int))) (rE 82 [vP (some (aM k21)),iI n8,iI n9] w30 λv7 w31=>∃ b5,v7 = vB b5/\br b4 (ax (n9 + 1)/\x9 true (n9 + 1) w31/\x10 true (n9 + 1) w31 < x10 b4 n9 w30) (ax (n9 + 1)/\x9 b5 (n9 + 1) w31/\x10 b5 (n9 + 1) w31 < x10 b4 n9 w30)) (ax (n8 + 1)/\x7 b4 (n8 + 1) w30/\x8 b4 (n8 + 1) w30 < x8 b3 n8 w29)) (x5 b3 w29/\x6 b3 w29 < x6 b2 w28)) (R (vP (some (aM k21))) w28))):aA Tryz.prog 45 [(.agg #[(.slice a b c),(.slice d e f),(.slice g i j),(.int .i64 k),(.slice l m n)]),(.agg #[(.slice o p q),(.int .i64 s),(.int .i64 t)])] w R:=rv Tryz.func45 qT (by kernel_rfl) h
abbrev lD:FuncId:=46
def j4:bn:={ rngs:=[],loops:=[(3,[(3,(.one .slice)),(4,(.one (.int .i64)))]),(6,[(3,(.one .slice)),(5,(.one (.int .i64)))])],joins:=[],blocks:=[] }
theorem j5 {a:Yg} {w:World} {R:Value->WP} (h:∃ (x1:lP [(3,gD),(4,aD)]),∃ (x2:lN [(3,gD),(4,aD)]),x1 none 0 0 0 w/\∀ (I1:Nat->Value) (o1:Yg) (k1 k2:Nat) (n1:Int) (w1:World),x1 o1 k1 k2 n1 w1->nn a λa1=>∃ o2 k3 k4,World.cell? w1 (Addr.add a1 8) = some (vS o2 k3 k4)/\br (decide (n1 < (k3:Int))) (∃ (x3:lP [(3,gD),(5,aD)]),∃ (x4:lN [(3,gD),(5,aD)]),x3 o1 k1 k2 0 w1/\∀ (I2:Nat->Value) (o3:Yg) (k5 k6:Nat) (n2:Int) (w2:World),x3 o3 k5 k6 n2 w2->nn a λa2=>∃ o4 k7 k8,World.cell? w2 (Addr.add a2 8) = some (vS o4 k7 k8)/\idx o4 k7 n1 1 λa3=>∃ o5 k9 k10,World.cell? w2 a3 = some (vS o5 k9 k10)/\br (decide (n2 < (k9:Int))) (nn a λa4=>∃ o6 k11 k12,World.cell? w2 (Addr.add a4 8) = some (vS o6 k11 k12)/\idx o6 k11 n1 1 λa5=>∃ o7 k13 k14,World.cell? w2 a5 = some (vS o7 k13 k14)/\idx o7 k13 n2 2 λa6=>∃ n3 n4,V.rowAt w2 a6 0 2 = some [iI n3,iI n4]/\new w2 (oC [iI 0,iI 0] 104) λk15 w3=>fV w3 (aM k15) [iI n3,iI n4] λw4=>∀ w5,drawn w4 w5->∃ (I3:WP),I3 w5/\∃ n5,(∀ w6,I3 w6->World.cell? w6 (aM k15) = some (iI n5))/\br (decide (0 < n5)) (nn a λa7=>∃ o8 k16 k17 o9 k18 k19 o10 k20 k21 n6 o11 k22 k23,(∀ w7,I3 w7->V.rowAt w7 a7 0 5 = some [vS o8 k16 k17,vS o9 k18 k19,vS o10 k20 k21,iI n6,vS o11 k22 k23])/\∃ n7 n8,(∀ w8,I3 w8->V.rowAt w8 (aM k15) 0 2 = some [iI n7,iI n8])/\rE 83 [vA (Array.mk [vS o8 k16 k17,vS o9 k18 k19,vS o10 k20 k21,iI n6,vS o11 k22 k23]),vA (Array.mk [iI n7,iI n8])] w5 λv1 w9=>∃ n9,v1 = iI n9/\I3 w9/\br (decide (n9 < 0)) (∀ w10,drawn w9 w10->∃ (I4:WP),I4 w10/\∃ n10,(∀ w11,I4 w11->World.cell? w11 (aM k15) = some (iI n10))/\nn a λa8=>∃ o12 k24 k25,(∀ w12,I4 w12->World.cell? w12 (Addr.add a8 9) = some (vS o12 k24 k25))/\idx o12 k24 n1 1 λa9=>∃ o13 k26 k27,(∀ w13,I4 w13->World.cell? w13 a9 = some (vS o13 k26 k27))/\idx o13 k26 n2 1 λa10=>∃ o14 k28 k29,(∀ w14,I4 w14->World.cell? w14 a10 = some (vS o14 k28 k29))/\rE 84 [vS o14 k28 k29] w10 λv2 w15=>∃ o15 k30 k31,v2 = vS o15 k30 k31/\I4 w15/\new w15 (oC [iI n1,iI n10,vS o15 k30 k31] 58) λk32 w16=>I4 w16/\rS (ir 48 (Array.mk [vS o3 k5 k6,vS (some (aM k32)) 1 1])) w16 λv3 w17=>∃ o16 k33 k34,v3 = vS o16 k33 k34/\I4 w17/\ax (n2 + 1)/\x3 o16 k33 k34 (n2 + 1) w17/\x4 o16 k33 k34 (n2 + 1) w17 < x4 o3 k5 k6 n2 w2) (ax (n2 + 1)/\x3 o3 k5 k6 (n2 + 1) w9/\x4 o3 k5 k6 (n2 + 1) w9 < x4 o3 k5 k6 n2 w2)) (ax (n2 + 1)/\x3 o3 k5 k6 (n2 + 1) w5/\x4 o3 k5 k6 (n2 + 1) w5 < x4 o3 k5 k6 n2 w2)) (ax (n1 + 1)/\x1 o3 k5 k6 (n1 + 1) w2/\x2 o3 k5 k6 (n1 + 1) w2 < x2 o1 k1 k2 n1 w1)) (R (vS o1 k1 k2) w1)):aA Tryz.prog 46 [(.pointer a)] w R:=rv Tryz.func46 j4 (by kernel_rfl) h
abbrev nj:FuncId:=81
def lE:bn:={ rngs:=[],loops:=[(3,[(9,(.one .bool)),(10,(.one (.int .i64)))]),(8,[(9,(.one .bool)),(12,(.one (.int .i64)))])],joins:=[],blocks:=[] }
theorem lF {a:Yg} {b c d:Int} {e:Yg} {f g:Nat} {w:World} {R:Value->WP} (h:new w (oC [iI c,iI d] 104) λk1 w1=>∃ (x1:lP [(9,nm),(10,aD)]),∃ (x2:lN [(9,nm),(10,aD)]),x1 false 0 w1/\∀ (I1:Nat->Value) (b1:Bool) (n1:Int) (w2:World),x1 b1 n1 w2->nn a λa1=>∃ o1 k2 k3,World.cell? w2 (Addr.add a1 8) = some (vS o1 k2 k3)/\idx o1 k2 b 1 λa2=>∃ o2 k4 k5,World.cell? w2 a2 = some (vS o2 k4 k5)/\br (decide (n1 < (k4:Int))) (∀ w3,drawn w2 w3->∃ (I2:WP),I2 w3/\nn a λa3=>∃ o3 k6 k7,(∀ w4,I2 w4->World.cell? w4 (Addr.add a3 8) = some (vS o3 k6 k7))/\idx o3 k6 b 1 λa4=>∃ o4 k8 k9,(∀ w5,I2 w5->World.cell? w5 a4 = some (vS o4 k8 k9))/\idx o4 k8 n1 2 λa5=>∃ n2 n3,(∀ w6,I2 w6->V.rowAt w6 a5 0 2 = some [iI n2,iI n3])/\∃ n4 n5,(∀ w7,I2 w7->V.rowAt w7 (aM k1) 0 2 = some [iI n4,iI n5])/\∃ v1,(∀ w8,I2 w8->Sem.run Proofs.Tryz.prog (iu BinOp.neq 104 (Operand.tmp 34) (Operand.tmp 35) (vG [iI n2,iI n3]) (vG [iI n4,iI n5])) w8 = Result.ok v1 w8)/\∃ b2,v1 = vB b2/\br b2 (ax (n1 + 1)/\x1 b1 (n1 + 1) w3/\x2 b1 (n1 + 1) w3 < x2 b1 n1 w2) (nn a λa6=>∃ o5 k10 k11,World.cell? w3 (Addr.add a6 9) = some (vS o5 k10 k11)/\idx o5 k10 b 1 λa7=>∃ o6 k12 k13,World.cell? w3 a7 = some (vS o6 k12 k13)/\idx o6 k12 n1 1 λa8=>∃ o7 k14 k15,World.cell? w3 a8 = some (vS o7 k14 k15)/\∃ (x3:lP [(9,nm),(12,aD)]),∃ (x4:lN [(9,nm),(12,aD)]),x3 b1 0 w3/\∀ (I3:Nat->Value) (b3:Bool) (n6:Int) (w9:World),x3 b3 n6 w9->br (decide (n6 < (f:Int))) (idx e f n6 1 λa9=>∃ b4,World.cell? w9 a9 = some (vB b4)/\br b4 (idx o7 k14 n6 1 λa10=>∃ b5,World.cell? w9 a10 = some (vB b5)/\br (!b5) (idx o7 k14 n6 1 λa11=>st1 w9 a11 (vB true) λw10=>ax (n6 + 1)/\x3 true (n6 + 1) w10/\x4 true (n6 + 1) w10 < x4 b3 n6 w9) (ax (n6 + 1)/\x3 b3 (n6 + 1) w9/\x4 b3 (n6 + 1) w9 < x4 b3 n6 w9)) (ax (n6 + 1)/\x3 b3 (n6 + 1) w9/\x4 b3 (n6 + 1) w9 < x4 b3 n6 w9)) (ax (n1 + 1)/\x1 b3 (n1 + 1) w9/\x2 b3 (n1 + 1) w9 < x2 b1 n1 w2))) (R (vB b1) w2)):aA Tryz.prog 81 [(.pointer a),(.int .i64 b),(.agg #[(.int .i64 c),(.int .i64 d)]),(.slice e f g)] w R:=rv Tryz.func81 lE (by kernel_rfl) h
abbrev me:FuncId:=82
def kE:bn:={ rngs:=[],loops:=[(12,[(14,(.one (.int .i64)))]),(16,[(10,(.one .bool)),(15,(.one (.int .i64)))])],joins:=[],blocks:=[] }
theorem kF {a:Yg} {b c:Int} {w:World} {R:Value->WP} (h:nn a λa1=>∃ o1 k1 k2,World.cell? w (Addr.add a1 8) = some (vS o1 k1 k2)/\idx o1 k1 b 1 λa2=>∃ o2 k3 k4,World.cell? w a2 = some (vS o2 k3 k4)/\idx o2 k3 c 2 λa3=>∃ n1 n2,V.rowAt w a3 0 2 = some [iI n1,iI n2]/\new w (oC [iI 0,iI 0] 104) λk5 w1=>fV w1 (aM k5) [iI n1,iI n2] λw2=>nn a λa4=>∃ o3 k6 k7,World.cell? w2 (Addr.add a4 9) = some (vS o3 k6 k7)/\idx o3 k6 b 1 λa5=>∃ o4 k8 k9,World.cell? w2 a5 = some (vS o4 k8 k9)/\idx o4 k8 c 1 λa6=>∃ o5 k10 k11,World.cell? w2 a6 = some (vS o5 k10 k11)/\∀ w3,drawn w2 w3->∃ (I1:WP),I1 w3/\nn a λa7=>∃ o6 k12 k13 o7 k14 k15 o8 k16 k17 n3 o9 k18 k19,(∀ w4,I1 w4->V.rowAt w4 a7 0 5 = some [vS o6 k12 k13,vS o7 k14 k15,vS o8 k16 k17,iI n3,vS o9 k18 k19])/\∃ n4 n5,(∀ w5,I1 w5->V.rowAt w5 (aM k5) 0 2 = some [iI n4,iI n5])/\rE 83 [vA (Array.mk [vS o6 k12 k13,vS o7 k14 k15,vS o8 k16 k17,iI n3,vS o9 k18 k19]),vA (Array.mk [iI n4,iI n5])] w3 λv1 w6=>∃ n6,v1 = iI n6/\I1 w6/\br (decide (n6 < 0)) (R (vB false) w6) (∀ w7,drawn w6 w7->∃ (I2:WP),I2 w7/\nn a λa8=>∃ o10 k20 k21 n7 n8,(∀ w8,I2 w8->V.rowAt w8 (Addr.add a8 5) 0 3 = some [vS o10 k20 k21,iI n7,iI n8])/\∃ n9,(∀ w9,I2 w9->World.cell? w9 (aM k5) = some (iI n9))/\∃ n10,(∀ w10,I2 w10->World.cell? w10 (Addr.add (aM k5) 1) = some (iI n10))/\ax (n10 + 1)/\rE 73 [vA (Array.mk [vS o10 k20 k21,iI n7,iI n8]),iI b,iI n6] w7 λv2 w11=>∃ n11,v2 = iI n11/\I2 w11/\rE 81 [vP a,iI n11,vA (Array.mk [iI n9,iI (n10 + 1)]),vS o5 k10 k11] w11 λv3 w12=>∃ b1,v3 = vB b1/\I2 w12/\nn a λa9=>∃ o11 k22 k23 o12 k24 k25 o13 k26 k27 n12 o14 k28 k29,V.rowAt w12 a9 0 5 = some [vS o11 k22 k23,vS o12 k24 k25,vS o13 k26 k27,iI n12,vS o14 k28 k29]/\rE 134 [vA (Array.mk [vS o11 k22 k23,vS o12 k24 k25,vS o13 k26 k27,iI n12,vS o14 k28 k29]),iI n6] w12 λv4 w13=>∃ b2,v4 = vB b2/\br (!b2) (R (vB b1) w13) (∀ w14,drawn w13 w14->∃ (I3:WP),I3 w14/\nn a λa10=>∃ o15,(∀ w15,I3 w15->World.cell? w15 (Addr.add a10 10) = some (vP o15))/\nn a λa11=>∃ o16 k30 k31,(∀ w16,I3 w16->World.cell? w16 (Addr.add a11 4) = some (vS o16 k30 k31))/\∃ n13,(∀ w17,I3 w17->World.cell? w17 (aM k5) = some (iI n13))/\idx o16 k30 n13 3 λa12=>∃ o17 k32 k33,(∀ w18,I3 w18->World.cell? w18 (Addr.add a12 1) = some (vS o17 k32 k33))/\∃ n14,(∀ w19,I3 w19->World.cell? w19 (Addr.add (aM k5) 1) = some (iI n14))/\ax (n14 + 1)/\uc o17 k32 k33 (some (n14 + 1)) none none 1 λ(o18:Yg) (k34 k35:Nat)=>rE 135 [vP o15,vS o18 k34 k35] w14 λv5 w20=>∃ o19 k36 k37 b3,v5 = vT (Array.mk [vS o19 k36 k37,vB b3])/\I3 w20/\∃ (x1:lP [(14,aD)]),∃ (x2:lN [(14,aD)]),x1 0 w20/\∀ (I4:Nat->Value) (n15:Int) (w21:World),x1 n15 w21->br (decide (n15 < (k10:Int))) (idx o19 k36 n15 1 λa13=>∃ b4,World.cell? w21 a13 = some (vB b4)/\br b4 (idx o19 k36 n15 1 λa14=>st1 w21 a14 (vB true) λw22=>ax (n15 + 1)/\x1 (n15 + 1) w22/\x2 (n15 + 1) w22 < x2 n15 w21) (br b3 (idx o5 k10 n15 1 λa15=>∃ b5,World.cell? w21 a15 = some (vB b5)/\idx o19 k36 n15 1 λa16=>st1 w21 a16 (vB b5) λw23=>ax (n15 + 1)/\x1 (n15 + 1) w23/\x2 (n15 + 1) w23 < x2 n15 w21) (idx o19 k36 n15 1 λa17=>st1 w21 a17 (vB false) λw24=>ax (n15 + 1)/\x1 (n15 + 1) w24/\x2 (n15 + 1) w24 < x2 n15 w21))) (∃ (x3:lP [(10,nm),(15,aD)]),∃ (x4:lN [(10,nm),(15,aD)]),x3 b1 0 w21/\∀ (I5:Nat->Value) (b6:Bool) (n16:Int) (w25:World),x3 b6 n16 w25->nn a λa18=>∃ o20 k38 k39,World.cell? w25 (Addr.add a18 4) = some (vS o20 k38 k39)/\br (decide (n16 < (k38:Int))) (nn a λa19=>∃ o21 k40 k41,World.cell? w25 (Addr.add a19 4) = some (vS o21 k40 k41)/\idx o21 k40 n16 3 λa20=>∃ n17,World.cell? w25 a20 = some (iI n17)/\br (n17 == n6) (rE 81 [vP a,iI b,vA (Array.mk [iI n16,iI 0]),vS o19 k36 k37] w25 λv6 w26=>∃ b7,v6 = vB b7/\br b6 (ax (n16 + 1)/\x3 true (n16 + 1) w26/\x4 true (n16 + 1) w26 < x4 b6 n16 w25) (ax (n16 + 1)/\x3 b7 (n16 + 1) w26/\x4 b7 (n16 + 1) w26 < x4 b6 n16 w25)) (ax (n16 + 1)/\x3 b6 (n16 + 1) w25/\x4 b6 (n16 + 1) w25 < x4 b6 n16 w25)) (R (vB b6) w25))))):aA Tryz.prog 82 [(.pointer a),(.int .i64 b),(.int .i64 c)] w R:=rv Tryz.func82 kE (by kernel_rfl) h
end Go.Proofs.YtndaepmjkbmjmaaGreatDoor
namespace Go.V
open Go.Proofs.YtndaepmjkbmjmaaGreatDoor
structure Pp where
 x:GA
 oA:Yg
 cA:Nat
 ask:Int
 int:Int
 oI:Yg
 cI:Nat
 oT:Yg
 cT:Nat
 bp:Nat
 kh:Nat
 B:Nat->Nat->Nat
def Pp.row (d:Pp) (n:Nat):List Value:=d.x.cells ++ [.slice d.oA n d.cA,.int .i64 d.ask,.int .i64 d.int,.slice d.oI n d.cI,.slice d.oT n d.cT,.pointer (some ⟨d.bp,0,none⟩)]
structure Sg (H:Hp) (g:af) (ns:List Bool) (ss:List SQ) (d:Pp):Prop where
 gr:gR H g d.x
 r:av H (aM d.kh) (d.row ss.length)
 a:xl H ss d.oA
 i:∀ q,q < ss.length->∃ ad a c,d.oI = some ad/\av H (ad.add q) [.slice a (bQ g ss q).length c]/\a_ H (bQ g ss q) a (bQ g ss q).length
 t:∀ q,q < ss.length->∃ ad a c,d.oT = some ad/\av H (ad.add q) [.slice a (bQ g ss q).length c]/\∀ i,i < (bQ g ss q).length->∃ ad2,a = some ad2/\av H (ad2.add i) [.slice (some (aM (d.B q i))) g.T g.T]
 b:∃ k4 o c ps vs,Ju H g d.x d.bp k4 o c ns ps vs/\Jk g (qQ g.T ns) vs/\ps.length = vs.length
theorem Sg.mono {H H' : Hp} {g:af} {ns:List Bool} {ss:List SQ} {d:Pp} (s:sub H H') (h:Sg H g ns ss d):Sg H' g ns ss d:=by
 refine ⟨h.gr.mono s,h.r.mono s,h.a.mono s,λq hq=>?_,λq hq=>?_,?_⟩
 ·obtain ⟨ad,a,c,e,r,t⟩:=h.i q hq
  exact ⟨ad,a,c,e,r.mono s,t.mono s⟩
 ·obtain ⟨ad,a,c,e,r,t⟩:=h.t q hq
  refine ⟨ad,a,c,e,r.mono s,λi hi=>?_⟩
  obtain ⟨ad2,e2,r2⟩:=t i hi
  exact ⟨ad2,e2,r2.mono s⟩
 ·obtain ⟨k4,o,c,ps,vs,t,al,hl⟩:=h.b
  exact ⟨k4,o,c,ps,vs,t.mono s,al,hl⟩
def qb (g:af) (ss:List SQ) (d:Pp) (F:dY):List ay:=(fI g ss).map λp=>aK (d.B p.1 p.2) (bv (F p.1 p.2))
section
variable {w:World} {L:List ay} {g:af} {ss:List SQ} {d:Pp} {F:dY} {q i:Nat} {v:List Bool}
theorem RC {n:Nat} (hn:(fI g ss)[n]? = some (q,i)):(qb g ss d F).set n (aK (d.B q i) (bv v)) = qb g ss d (CQ F q i v):=by
 refine W8 λm=>?_
 unfold qb
 rw [Xf,Wh,Wc,Wc]
 have hlt:=(V9.1 hn).1
 by_cases hm:n = m
 ·subst hm
  rw [Wn rfl,Wn hlt,hn]
  show some (aK (d.B q i) (bv v)) = some (aK (d.B q i) (bv (CQ F q i v q i)))
  rw [gA]
 ·rw [Wg hm]
  cases hp:(fI g ss)[m]? with
  | none=>rfl
  | some p =>
   have hne:¬ (p.1 = q/\p.2 = i):=λe=>hm (by
    have e2:p = (q,i):=by rw [<- e.1,<- e.2]
    rw [e2] at hp
    exact (List.getElem?_inj hlt (FT _)).1 (by rw [hn,hp]))
   show some (aK (d.B p.1 p.2) (bv (F p.1 p.2))) = some (aK (d.B p.1 p.2) (bv (CQ F q i v p.1 p.2)))
   rw [ni hne]
theorem Pq (hm:(q,i)∈fI g ss) (h:St w (aG (qb g ss d F) :: L)):∃ M,St w (aK (d.B q i) (bv (F q i)) :: aG M :: L)/\∀ {w' : World} {L' : List ay} {v:List Bool},St w' (aK (d.B q i) (bv v) :: aG M :: L')->St w' (aG (qb g ss d (CQ F q i v)) :: L'):=by
 obtain ⟨n,hn⟩:=WH hm
 have hA:(qb g ss d F)[n]? = some (aK (d.B q i) (bv (F q i))):=by unfold qb; rw [Wc,hn]; rfl
 refine ⟨_,St.out h hA,λ{w' L' v} h'=>?_⟩
 have:=St.back h' hA
 rwa [RC hn] at this
theorem FU (hm:(q,i)∈fI g ss) (h:St w (aG (qb g ss d F) :: L)):av (hp w) (aM (d.B q i)) (bv (F q i)):=by
 obtain ⟨M,h1,_⟩:=Pq hm h
 exact ai 0 h1.l
end
def FV (g:af) (ss:List SQ) (F:dY) (q:Nat) (y:ag) (l:List Bool) (n:Nat) (F' : dY) (b:Bool):Prop :=
 (∃ i,i < n/\h_ g ss q i = some y/\F' = CQ F q i (vD g.T (F q i) l)/\b = decide (vD g.T (F q i) l≠F q i))\/((∀ i,i < n->h_ g ss q i≠some y)/\F' = F/\b = false)
theorem mw (n:Nat) (bs cs:List Bool) (k:Nat):aN (vD n bs cs) k = (decide (k < n) && (aN bs k || aN cs k)):=by
 unfold vD
 rw [wM λk hk=>by simp; omega]
theorem lG (l:List Bool) (k j:Nat):aN (l.take k) j = (decide (j < k) && aN l j):=by
 unfold aN
 rw [Wb,Wb,Xg]
 by_cases h:j < k <;> simp [h]
theorem or_zero {T:Nat} {bs l:List Bool} (hb:bs.length = T):vD T bs (l.take 0) = bs:=by
 refine gE (by rw [iR,hb]) λk=>?_
 rw [mw,lG]
 by_cases h:k < T
 ·simp [h]
 ·have:aN bs k = false:=by unfold aN; rw [Wb,Wt (by omega)]; rfl
  simp [h,this]
theorem AV {T k:Nat} {bs l:List Bool} {b:Bool} (hk:l[k]? = some b) (h:b = false\/aN (vD T bs (l.take k)) k = true):vD T bs (l.take (k + 1)) = vD T bs (l.take k):=by
 refine gE (by rw [iR,iR]) λj=>?_
 have hl:=jr hk
 rw [mw,mw,lG,lG]
 by_cases hj:j = k
 ·subst hj
  rcases h with h | h
  ·rw [hl,h]; simp
  ·rw [mw,lG] at h
   simp at h
   simp [h]
 ·have:(decide (j < k + 1)) = decide (j < k):=by congr 1; exact propext ⟨λh=>by omega,λh=>by omega⟩
  rw [this]
theorem TL {T k:Nat} {bs l:List Bool} (hb:bs.length = T) (hkT:k < T) (hk:l[k]? = some true):vD T bs (l.take (k + 1)) = (vD T bs (l.take k)).set k true:=by
 refine gE (by rw [WE,iR,iR]) λj=>?_
 have hl:=jr hk
 rw [EY (by rw [iR]; exact hkT),mw,mw,lG,lG]
 by_cases hj:j = k
 ·subst hj
  rw [Wn rfl,hl]; simp [hkT]
 ·rw [Wg hj]
  have:(decide (j < k + 1)) = decide (j < k):=by congr 1; exact propext ⟨λh=>by omega,λh=>by omega⟩
  rw [this]
theorem TM {T k:Nat} {bs l:List Bool} (hb:bs.length = T) (hkT:k < T) (hk:l[k]? = some true) (h:aN (vD T bs (l.take k)) k = false):vD T bs (l.take (k + 1))≠bs:=λe=>by
 have h1:aN (vD T bs (l.take (k + 1))) k = true:=by
  rw [mw,lG,jr hk]; simp [hkT]
 rw [e] at h1
 rw [mw,h1] at h
 simp [hkT] at h
end Go.V
namespace Go.Proofs.YtndaepmjkbmjmaaGreatDoor
open Go.V
variable {w:World} {g:af} {ns:List Bool} {ss:List SQ} {d:Pp} {F:dY} {q:Nat} {y:ag} {H:Hp}
theorem FW {oL:Yg} {cL:Nat} {l:List Bool} (hI:Sg H g ns ss d) (hq:q < ss.length) (hF:∀ i,(q,i)∈fI g ss->(F q i).length = g.T) (hl:l.length = g.T) (hT:g.T<=65) (hcl:(bQ g ss q).length<=4611686018427387904) (h:St w [aG (qb g ss d F),has H])
  (hr:∀ (F' : dY) (u:World) (H' : Hp),sub H H'->(∀ q' i',¬ (q' = q/\h_ g ss q i' = some y)->F' q' i' = F q' i')->St u [aG (qb g ss d F'),has H']->a_ (hp u) l oL g.T) :
  aA Tryz.prog nj [.pointer (some (aM d.kh)),.int .i64 (q:Int),.agg #[.int .i64 y.prod,.int .i64 y.dot],.slice oL g.T cL] w λv w'=>∃ (b:Bool) (F' : dY),v = .bool b/\FV g ss F q y l (bQ g ss q).length F' b/\St w' [aG (qb g ss d F'),has H]:=by
 refine lF (ah h λk1 w1 h=>?_)
 obtain ⟨H1,hl1,hs1,h⟩:=St.freeze (h.pick 3 [1,0,2])
 have rk:av H1 (aM k1) [.int .i64 y.prod,.int .i64 y.dot]:=ai 0 hl1
 have g1:sub H H1:=aU 1 hl1
 clear hl1 hs1
 have hI:=hI.mono g1
 have hr:=λF' u hc hu=>hr F' u H1 g1 hc hu
 obtain ⟨adI,aI,cI,eI,rI,rIt⟩:=hI.i q hq
 obtain ⟨adT,aT,cT,eT,rT,rTt⟩:=hI.t q hq
 obtain ⟨n,hn⟩ : ∃ n,n = (bQ g ss q).length:=⟨_,rfl⟩
 have hit:∀ {j:Nat} {z:ag},(bQ g ss q)[j]? = some z->h_ g ss q j = some z:=λh=>h
 rw [<- hn] at rI rIt rT rTt hcl ⊢
 have hpm:∀ {j:Nat},j < n->(q,j)∈fI g ss:=λh=>iX.2 ⟨hq,by rw [<- hn]; exact h⟩
 refine ⟨λb z w'=>∃ (j:Nat) (F' : dY),z = j/\j<=n/\FV g ss F q y l j F' b/\St w' [aG (qb g ss d F'),has H1],λ_ z _=>n - z.toNat,⟨0,F,rfl,Wi _,.inr ⟨λi hi=>by omega,rfl,rfl⟩,h⟩,?_⟩
 clear h
 rintro _ b _ w2 ⟨j,F1,rfl,hj,hP,h⟩
 have s2:sub H1 (hp w2):=aU 1 h.l
 refine ⟨_,_,_,hI.r.cell s2 (j:=8) rfl,aw eI hq ⟨_,_,_,rI.cell0 s2,ae (λh1=>?_) λh1=>?_⟩⟩
 rotate_left
 ·have h1:j = n:=by have:=V8 h1; omega
  subst h1
  exact ⟨b,F1,rfl,hP,St.qV h (bD g1)⟩
 have h1:j < n:=by have:=V7 h1; omega
 obtain ⟨z,zad,hz,hza,rz⟩:=od rIt h1
 have hzi:=hit hz
 intro w3 hd
 have hM:=h.drawn hd
 have s3:sub H1 (hp w3):=aU 1 hM.l
 refine ⟨λu=>sub H1 (hp u),s3,_,_,_,λu s=>hI.r.cell s (j:=8) rfl,aw eI hq ⟨_,_,_,λu s=>rI.cell0 s,au hza h1 ⟨_,_,λu s=>rz.at s rfl,_,_,λu s=>rk.at s rfl,_,λu _=>Jb u _ _ z y,_,rfl,ae (λh2=>?_) λh2=>?_⟩⟩⟩
 ·have h2:z≠y:=by simpa using h2
  refine ⟨⟨by omega,by omega⟩,⟨j + 1,F1,by simp,h1,?_,hM⟩,bw h1⟩
  rcases hP with ⟨i,hi,e1,e2,e3⟩ | ⟨e1,e2,e3⟩
  ·exact .inl ⟨i,by omega,e1,e2,e3⟩
  ·refine .inr ⟨λi hi he=>?_,e2,e3⟩
   by_cases hij:i = j
   ·subst hij; rw [hzi] at he; exact h2 (Option.some.inj he)
   ·exact e1 i (by omega) he
 have h2:z = y:=by simpa using h2
 subst h2
 obtain ⟨e1,e2,e3⟩ : (∀ i,i < j->h_ g ss q i≠some z)/\F1 = F/\b = false:=by
  rcases hP with ⟨i,hi,e1,_⟩ | e
  ·exact absurd (xU e1 hzi) (by omega)
  ·exact e
 subst e2; subst e3
 obtain ⟨ad2,eT2,rT2⟩:=rTt j h1
 have hmj:=hpm h1
 have hFl:=hF j hmj
 have cond:∀ acc q' i',¬ (q' = q/\h_ g ss q i' = some z)->CQ F1 q j acc q' i' = F1 q' i':=λacc q' i' hne=>ni λe=>hne ⟨e.1,by rw [e.2]; exact hzi⟩
 refine ⟨_,_,_,hI.r.cell s3 (j:=9) rfl,aw eT hq ⟨_,_,_,rT.cell0 s3,aw eT2 h1 ⟨_,_,_,rT2.cell0 s3,?_⟩⟩⟩
 refine ⟨λb z' w'=>∃ k:Nat,z' = k/\k<=g.T/\b = decide (vD g.T (F1 q j) (l.take k)≠F1 q j)/\St w' [aG (qb g ss d (CQ F1 q j (vD g.T (F1 q j) (l.take k)))),has H1],λ_ z _=>g.T - z.toNat,⟨0,rfl,Wi _,by rw [or_zero hFl]; simp,by rw [or_zero hFl,H3]; exact hM⟩,?_⟩
 clear h
 rintro _ _ _ w9 ⟨k,rfl,hk,rfl,h⟩
 refine ae (λh3=>?_) λh3=>?_
 rotate_left
 ·have h3:k = g.T:=by have:=V8 h3; omega
  rw [h3,Wq (by omega)] at h ⊢
  exact ⟨⟨by omega,by omega⟩,⟨j + 1,_,by simp,h1,.inl ⟨j,by omega,hzi,rfl,rfl⟩,h⟩,bw h1⟩
 have h3:k < g.T:=by have:=V7 h3; omega
 obtain ⟨bb,bad,hbb,hba,rb⟩:=(hr _ _ (cond _) h).cE h3
 obtain ⟨M,h4,back⟩:=Pq hmj h
 rw [gA] at h4
 obtain ⟨acc,hacc⟩ : ∃ acc,acc = vD g.T (F1 q j) (l.take k):=⟨_,rfl⟩
 have hal:acc.length = g.T:=by rw [hacc]; exact iR _ _ _
 have ha:acc[k]? = some (aN acc k):=by
  unfold aN
  rw [Wb,Wa (by omega)]; rfl
 have hav:(bv acc)[k]? = some (.bool (aN acc k)):=by unfold bv; rw [Wc,ha]; rfl
 refine aw hba h3 ⟨_,rb _ (sub.refl _),ae (λh5=>?_) λh5=>?_⟩
 rotate_left
 ·refine ⟨⟨by omega,by omega⟩,⟨k + 1,by simp,h3,?_,?_⟩,bw h3⟩
  ·rw [AV hbb (.inl h5)]
  ·rw [AV hbb (.inl h5)]; exact h
 have h5:bb = true:=h5
 subst h5
 rw [<- hacc] at h4
 refine aw rfl h3 ⟨aN acc k,?_,ae (λh6=>?_) λh6=>?_⟩
 ·rw [aL,h4.cell]; exact hav
 ·have h6:aN acc k = false:=by simpa using h6
  refine aw rfl h3 ?_
  rw [aL]
  refine bh h4 (by rw [mH]; omega) λw10 h10=>?_
  rw [AA,hacc,<- TL hFl h3 hbb] at h10
  have h11:=back h10
  refine ⟨⟨by omega,by omega⟩,⟨k + 1,by simp,h3,?_,?_⟩,bw h3⟩
  ·rw [WI (TM hFl h3 hbb (by rw [<- hacc]; exact h6))]
  ·rwa [show CQ (CQ F1 q j (vD g.T (F1 q j) (l.take k))) q j (vD g.T (F1 q j) (l.take (k + 1))) = CQ F1 q j (vD g.T (F1 q j) (l.take (k + 1))) from by
    funext q' i'; unfold CQ; by_cases e:q' = q/\i' = j <;> simp [e]] at h11
 ·have h6:aN acc k = true:=by simpa using h6
  rw [hacc] at h6
  refine ⟨⟨by omega,by omega⟩,⟨k + 1,by simp,h3,?_,?_⟩,bw h3⟩
  ·rw [AV hbb (.inr h6)]
  ·rw [AV hbb (.inr h6)]; exact h
end Go.Proofs.YtndaepmjkbmjmaaGreatDoor
namespace Go.V
open Go.Proofs.YtndaepmjkbmjmaaGreatDoor
section
variable {g:af} {ns:List Bool} {ss:List SQ} {F F' : dY} {q i:Nat} {y:ag} {l:List Bool}
theorem Si (hc:ak g) (hA:bm g ss) (hy:h_ g ss q i = some y):∃ (r:SQ) (m d:Nat) (p:aH),ss[q]? = some r/\nT g r.1.2 y/\y = ⟨(m:Int),(d:Int)⟩/\g.prods[m]? = some p/\d<=p.right.length/\jV g y /\
  (0<=cM g y->p.right[d]? = some (cM g y)/\d < p.right.length/\cM g y < (g.T:Int) + g.N/\∃ q' : Nat,eW ss q (cM g y) = some (q' : Int)/\q' < ss.length):=by
 obtain ⟨hq,_⟩:=AU hy
 have hr:ss[q]? = some ss[q]:=Wa hq
 obtain ⟨_,_,_,hP2,_,_⟩:=hc.ct
 have hKf:xh g ss[q].1.2:=(dg (g:=g) (by omega) q).fit _ (V_ (fl hA hr).1)
 have hcl:=RB hr hy
 have hf:=hcl.fit hKf
 obtain ⟨f0,f1,p,hp,hd⟩:=id hf
 obtain ⟨m,d,rfl⟩ : ∃ m d:Nat,y = ⟨(m:Int),(d:Int)⟩:=⟨y.prod.toNat,y.dot.toNat,by cases y; simp at f0 f1 ⊢; omega⟩
 have hp:g.prods[m]? = some p:=by simpa using hp
 have hd:d<=p.right.length:=by have:(d:Int)<=p.right.length:=hd; omega
 refine ⟨_,m,d,p,hr,hcl,rfl,hp,hd,hf,λh0=>?_⟩
 have ea:cM g ⟨(m:Int),(d:Int)⟩ = p.right.getD d (-1):=by rw [jK (p:=p) (by simpa using hp)]; simp
 have hlt:d < p.right.length:=by
  refine Nat.lt_of_not_le λhle=>?_
  rw [ea,Wb,Wt hle] at h0
  simp at h0
 have es:p.right[d]? = some (cM g ⟨(m:Int),(d:Int)⟩):=by rw [ea,Wb,Wa hlt]; rfl
 have hsy:=hc.sym (V_ hp) (V_ es)
 obtain ⟨n,hn⟩ : ∃ n:Nat,cM g ⟨(m:Int),(d:Int)⟩ = n:=⟨_,(Int.toNat_of_nonneg h0).symm⟩
 have hk:=lx hA hr (n:=n) (by omega)
 rw [WI (List.ne_nil_of_mem (cH.2 ⟨_,hcl,hn,rfl⟩))] at hk
 obtain ⟨j,hj⟩:=XR.1 hk
 obtain ⟨j0,j1⟩:=iL hc hA hj
 refine ⟨es,hlt,by omega,j.toNat,?_,by omega⟩
 rw [hn,hj,Int.toNat_of_nonneg j0]
theorem FV.hv {b:Bool} (h:FV g ss F q y l (bQ g ss q).length F' b) (hV:zK g ss F) (hl:l.length = g.T) (hs:∀ t,aN l t = true->zo g ss q y.prod.toNat y.dot.toNat t):zK g ss F'/\lC (fI g ss) F F' b:=by
 rcases h with ⟨i,_,e1,rfl,rfl⟩ | ⟨_,rfl,rfl⟩
 ·exact ⟨hV.up e1 hl hs,.one (FT _) (iY e1) (hV.ln _ _ (iY e1)) hl⟩
 ·exact ⟨hV,.start⟩
theorem FV.all {b:Bool} (h:FV g ss F q y l (bQ g ss q).length F' b) (hV:zK g ss F) (hl:l.length = g.T) (hb:F' = F) {i' : Nat} (hi:h_ g ss q i' = some y) {t:Nat} (ht:aN l t = true):aN (F q i') t = true:=by
 rcases h with ⟨i,_,e1,e2,_⟩ | ⟨e1,_,_⟩
 ·have:=xU e1 hi
  subst this
  have e3:vD g.T (F q i) l = F q i:=by
   have:=congrFun (congrFun (e2.symm.trans hb) q) i
   rwa [gA] at this
  rw [<- e3]
  exact (yT (hV.ln _ _ (iY e1)) hl t).2 (.inr ht)
 ·exact absurd hi (e1 i' (AU hi).2)
theorem FV.ne {b:Bool} (h:FV g ss F q y l (bQ g ss q).length F' b) {q' i' : Nat} (hne:¬ (q' = q/\h_ g ss q i' = some y)):F' q' i' = F q' i':=by
 rcases h with ⟨i,_,e1,rfl,_⟩ | ⟨_,rfl,_⟩
 ·exact ni λe=>hne ⟨e.1,by rw [e.2]; exact e1⟩
 ·rfl
theorem PT.one {r:List Int} {l l' : List Bool} (h:PT g F q i r l) (h' : PT g F q i r l'):l = l':=gE (h.1.trans h'.1.symm) λt=>by rw [WX,h.2,h'.2]
def PU (bs:List Bool) (b:Bool) (t:List Bool) (k:Nat):List Bool:=wL bs.length λj=>aN bs j || (decide (j < k) && (b && aN t j))
theorem jv {bs t:List Bool} {b:Bool} {k:Nat}:(PU bs b t k).length = bs.length:=kT _ _
theorem Pr {n:Nat} {m:Nat->Bool} {j:Nat} (hj:j < n):aN (wL n m) j = m j:=by
 unfold aN wL
 rw [Wb,Wc,XA hj]; rfl
theorem CI {bs t:List Bool} {b:Bool} {k j:Nat} (hj:j < bs.length):aN (PU bs b t k) j = (aN bs j || (decide (j < k) && (b && aN t j))):=Pr hj
theorem CJ {bs:List Bool} {j:Nat} (hj:bs.length<=j):aN bs j = false:=by
 unfold aN; rw [Wb,Wt hj]; rfl
theorem Ps {bs t:List Bool} {b:Bool}:PU bs b t 0 = bs:=gE jv λj=>by
 by_cases hj:j < bs.length
 ·rw [CI hj]; simp
 ·rw [CJ (by rw [jv]; omega),CJ (by omega)]
theorem Pt {bs t:List Bool} {b:Bool} {k:Nat} (hk:k < bs.length):PU bs b t (k + 1) = (PU bs b t k).set k (aN bs k || (b && aN t k)):=gE (by rw [WE,jv,jv]) λj=>by
 rw [EY (by rw [jv]; exact hk)]
 by_cases hj:j < bs.length
 ·rw [CI hj,CI hj]
  by_cases h:j = k
  ·subst h; simp
  ·rw [Wg h]
   have:(decide (j < k + 1)) = decide (j < k):=by congr 1; exact propext ⟨λh=>by omega,λh=>by omega⟩
   rw [this]
 ·rw [CJ (by rw [jv]; omega),Wg (by omega),CJ (by rw [jv]; omega)]
end
end Go.V
namespace Go.Proofs.YtndaepmjkbmjmaaGreatDoor
open Go.V
variable {w:World} {g:af} {ns:List Bool} {ss:List SQ} {d:Pp} {F:dY} {q i:Nat} {H:Hp}
theorem FA {bs:List Bool} {k:Nat} (hk:k < bs.length):(bv bs)[k]? = some (.bool (aN bs k)):=by
 unfold bv aN
 rw [Wc,Wb,Wa hk]; rfl
theorem Pu (hc:ak g) (hA:bm g ss) (hb:iE g) (hn:ju g ns) (hI:Sg H g ns ss d) (hV:zK g ss F) (hm:(q,i)∈fI g ss) (hcl:∀ q,(bQ g ss q).length<=4611686018427387904) (h:St w [aG (qb g ss d F),has H]) :
  aA Tryz.prog me [.pointer (some (aM d.kh)),.int .i64 (q:Int),.int .i64 (i:Int)] w λv w'=>∃ (b:Bool) (F' : dY),v = .bool b/\zK g ss F'/\lC (fI g ss) F F' b/\(b = false->F' = F/\Po g ss F q i)/\St w' [aG (qb g ss d F'),has H]:=by
 have hq:q < ss.length:=(iX.1 hm).1
 have hi:i < (bQ g ss q).length:=(iX.1 hm).2
 obtain ⟨y,hy⟩ : ∃ y,h_ g ss q i = some y:=⟨_,Wa hi⟩
 obtain ⟨r,m,dt,p,hr,hcm,rfl,hpr,hdp,hfit,haf⟩:=Si hc hA hy
 obtain ⟨sT,sN,sP,sP2,_,_⟩:=hc.ct
 have hkl:=hA.yG hc
 have hke:∀ q∈ss,q.2.2.length<=130:=λq hq=>(hkl q hq).2
 have h256:=hA.dn.2.1
 have hpm:=V_ hpr
 have b7:=hb.2.2.2.2.2.2 p hpm
 have hFl:=hV.ln q i hm
 refine kF ?_
 have s0:sub H (hp w):=aU 1 h.l
 obtain ⟨adI,aI,cI,eI,rI,rIt⟩:=hI.i q hq
 obtain ⟨z,zad,hz,hza,rz⟩:=od rIt hi
 obtain rfl:z = ⟨(m:Int),(dt:Int)⟩:=Option.some.inj (hz.symm.trans hy)
 refine ⟨_,_,_,hI.r.cell s0 (j:=8) rfl,aw eI hq ⟨_,_,_,rI.cell0 s0,au hza hi ⟨_,_,rz.at s0 rfl,ah h λk5 w1 h1=>bx h1 rfl (by simp [aV]) λw2 h2=>?_⟩⟩⟩
 obtain ⟨H1,hl1,hs1,h3⟩:=St.freeze (h2.pick 3 [1,0,2])
 have rk:av H1 (aM k5) [.int .i64 (m:Int),.int .i64 (dt:Int)]:=ai 0 hl1
 have g1:sub H H1:=aU 1 hl1
 clear hl1 hs1 h2 h
 have hI:=hI.mono g1
 obtain ⟨adT,aT,cT,eT,rT,rTt⟩:=hI.t q hq
 obtain ⟨ad2,eT2,rT2⟩:=rTt i hi
 have s2:sub H1 (hp w2):=aU 1 h3.l
 refine ⟨_,_,_,hI.r.cell s2 (j:=9) rfl,aw eT hq ⟨_,_,_,rT.cell0 s2,aw eT2 hi ⟨_,_,_,rT2.cell0 s2,λw3 hd3=>?_⟩⟩⟩
 have h4:=h3.drawn hd3
 have s3:sub H1 (hp w3):=aU 1 h4.l
 have rg:av H1 (aM d.kh) d.x.cells:=av.take (vs:=[.slice d.oA ss.length d.cA,.int .i64 d.ask,.int .i64 d.int,.slice d.oI ss.length d.cI,.slice d.oT ss.length d.cT,.pointer (some ⟨d.bp,0,none⟩)]) hI.r
 have ra:av H1 ((aM d.kh).add 5) [.slice d.oA ss.length d.cA,.int .i64 d.ask,.int .i64 d.int]:=av.take (vs:=[.slice d.oI ss.length d.cI,.slice d.oT ss.length d.cT,.pointer (some ⟨d.bp,0,none⟩)]) (Eg hI.r 5)
 refine ⟨λu=>sub H1 (hp u),s3,_,_,_,_,_,_,_,_,_,_,_,_,_,λu s=>rg.at s rfl,_,_,λu s=>rk.at s rfl,(AF (y:=⟨(m:Int),(dt:Int)⟩) (hI.gr.mono s3) hfit).mono ?_⟩
 rintro _ w6 ⟨rfl,g36⟩
 have h5:=h4.gr g36
 have s6:sub H1 (hp w6):=aU 1 h5.l
 clear h3 h4
 refine ⟨_,rfl,s6,ae (λh1=>?_) λh1=>?_⟩
 ·have h1:cM g ⟨(m:Int),(dt:Int)⟩ < 0:=V7 h1
  refine ⟨false,F,rfl,hV,.start,λ_=>⟨rfl,λy' hy' h0=>?_⟩,St.qV h5 (bD g1)⟩
  rw [hy] at hy'; cases hy'; omega
 have h0:0<=cM g ⟨(m:Int),(dt:Int)⟩:=by have:=V8 h1; omega
 obtain ⟨hs,hdl,hsN,q',hnx,hq'⟩:=haf h0
 obtain ⟨s,es⟩ : ∃ s,s = cM g ⟨(m:Int),(dt:Int)⟩:=⟨_,rfl⟩
 rw [<- es] at hs hsN hnx h0 ⊢
 clear haf h1
 intro w7 hd7
 have h7:=h5.drawn hd7
 have s7:sub H1 (hp w7):=aU 1 h7.l
 clear h5
 refine ⟨λu=>sub H1 (hp u),s7,_,_,_,_,_,λu s=>ra.at s rfl,_,λu s=>rk.cell0 s,_,λu s=>rk.cell s (j:=1) rfl,⟨by omega,by omega⟩,(Oc hA (hI.a.mono s7) hq hke h256).mono ?_⟩
 rintro _ w11 ⟨rfl,g711⟩
 have h11:=h7.gr g711
 have s11:sub H1 (hp w11):=aU 1 h11.l
 clear h7
 have enx:sO ss q s = (q' : Int):=by unfold sO; rw [hnx]; rfl
 rw [enx]
 have hnot:¬ (q = q'/\h_ g ss q' i = some ⟨(m:Int),(dt:Int) + 1⟩):=λhh=>by
  have h2:=hh.2
  rw [<- hh.1,hy] at h2
  have h3:=congrArg ag.dot (Option.some.inj h2)
  have h3:(dt:Int) = (dt:Int) + 1:=h3
  omega
 refine ⟨_,rfl,s11,(FW (F:=F) (q:=q') (y:=⟨(m:Int),(dt:Int) + 1⟩) (l:=F q i) hI hq' (λi' h'=>hV.ln _ _ h') hFl sT (hcl q') h11 (λF' u H' _ hF' hu=>?_)).mono ?_⟩
 ·have e:=hF' q i hnot
  have rr:=FU hm hu
  rw [e] at rr
  exact kS hFl (.inr ⟨_,rfl,rr⟩)
 rintro _ w12 ⟨b1,F1,rfl,hP1,h12⟩
 have s12:sub H1 (hp w12):=aU 1 h12.l
 clear h11
 obtain ⟨hV1,hG1⟩:=hP1.hv hV hFl λt ht=>by
  have:=zo.sh q m dt q' t p s hpr hs hnx (by simpa using hV.sd q i _ t hy ht)
  show zo g ss q' (m:Int).toNat ((dt:Int) + 1).toNat t
  rw [Ws,show ((dt:Int) + 1).toNat = dt + 1 by omega]
  exact this
 have hF1:F1 q i = F q i:=hP1.ne hnot
 have shH:F1 = F->VO g ss F q i ⟨(m:Int),(dt:Int)⟩ s:=λe q2 i2 hq2 hi2 t ht=>by
  rw [hnx] at hq2
  have:q' = q2:=by have:=Option.some.inj hq2; omega
  subst this
  exact hP1.all hV hFl e hi2 ht
 refine ⟨_,rfl,s12,_,_,_,_,_,_,_,_,_,_,_,_,_,rg.at s12 rfl,(Ro (s:=s) (hI.gr.mono s12) hb).mono ?_⟩
 rintro _ w13 ⟨rfl,g1213⟩
 have h13:=h12.gr g1213
 clear h12
 refine ⟨_,rfl,ae (λh2=>?_) λh2=>?_⟩
 ·have hnT:¬ (g.T:Int)<=s:=λhT=>by
   rw [WI hT,WI hsN] at h2
   cases h2
  refine ⟨b1,F1,rfl,hV1,hG1,λhb=>⟨hG1.no hb,λy' hy' _=>?_⟩,St.qV h13 (bD g1)⟩
  rw [hy] at hy'
  cases hy'
  rw [<- es]
  exact ⟨shH (hG1.no hb),λhT=>absurd hT hnT⟩
 have hsT:(g.T:Int)<=s:=by
  refine Int.not_lt.1 λhlt=>?_
  rw [W2 (by omega:¬ (g.T:Int)<=s)] at h2
  cases h2
 intro w14 hd14
 have h14:=h13.drawn hd14
 have s14:sub H1 (hp w14):=aU 1 h14.l
 clear h13 h2
 obtain ⟨k4,o,c,ps,vs,tb,al,hpsl⟩:=hI.b
 obtain ⟨p',pad,pvs,hp1,hpa,hp2,ra',rl,rc,rfl,hrc,hp3⟩:=hI.gr.p.get (i:=m) (by have:=hI.gr.p.1; have:=(V9.1 hpr).1; omega)
 rw [hpr] at hp1; cases hp1
 have rl1:=hp3.1
 have hmlt:=(V9.1 hpr).1
 have hpl:=hI.gr.p.1
 refine ⟨λu=>sub H1 (hp u),s14,_,λu s=>hI.r.cell s (j:=10) rfl,_,_,_,λu s=>rg.cell s (j:=4) rfl,_,λu s=>rk.cell0 s,au hpa (by omega) ⟨_,_,_,λu s=>hp2.cell s (j:=1) rfl,_,λu s=>rk.cell s (j:=1) rfl,⟨by omega,by omega⟩,?_⟩⟩
 show uc ra' rl rc (some ((dt:Int) + 1)) none none 1 _
 rw [show (dt:Int) + 1 = ((dt + 1:Nat):Int) by simp]
 have hSy:Vm g (p.right.drop (dt + 1)):=λz hz=>by have:=hc.sym hpm (Xm hz); omega
 refine dE (by omega) hrc ((Vp (hI.gr.mono s14) (.inr hc) (tb.mono s14) hn al hpsl ((hp3.drop (k:=dt + 1) (m:=rc) (by omega) hrc).mono s14) hSy (by omega)).mono ?_)
 rintro _ w20 ⟨k3,bs,b3,rfl,hBs,hb3,hof⟩
 have h20:=St.qV hof h14.l
 have s20:sub H1 (hp w20):=aU 2 h20.l
 clear hof h14
 have hbl:=hBs.1
 refine ⟨_,_,_,_,rfl,s20,λz w'=>∃ k:Nat,z = k/\k<=g.T/\St w' (aK k3 (bv (PU bs b3 (F q i) k)) :: [aG (qb g ss d F1),has H1]),λz _=>g.T - z.toNat,⟨0,rfl,Wi _,by rw [Ps]; exact h20⟩,?_⟩
 clear h20
 rintro _ _ w21 ⟨k,rfl,hk,h21⟩
 refine ae (λh1=>?_) λh1=>?_
 ·have h1:k < g.T:=by have:=V7 h1; omega
  have hak:aN (PU bs b3 (F q i) k) k = aN bs k:=by rw [CI (by omega)]; simp
  have hget:(bv (PU bs b3 (F q i) k))[k]? = some (.bool (aN bs k)):=by rw [FA (by rw [jv]; omega),hak]
  have put:∀ v:Bool,v = (aN bs k || (b3 && aN (F q i) k))->st1 w21 ((aM k3).add k) (.bool v) λw22=>ax ((k:Int) + 1)/\(∃ k' : Nat,(k:Int) + 1 = k'/\k'<=g.T/\St w22 (aK k3 (bv (PU bs b3 (F q i) k')) :: [aG (qb g ss d F1),has H1]))/\g.T - ((k:Int) + 1).toNat < g.T - (k:Int).toNat:=λv hv=>by
   rw [aL]
   refine bh h21 (by rw [mH,jv]; omega) λw22 h22=>?_
   rw [AA,hv,<- Pt (by omega)] at h22
   exact ⟨⟨by omega,by omega⟩,⟨k + 1,by simp,h1,h22⟩,bw h1⟩
  refine aw rfl h1 ⟨aN bs k,by rw [aL,h21.cell]; exact hget,ae (λh5=>aw rfl h1 (put true (by rw [h5]; rfl))) λh5=>ae (λh6=>?_) λh6=>aw rfl h1 (put false (by rw [h5,h6]; rfl))⟩
  have rr:=FU hm (h21.pick 3 [1,0,2])
  rw [hF1] at rr
  refine aw rfl h1 ⟨aN (F q i) k,rr.cell (sub.refl _) (FA (by omega)),aw rfl h1 (put _ (by rw [h5,h6]; rfl))⟩
 have h1:k = g.T:=by have:=V8 h1; omega
 subst h1
 obtain ⟨l,el⟩ : ∃ l,l = PU bs b3 (F q i) g.T:=⟨_,rfl⟩
 have hll:l.length = g.T:=by rw [el,jv,hbl]
 have hLs:PT g F q i (p.right.drop (dt + 1)) l:=by
  refine ⟨hll,λt=>?_⟩
  by_cases ht:t < g.T
  ·rw [el,CI (by omega),<- hBs.2,<- hb3]
   simp [ht]
  ·rw [CJ (by omega)]; simp [ht]
 rw [<- el] at h21
 obtain ⟨H2,hl2,hs2,h22⟩:=St.freeze (h21.pick 3 [1,0,2])
 have rl3:av H2 (aM k3) (bv l):=ai 0 hl2
 have g2:sub H1 H2:=aU 1 hl2
 clear hl2 hs2 h21
 have hI2:=hI.mono g2
 have rg2:=rg.mono g2
 have lh:∀ (n:Nat) p',g.prods[n]? = some p'->p'.left = s->∀ t,aN l t = true->zo g ss q n 0 t:=λn p' hn' hl' t ht=>by
  rcases ((hLs.2 t).1 ht).2 with h | ⟨h,h'⟩
  ·exact .fs q m dt n t p p' s r hr hcm hpr hs hn' hl' h
  ·exact .up q m dt n t p p' s hpr hs hn' hl' h (by simpa using hV.sd q i _ t hy h')
 refine ⟨λb z w'=>∃ (k:Nat) (F2:dY),z = k/\k<=g.prods.length/\zK g ss F2/\lC (fI g ss) F F2 b/\(b = false->F1 = F/\F2 = F/\VC g ss F q s l k)/\St w' [aG (qb g ss d F2),has H2],λ_ z _=>g.prods.length - z.toNat,⟨0,F1,rfl,Wi _,hV1,hG1,λhb=>⟨hG1.no hb,hG1.no hb,λn p' i' hn'=>by omega⟩,h22⟩,?_⟩
 clear h22
 rintro _ b6 _ w25 ⟨k,F2,rfl,hk,hV2,hG2,hN2,h25⟩
 have s25:sub H2 (hp w25):=aU 1 h25.l
 refine ⟨_,_,_,rg2.cell s25 (j:=4) rfl,ae (λh1=>?_) λh1=>?_⟩
 rotate_left
 ·have h1:k = g.prods.length:=by have:=V8 h1; omega
  subst h1
  refine ⟨b6,F2,rfl,hV2,hG2,λhb=>⟨(hN2 hb).2.1,λy' hy' _=>?_⟩,St.qV h25 (bD (sub.trans g1 g2))⟩
  rw [hy] at hy'
  cases hy'
  rw [<- es]
  refine ⟨shH (hN2 hb).1,λ_ p' hp' l' hl'=>?_⟩
  have hp' : g.prods[m]? = some p':=by simpa using hp'
  rw [hpr] at hp'
  cases hp'
  have e:l' = l:=PT.one (by simpa using hl') hLs
  rw [e]
  exact (hN2 hb).2.2
 have h1:k < g.prods.length:=by have:=V7 h1; omega
 obtain ⟨p2,pad2,pvs2,hq1,hqa,hq2,ra2,rl2,rc2,rfl,hrc2,hq3⟩:=hI2.gr.p.get (i:=k) (by omega)
 refine ⟨_,_,_,rg2.cell s25 (j:=4) rfl,au hqa (by omega) ⟨_,hq2.cell0 s25,ae (λh2=>?_) λh2=>?_⟩⟩
 rotate_left
 ·have h2:p2.left≠s:=by simpa using h2
  refine ⟨⟨by omega,by omega⟩,⟨k + 1,F2,by simp,h1,hV2,hG2,λhb=>⟨(hN2 hb).1,(hN2 hb).2.1,λn p' i' hnk hn' hl' hi' t ht=>?_⟩,h25⟩,bw h1⟩
  by_cases e:n = k
  ·subst e; rw [hq1] at hn'; cases hn'; exact absurd hl' h2
  ·exact (hN2 hb).2.2 n p' i' (by omega) hn' hl' hi' t ht
 have h2:p2.left = s:=by simpa using h2
 refine (FW (F:=F2) (q:=q) (y:=⟨(k:Int),0⟩) (l:=l) hI2 hq (λi' h'=>hV2.ln _ _ h') hll sT (hcl q) h25 (λF' u H' g' _ hu=>kS hll (.inr ⟨_,rfl,rl3.mono (sub.trans g' (aU 1 hu.l))⟩))).mono ?_
 rintro _ w26 ⟨b7',F3,rfl,hP3,h26⟩
 obtain ⟨hV3,hG3⟩:=hP3.hv hV2 hll λt ht=>by simpa using lh k p2 hq1 h2 t ht
 have next:∀ b:Bool,b = (b6 || b7')->ax ((k:Int) + 1)/\(∃ (k' : Nat) (F2:dY),(k:Int) + 1 = k'/\k'<=g.prods.length/\zK g ss F2/\lC (fI g ss) F F2 b/\(b = false->F1 = F/\F2 = F/\VC g ss F q s l k')/\St w26 [aG (qb g ss d F2),has H2])/\g.prods.length - ((k:Int) + 1).toNat < g.prods.length - (k:Int).toNat:=λb hbb=>by
  refine ⟨⟨by omega,by omega⟩,⟨k + 1,F3,by simp,h1,hV3,by rw [hbb]; exact hG2.trans hG3,λhb=>?_,h26⟩,bw h1⟩
  rw [hbb,X8] at hb
  obtain ⟨e1,e2,e3⟩:=hN2 hb.1
  have e4:=hG3.no hb.2
  refine ⟨e1,by rw [e4,e2],λn p' i' hnk hn' hl' hi' t ht=>?_⟩
  by_cases e:n = k
  ·subst e
   have:=hP3.all hV2 hll e4 hi' ht
   rwa [e2] at this
  ·exact e3 n p' i' (by omega) hn' hl' hi' t ht
 exact ⟨_,rfl,ae (λh3=>next true (by rw [h3]; rfl)) λh3=>next b7' (by rw [h3]; rfl)⟩
end Go.Proofs.YtndaepmjkbmjmaaGreatDoor
namespace Go.V
open Go.Proofs.YtndaepmjkbmjmaaGreatDoor
theorem vX:∀ (N:List ay) {M:List ay} {h:Hp},aC (N ++ M) h->∃ h0,aC M h0/\sub h0 h/\aC (N ++ [has h0]) h
 | [],M,h,hs=>⟨h,hs,sub.refl _,bD (sub.refl _)⟩
 | A :: N,M,h,⟨h1,h2,d,s1,s2,ha,hl⟩=>by
  obtain ⟨h0,k1,k2,k3⟩:=vX N hl
  exact ⟨h0,k1,sub.trans k2 s2,h1,h2,d,s1,s2,ha,k3⟩
theorem St.RD {w:World} (N:List ay) {M:List ay} (h:St w (N ++ M)):∃ h0,aC M h0/\St w (N ++ [V.has h0]):=by
 obtain ⟨h0,h1,_,h3⟩:=vX N h
 exact ⟨h0,h1,h3⟩
def ME (g:af) (ss:List SQ) (B:Nat->Nat->Nat) (n:Nat):List ay:=(Dm g ss n).map λp=>aK (B p.1 p.2) (bv (List.replicate g.T false))
structure RE (H:Hp) (g:af) (ss:List SQ) (B:Nat->Nat->Nat) (vI vT:List Value) (n:Nat):Prop where
 lI:vI.length = n
 lT:vT.length = n
 i:∀ q,q < n->∃ a c,vI[q]? = some (.slice a (bQ g ss q).length c)/\a_ H (bQ g ss q) a (bQ g ss q).length
 t:∀ q,q < n->∃ a c,vT[q]? = some (.slice a (bQ g ss q).length c)/\∀ i,i < (bQ g ss q).length->∃ ad2,a = some ad2/\av H (ad2.add i) [.slice (some (aM (B q i))) g.T g.T]
def Sj (B:Nat->Nat->Nat) (n:Nat) (bs:List Nat):Nat->Nat->Nat:=λq i=>if q = n then bs.getD i 0 else B q i
section
variable {g:af} {ss:List SQ} {B:Nat->Nat->Nat} {vI vT:List Value} {n:Nat} {H H' : Hp} {bs:List Nat}
theorem RE.mono (s:sub H H') (h:RE H g ss B vI vT n):RE H' g ss B vI vT n:=by
 refine ⟨h.lI,h.lT,λq hq=>?_,λq hq=>?_⟩
 ·obtain ⟨a,c,e,r⟩:=h.i q hq
  exact ⟨a,c,e,r.mono s⟩
 ·obtain ⟨a,c,e,t⟩:=h.t q hq
  refine ⟨a,c,e,λi hi=>?_⟩
  obtain ⟨ad2,e2,r2⟩:=t i hi
  exact ⟨ad2,e2,r2.mono s⟩
theorem RE.zero:RE H g ss B [] [] 0:=⟨rfl,rfl,λq hq=>by omega,λq hq=>by omega⟩
theorem RE.snoc (h:RE H g ss B vI vT n) {a a2:Yg} {c c2:Nat} (hi:a_ H (bQ g ss n) a (bQ g ss n).length) (ht:∀ i,i < (bQ g ss n).length->∃ ad2,a2 = some ad2/\av H (ad2.add i) [.slice (some (aM (bs.getD i 0))) g.T g.T]) :
  RE H g ss (Sj B n bs) (vI ++ [.slice a (bQ g ss n).length c]) (vT ++ [.slice a2 (bQ g ss n).length c2]) (n + 1):=by
 refine ⟨by simp [h.lI],by simp [h.lT],λq hq=>?_,λq hq=>?_⟩
 ·by_cases e:q = n
  ·subst e
   exact ⟨a,c,by rw [Wm (by rw [h.lI]; omega),h.lI]; simp,hi⟩
  ·obtain ⟨a',c',e1,r⟩:=h.i q (by omega)
   exact ⟨a',c',by rw [Wl (by rw [h.lI]; omega)]; exact e1,r⟩
 ·by_cases e:q = n
  ·subst e
   refine ⟨a2,c2,by rw [Wm (by rw [h.lT]; omega),h.lT]; simp,λi hi=>?_⟩
   have e3:Sj B q bs q i = bs.getD i 0:=Wn rfl
   rw [e3]; exact ht i hi
  ·obtain ⟨a',c',e1,t⟩:=h.t q (by omega)
   refine ⟨a',c',by rw [Wl (by rw [h.lT]; omega)]; exact e1,λi hi=>?_⟩
   have e3:Sj B n bs q i = B q i:=Wg e
   rw [e3]; exact t i hi
theorem Pv (hl:bs.length = (bQ g ss n).length):ME g ss B n ++ bs.map (λb=>aK b (bv (List.replicate g.T false))) = ME g ss (Sj B n bs) (n + 1):=by
 unfold ME
 rw [Es,WB]
 congr 1
 ·refine Xo λp hpm=>?_
  have:=(iX.1 hpm).1
  rw [show Sj B n bs p.1 p.2 = B p.1 p.2 from Wg (by omega)]
 ·unfold Mo
  rw [XK]
  refine List.ext_getElem (by simp [hl]) λi h1 h2=>?_
  simp only [Wh] at h1
  simp only [List.getElem_map,List.getElem_range,Function.comp]
  rw [show Sj B n bs n i = bs.getD i 0 from Wn rfl,Wb,Wa h1]; rfl
theorem row_one {h:Hp} {a:Addr} {vs:List Value} (r:av h a vs) {i:Nat} {v:Value} (hv:vs[i]? = some v):av h (a.add i) [v]:=by
 obtain ⟨hi,e⟩:=V9.1 hv
 have h1:=Eg r i
 rw [WO hi,e] at h1
 exact av.take (us:=[v]) h1
theorem zK.first {F:dY} {l:List Bool} (hl:∀ t,aN l t = true↔t = 0) (hll:l.length = g.T) {b:Bool} (hP:FV g ss (λ_ _=>List.replicate g.T false) 0 ⟨0,0⟩ l (bQ g ss 0).length F b):zK g ss F:=by
 have h0:∀ t,aN (List.replicate g.T false) t = false:=λt=>by
  unfold aN
  rw [Wb,Xr]
  split <;> rfl
 rcases hP with ⟨i,_,e1,rfl,_⟩ | ⟨e1,rfl,_⟩
 ·have hup:∀ t,aN (vD g.T (List.replicate g.T false) l) t = true↔t = 0:=λt=>by
   rw [yT (by simp) hll,h0,hl]; simp
  refine ⟨λq j _=>?_,λq j y t hy ht=>?_,λj hj=>?_⟩
  ·by_cases e:q = 0/\j = i
   ·rw [e.1,e.2,gA,iR]
   ·rw [ni e]; simp
  ·by_cases e:q = 0/\j = i
   ·obtain ⟨rfl,rfl⟩:=e
    rw [gA] at ht
    rw [e1] at hy; cases hy
    rw [(hup t).1 ht]
    exact .st
   ·rw [ni e,h0] at ht; cases ht
  ·have:=xU e1 hj
   subst this
   rw [gA]; exact (hup 0).2 rfl
 ·refine ⟨λq j _=>by simp,λq j y t hy ht=>?_,λj hj=>absurd hj (e1 j (AU hj).2)⟩
  rw [h0] at ht; cases ht
end
end Go.V
