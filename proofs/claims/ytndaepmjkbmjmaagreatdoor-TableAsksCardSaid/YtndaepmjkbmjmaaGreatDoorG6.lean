/- Texts of this claim, one behind the other. -/
import Derived.Test.YtndaepmjkbmjmaaGreatDoorG5
import Derived.Test.YtndaepmjkbmjmaaGreatDoorG4
import Derived.Test.YtndaepmjkbmjmaaGreatDoorG1
import Derived.Test.YtndaepmjkbmjmaaGreatDoorG3
set_option linter.unusedVariables false
set_option linter.unusedSectionVars false
set_option maxRecDepth 100000
set_option maxHeartbeats 16000000
namespace Go.V
end Go.V
namespace Go.Proofs.YtndaepmjkbmjmaaGreatDoor
end Go.Proofs.YtndaepmjkbmjmaaGreatDoor
open Go.V Go.Proofs.YtndaepmjkbmjmaaGreatDoor
namespace Go.V
section
variable {g:af} {nn:List Bool} {ss:List SQ}
theorem RP {v:Nat} {t:au} (ht:(bm g ss)[v]? = some t):(pW g ss).getD v [] = il g ss t:=by
 unfold pW; rw [Ww,Wx,ht]; rfl
theorem Po {n:Nat} {f:Nat->Nat->Bool} {v m:Nat}:m∈En ((List.range n).map λi=>bX n (f i)) v↔v < n/\m < n/\f v m = true:=by
 unfold En
 rw [Ww]
 by_cases hv:v < n
 ·rw [Wx,XV hv]
  simp only [Xw,Option.getD_some,WS]
  constructor
  ·rintro ⟨z,hz,rfl⟩
   obtain ⟨k,rfl,h1,h2⟩:=cK.1 hz
   exact ⟨hv,h1,h2⟩
  ·rintro ⟨_,h1,h2⟩
   exact ⟨(m:Int),cK.2 ⟨m,rfl,h1,h2⟩,rfl⟩
 ·rw [WR (by simp; omega)]
  simp
  omega
theorem Pp {v m:Nat}:m∈En (q8 g nn ss) v↔v < (bm g ss).length/\m < (bm g ss).length/\iR g nn ss v m = true:=Po
theorem Pq {v m:Nat}:m∈En (uP g nn ss) v↔v < (bm g ss).length/\m < (bm g ss).length/\xL g nn ss v m = true:=Po
theorem wv {v:Nat} {t:au} (hc:ak g) (hA:bn g ss) (ht:(bm g ss)[v]? = some t):∃ (i j:Nat) (q r:SQ),t.st = i/\ss[i]? = some q/\(g.T:Int)<=t.sym/\eW ss i t.sym = some (j:Int)/\1<=j/\ss[j]? = some r/\r.1.2 = aF g q.1.2 t.sym:=by
 obtain ⟨i,q,k,e,hi,hq,he,hge,rfl⟩:=iQ (Wu ht)
 obtain ⟨_,_,j,r,hj,hj1,hr,hrk,_⟩:=fm hc hA hq he
 exact ⟨i,j,q,r,rfl,hq,hge,by rw [<- hj]; exact oq hA hq he,hj1,hr,hrk⟩
theorem Pr {i:Nat} {s j:Int} (h:eW ss i s = some j) (hs:(g.T:Int)<=s):∃ v:Nat,(bm g ss)[v]? = some ⟨(i:Int),s⟩:=by
 obtain ⟨q,k,e,hq,he,rfl,_⟩:=pG h
 exact ⟨_,FR hq he hs⟩
theorem Ga (hc:ak g) (hA:bn g ss) {v i j x:Nat} {t:au} (ht:(bm g ss)[v]? = some t) (hi:t.st = i) (hj:eW ss i t.sym = some (j:Int)):(x:Int)∈(pW g ss).getD v []↔(t = ⟨0,g.start⟩/\x = 0)\/(x < g.T/\(eW ss j (x:Int)).isSome):=by
 have hc':=hc.ct
 obtain ⟨i',j',q,r,h1,h2,h3,h4,h5,h6,_⟩:=wv hc hA ht
 have:i' = i:=by omega
 subst this
 rw [hj] at h4
 have:j = j':=by have:=Option.some.inj h4; omega
 subst this
 rw [RP ht,Cv (j:=j) (q:=r) (by rw [hi]; exact hj) h6,Wy,OO hA h6,WS]
 refine or_congr ?_ ?_
 ·unfold kE
  by_cases e:t = ⟨0,g.start⟩
  ·rw [WJ e]; simp [e]
  ·rw [WB e]; simp [e]
 ·constructor
  ·rintro ⟨y,hy,e⟩
   have:y = x:=by have e:(y:Int) = x:=e; omega
   subst this
   obtain ⟨h7,h8⟩:=W9.1 hy
   have h7:=WY.1 h7
   exact ⟨h7,by rw [lz hA h6 (by omega)]; exact h8⟩
  ·rintro ⟨h7,h8⟩
   rw [lz hA h6 (by omega)] at h8
   exact ⟨x,W9.2 ⟨WY.2 h7,h8⟩,rfl⟩
theorem DI.has (hc:ak g) (hA:bn g ss) (hn:jb g nn) {j x:Nat} (h:DI g ss j x):∀ (v i:Nat) t,(bm g ss)[v]? = some t->t.st = i->eW ss i t.sym = some (j:Int)->dx (q8 g nn ss) (pW g ss) v x:=by
 induction h with
 | now j x hx hs=>exact λv i t ht hi hj=>dx.iff.2 (.inl ((Ga hc hA ht hi hj).2 (.inr ⟨hx,hs⟩)))
 | via j k x s hs hnu hk hr ih =>
  intro v i t ht hi hj
  obtain ⟨u,hu⟩:=Pr (g:=g) hk hs
  refine dx.iff.2 (.inr ⟨u,Pp.2 ⟨(Wt.1 ht).1,(Wt.1 hu).1,?_⟩,ih u j _ hu rfl hk⟩)
  unfold iR
  rw [ht,hu]
  simp only [WL,WH]
  rw [hi]
  exact ⟨hj,(xZ hn hs).2 hnu⟩
theorem T4 {v u:Nat} {t:au} (ht:(bm g ss)[v]? = some t) (h:u∈En (q8 g nn ss) v):∃ t',(bm g ss)[u]? = some t'/\eW ss t.st.toNat t.sym = some t'.st/\uO g nn t'.sym = true:=by
 obtain ⟨_,h2,h3⟩:=Pp.1 h
 have hu:(bm g ss)[u]? = some (bm g ss)[u]:=Wv h2
 unfold iR at h3
 rw [ht,hu] at h3
 simp only [WL,WH] at h3
 exact ⟨_,hu,h3⟩
theorem RQ (hc:ak g) (hA:bn g ss) (hn:jb g nn) {v x:Nat} (h:dx (q8 g nn ss) (pW g ss) v x):∀ (i j:Nat) t,(bm g ss)[v]? = some t->t.st = i->eW ss i t.sym = some (j:Int)->(t = ⟨0,g.start⟩/\x = 0)\/DI g ss j x:=by
 refine dx.least (Q:=λv x=>∀ (i j:Nat) t,(bm g ss)[v]? = some t->t.st = i->eW ss i t.sym = some (j:Int)->(t = ⟨0,g.start⟩/\x = 0)\/DI g ss j x) (λv x hx i j t ht hi hj=>?_) (λv u x hu ih i j t ht hi hj=>?_) h
 ·rcases (Ga hc hA ht hi hj).1 hx with h | ⟨h1,h2⟩
  ·exact .inl h
  ·exact .inr (.now j x h1 h2)
 ·obtain ⟨t',ht',h1,h2⟩:=T4 ht hu
  obtain ⟨i2,j2,_,_,e1,_,e3,e4,_⟩:=wv hc hA ht'
  rw [hi,WQ,hj] at h1
  have e5:i2 = j:=by have:=Option.some.inj h1; omega
  subst e5
  rcases ih i2 j2 t' ht' e1 e4 with ⟨rfl,_⟩ | h3
  ·obtain ⟨i',j',_,_,f1,_,_,f4,f5,_⟩:=wv hc hA ht
   have:i' = i:=by omega
   subst this
   rw [hj] at f4
   have:=Option.some.inj f4
   have e1:(0:Int) = i2:=e1
   omega
  ·exact .inr (.via i2 j2 x t'.sym e3 ((xZ hn e3).1 h2) e4 h3)
theorem J7 {v:Nat} (hv:v < (bm g ss).length):(J5 g nn ss).getD v [] = nf (q8 g nn ss) (pW g ss) v:=by
 unfold J5; rw [Ww,xY (by rw [CM]; exact hv)]; rfl
theorem Ps {v:Nat} (hv:v < (bm g ss).length):(Dc g nn ss).getD v [] = nf (uP g nn ss) (J5 g nn ss) v:=by
 unfold Dc; rw [Ww,xY (by rw [CN]; exact hv)]; rfl
theorem Pt {α : Type} {l:List (List α)} {v:Nat} (h:¬ v < l.length):l.getD v [] = []:=by
 rw [Ww,WR (by omega)]; rfl
end
section
variable {g:af} {nn:List Bool} {ss:List SQ} {w w' : YC} {v:Value} {a i f:Int}
theorem U6 (hc:ak g) (hA:bn g ss) {v x:Nat} (h:dx (q8 g nn ss) (pW g ss) v x):x < g.T:=by
 refine dx.least (Q:=λ_ x=>x < g.T) (λv x hx=>?_) (λ_ _ _ _ h=>h) h
 by_cases hv:v < (pW g ss).length
 ·rw [Ww,Wv hv] at hx
  have:=(Lm hc hA (List.getElem_mem hv)).2.2 _ hx
  omega
 ·rw [Pt hv] at hx; simp at hx
theorem Ih {fs:List (List Int)} {b:iS} {z:Int}:z∈(dV g fs b).tm↔∃ x:Nat,z = x/\x < g.T/\∃ t∈b.tr,(x:Int)∈fs.getD t.toNat []:=by
 unfold dV
 rw [cK]
 simp
theorem EF {fs:List (List Int)} {b:iS}:jc (dV g fs b).tm:=oy _ _
theorem Ii {fs:List (List Int)} {b:iS}:(dV g fs b).tm.length<=g.T:=jQ _ _
end
section
variable {n k i j:Nat} {f f0:Nat->List Int} {L:List ay} {A:ay} {w w' w0:YC}
theorem RR {l:List Int} (h:jc l):l.Nodup:=Xi.2 (h.imp λh e=>by omega)
theorem J8 {l:List Int} {B:Nat} (h:jc l) (hb:∀ z∈l,0<=z/\z < B):l.length<=B:=by
 have e:l = bX B λk=>decide ((k:Int)∈l):=by
  refine xK h (oy _ _) λz=>?_
  rw [cK]
  constructor
  ·intro hz
   have:=hb z hz
   exact ⟨z.toNat,by omega,by omega,by rw [WH,show ((z.toNat:Nat):Int) = z by omega]; exact hz⟩
  ·rintro ⟨k,rfl,_,hk⟩
   exact Wr hk
 rw [e]
 exact jQ _ _
end
section
variable {α : Type} {k:α->Int} {l m:List α}
abbrev jT (k:α->Int) (l:List α):Prop:=l.Pairwise λx y=>k x<=k y
theorem fG:jT k (l ++ m)↔jT k l/\jT k m/\∀ x∈l,∀ y∈m,k x<=k y:=Yw
theorem Pu (h:jT k l) {z:α} (hz:l.getLast? = some z):∀ x∈l,k x<=k z:=λx hx=>by
 obtain ⟨i,hi⟩:=W3 hx
 rw [Yt] at hz
 have h1:=(Wt.1 hi).1
 by_cases e:i = l.length - 1
 ·subst e; rw [hi] at hz; cases hz; omega
 ·obtain ⟨h2,rfl⟩:=Wt.1 hi
  obtain ⟨h3,rfl⟩:=Wt.1 hz
  exact List.pairwise_iff_getElem.1 h i _ h2 h3 (by omega)
theorem Pv (h:jT k l) {z:α} (hz:l.head? = some z):∀ x∈l,k z<=k x:=λx hx=>by
 cases l with
 | nil=>cases hx
 | cons a l =>
  cases hz
  rcases WM.1 hx with rfl | hx
  ·omega
  ·exact (Xu.1 h).1 x hx
theorem uq (hl:jT k l) (hm:jT k m) (h:∀ x y,l.getLast? = some x->m.head? = some y->k x<=k y):∀ x∈l,∀ y∈m,k x<=k y:=λx hx y hy=>by
 obtain ⟨a,ha⟩ : ∃ a,l.getLast? = some a:=⟨_,List.getLast?_eq_some_getLast (List.ne_nil_of_mem hx)⟩
 obtain ⟨b,hb⟩ : ∃ b,m.head? = some b:=⟨_,List.head?_eq_some_head (List.ne_nil_of_mem hy)⟩
 have h1:=Pu hl ha x hx
 have h2:=Pv hm hb y hy
 have h3:=h a b ha hb
 omega
theorem J9 {L1 L2 R1 R2 S1 S2:List α} (hL:jT k (L1 ++ L2)) (hR:jT k (R1 ++ R2)) (h1:∀ x y,L1.getLast? = some x->R2.head? = some y->k x<=k y) (h2:∀ x y,R1.getLast? = some x->L2.head? = some y->k x<=k y)
  (p1:S1.Perm (L1 ++ R1)) (s1:jT k S1) (p2:S2.Perm (L2 ++ R2)) (s2:jT k S2):jT k (S1 ++ S2)/\(S1 ++ S2).Perm ((L1 ++ L2) ++ (R1 ++ R2)):=by
 obtain ⟨a1,a2,a3⟩:=fG.1 hL
 obtain ⟨b1,b2,b3⟩:=fG.1 hR
 have c1:=uq a1 b2 h1
 have c2:=uq b1 a2 h2
 refine ⟨fG.2 ⟨s1,s2,λx hx y hy=>?_⟩,?_⟩
 ·rcases Wy.1 (p1.mem_iff.1 hx) with hx | hx <;> rcases Wy.1 (p2.mem_iff.1 hy) with hy | hy
  ·exact a3 x hx y hy
  ·exact c1 x hx y hy
  ·exact c2 x hx y hy
  ·exact b3 x hx y hy
 ·refine (p1.append p2).trans ?_
  rw [WG,WG]
  refine Yd _ ?_
  rw [<- WG,<- WG]
  exact List.Perm.append_right _ List.perm_append_comm
theorem Gb {R1 R2:List α} {x:α} (hR:jT k (R1 ++ R2)) (h1:∀ y,R1.getLast? = some y->k y<=k x) (h2:∀ y,R2.head? = some y->k x<=k y):jT k (R1 ++ x :: R2):=by
 obtain ⟨b1,b2,b3⟩:=fG.1 hR
 refine fG.2 ⟨b1,Xu.2 ⟨λy hy=>?_,b2⟩,λy hy z hz=>?_⟩
 ·exact uq (l:=[x]) (List.pairwise_singleton _ _) b2 (λa b ha hb=>by cases ha; exact h2 b hb) x (by simp) y hy
 ·rcases WM.1 hz with rfl | hz
  ·exact uq b1 (m:=[z]) (List.pairwise_singleton _ _) (λa b ha hb=>by cases hb; exact h1 a ha) y hy z (by simp)
  ·exact b3 y hy z hz
theorem ya {P M Q:List α} {x y:α} {i j:Nat} (hi:i = P.length) (hj:j = P.length + 1 + M.length):((P ++ x :: (M ++ y :: Q)).set i y).set j x = P ++ y :: (M ++ x :: Q):=by
 subst hi hj
 rw [XT _ _ (WO _),Xz,List.set_cons_zero,XT _ _ (by omega),show P.length + 1 + M.length - P.length = M.length + 1 by omega,List.set_cons_succ,XT _ _ (WO _),Xz,List.set_cons_zero]
theorem mw {P Q:List α} {x:α} {i:Nat} (hi:i = P.length):(P ++ x :: Q)[i]? = some x:=by
 subst hi; rw [WK (WO _),Xz]; rfl
end
structure bS where
 kind:Int
 to:Int
deriving DecidableEq
instance:Inhabited bS:=⟨⟨0,0⟩⟩
structure dW where
 st:Int
 tm:Int
deriving DecidableEq
structure fK where
 st:Int
 tm:Int
 acts:List bS
deriving DecidableEq
instance:Inhabited fK:=⟨⟨0,0,[]⟩⟩
section
variable {g:af} {nn:List Bool} {ss ss' : List SQ} {α : Type}
def wE (ss:List SQ) (q t:Nat):List bS:=match eW ss q (t:Int) with
 | some j=>[⟨1,j⟩]
 | none=>[]
def Lt (ss:List SQ) (q t:Nat):List bS:=match ss[q]? with
 | some r=>if t = 0/\(⟨0,1⟩ : ag)∈r.1.2 then [⟨3,0⟩] else []
 | none=>[]
def Gc (ls:List bG) (q t:Nat):List bS:=(ls.filter λl=>decide (l.st = (q:Int)) && decide ((t:Int)∈l.tm)).map λl=>⟨2,l.prod⟩
noncomputable def cP (g:af) (nn:List Bool) (ss:List SQ) (q t:Nat):List bS:=wE ss q t ++ Lt ss q t ++ Gc (bq g nn ss) q t
noncomputable def cellAt (g:af) (nn:List Bool) (ss:List SQ) (least q t:Nat):List fK:=if least<=(cP g nn ss q t).length then [⟨(q:Int),(t:Int),cP g nn ss q t⟩] else []
noncomputable def im (g:af) (nn:List Bool) (ss:List SQ) (least q n:Nat):List fK:=(List.range n).flatMap (cellAt g nn ss least q)
noncomputable def iq (g:af) (nn:List Bool) (ss:List SQ) (least n:Nat):List fK:=(List.range n).flatMap λq=>im g nn ss least q g.T
noncomputable def cE (g:af) (nn:List Bool) (ss:List SQ) (least:Nat):List fK:=iq g nn ss least ss.length
theorem js {least q n:Nat}:im g nn ss least q (n + 1) = im g nn ss least q n ++ cellAt g nn ss least q n:=by unfold im; rw [XD,Xe]; simp
theorem pX {least n:Nat}:iq g nn ss least (n + 1) = iq g nn ss least n ++ im g nn ss least n g.T:=by unfold iq; rw [XD,Xe]; simp
abbrev zu:=List (dW × bS)
def my (g:af) (q:Nat) (es:List aP):zu:=(es.filter λe=>decide (e.sym < (g.T:Int))).map λe=>(⟨(q:Int),e.sym⟩,⟨1,e.to⟩)
def tL (q:Nat) (K:List ag):zu:=if (⟨0,1⟩ : ag)∈K then [(⟨(q:Int),0⟩,⟨3,0⟩)] else []
def yb (g:af) (ss:List SQ) (q:Nat):zu:=match ss[q]? with
 | some r=>my g q r.2.2 ++ tL q r.1.2
 | none=>[]
def lC (g:af) (ss:List SQ) (n:Nat):zu:=(List.range n).flatMap (yb g ss)
def tM (l:bG) (n:Nat):zu:=(l.tm.take n).map λt=>(⟨l.st,t⟩,⟨2,l.prod⟩)
def oH (ls:List bG) (n:Nat):zu:=(ls.take n).flatMap λl=>tM l l.tm.length
theorem CQ {n:Nat}:lC g ss (n + 1) = lC g ss n ++ yb g ss n:=by unfold lC; rw [XD,Xe]; simp
theorem CR {q:Nat} {es:List aP} {e:aP}:my g q (es ++ [e]) = if e.sym < (g.T:Int) then my g q es ++ [(⟨(q:Int),e.sym⟩,⟨1,e.to⟩)] else my g q es:=by
 unfold my
 rw [W5,WZ]
 by_cases h:e.sym < (g.T:Int) <;> simp [h]
theorem J_ {l:bG} {n:Nat} {t:Int} (h:l.tm[n]? = some t):tM l (n + 1) = tM l n ++ [(⟨l.st,t⟩,⟨2,l.prod⟩)]:=by
 unfold tM; rw [Wz,h]; simp
theorem CS {ls:List bG} {n:Nat} {l:bG} (h:ls[n]? = some l):oH ls (n + 1) = oH ls n ++ tM l l.tm.length:=by
 unfold oH; rw [Wz,h,Xe]; simp
def Dd (ps:zu) (p:dW):List bS:=(ps.filter λx=>decide (x.1 = p)).map (·.2)
theorem Ba {ps qs:zu} {p:dW}:Dd (ps ++ qs) p = Dd ps p ++ Dd qs p:=by unfold Dd; rw [W5,WZ]
theorem CT {ps:zu} {p:dW} (h:∀ x∈ps,x.1≠p):Dd ps p = []:=by
 unfold Dd; rw [XQ.2 λx hx=>by simpa using h x hx]; rfl
theorem Ij {β : Type} {l:List β} {f:β->zu} {p:dW}:Dd (l.flatMap f) p = l.flatMap λx=>Dd (f x) p:=by
 induction l with
 | nil=>rfl
 | cons a l ih=>rw [Xc,Xc,Ba,ih]
theorem Ik {f:Nat->List α} {q:Nat} (h:∀ i,i≠q->f i = []):∀ n,q < n->(List.range n).flatMap f = f q
 | 0,hq=>by omega
 | n + 1,hq=>by
  rw [XD,Xe]
  by_cases e:q = n
  ·subst e
   have:(List.range q).flatMap f = []:=List.flatMap_eq_nil_iff.2 λi hi=>h i (by have:=WY.1 hi; omega)
   rw [this]; simp
  ·rw [Ik h n (by omega)]
   simp [h n (X2 e)]
theorem Pw {q:Nat} {r:SQ} {s:Int} (hr:ss[q]? = some r):eW ss q s = (r.2.2.find? λe=>decide (e.sym = s)).map (·.to):=om hr s
theorem EG:∀ {es:List aP} {s:Int},(es.map (·.sym)).Nodup->(es.filter λe=>decide (e.sym = s)) = (es.find? λe=>decide (e.sym = s)).toList
 | [],s,_=>rfl
 | e :: es,s,h=>by
  rw [Xf,Xp] at h
  by_cases he:e.sym = s
  ·rw [X3 (by simpa using he),List.find?_cons_of_pos (by simpa using he)]
   have:(es.filter λe=>decide (e.sym = s)) = []:=XQ.2 λx hx=>by
    simp only [WH]
    intro e2
    exact h.1 (by rw [he,<- e2]; exact List.mem_map_of_mem hx)
   rw [this]; rfl
  ·rw [X4 (by simpa using he),List.find?_cons_of_neg (by simpa using he)]
   exact EG h.2
theorem Wg (hA:bn g ss) {q t:Nat} {r:SQ} (hr:ss[q]? = some r) (ht:t < g.T):Dd (my g q r.2.2) ⟨(q:Int),(t:Int)⟩ = wE ss q t:=by
 unfold wE
 rw [Pw hr]
 have hnd:=Cr hA hr
 unfold Dd my
 rw [List.filter_map,List.filter_filter,X8]
 have e:(r.2.2.filter λe=>(((λx:dW × bS=>decide (x.1 = ⟨(q:Int),(t:Int)⟩)) ∘ λe:aP=>((⟨(q:Int),e.sym⟩ : dW),(⟨1,e.to⟩ : bS))) e) && decide (e.sym < (g.T:Int))) = r.2.2.filter λe=>decide (e.sym = (t:Int)):=by
  refine XF λe _=>?_
  show (decide ((⟨(q:Int),e.sym⟩ : dW) = ⟨(q:Int),(t:Int)⟩) && _) = _
  by_cases h:e.sym = (t:Int)
  ·rw [h,W4 rfl,W4 (by omega),W4 rfl]; rfl
  ·rw [Xm (by simp [h]),Xm h]; rfl
 rw [e,EG hnd]
 cases r.2.2.find? λe=>decide (e.sym = (t:Int)) with
 | none=>rfl
 | some e=>rfl
theorem Wh (hA:bn g ss) {q t:Nat} {r:SQ} (hr:ss[q]? = some r) (ht:t < g.T):Dd (yb g ss q) ⟨(q:Int),(t:Int)⟩ = wE ss q t ++ Lt ss q t:=by
 unfold yb Lt
 rw [hr]
 show Dd (my g q r.2.2 ++ tL q r.1.2) _ = _
 rw [Ba,Wg hA hr ht]
 congr 1
 show _ = if t = 0/\(⟨0,1⟩ : ag)∈r.1.2 then [(⟨3,0⟩ : bS)] else []
 unfold tL
 by_cases h:(⟨0,1⟩ : ag)∈r.1.2
 ·rw [WJ h]
  by_cases h2:t = 0
  ·subst h2; rw [WJ ⟨rfl,h⟩]; simp [Dd]
  ·rw [WB (λhh=>h2 hh.1)]; exact CT λx hx=>by simp at hx; subst hx; simp; omega
 ·rw [WB h,WB (λhh=>h hh.2)]; rfl
theorem Px {q:Nat} {x:dW × bS} (h:x∈yb g ss q):x.1.st = (q:Int):=by
 unfold yb at h
 split at h
 ·rcases Wy.1 h with h | h
  ·unfold my at h
   obtain ⟨e,_,rfl⟩:=WS.1 h
   rfl
  ·unfold tL at h
   split at h
   ·simp at h; subst h; rfl
   ·simp at h
 ·simp at h
theorem Wi (hA:bn g ss) {q t:Nat} (hq:q < ss.length) (ht:t < g.T):Dd (lC g ss ss.length) ⟨(q:Int),(t:Int)⟩ = wE ss q t ++ Lt ss q t:=by
 unfold lC
 rw [Ij,Ik (q:=q) (λi hi=>CT λx hx e=>hi (by have:=Px hx; rw [e] at this; simp at this; omega)) _ hq]
 exact Wh hA (Wv hq) ht
theorem Wj {l:bG} {q t:Nat} (hr:jc l.tm):Dd (tM l l.tm.length) ⟨(q:Int),(t:Int)⟩ = if l.st = (q:Int)/\(t:Int)∈l.tm then [⟨2,l.prod⟩] else []:=by
 unfold Dd tM
 rw [WT,List.filter_map,X8]
 by_cases h:l.st = (q:Int)/\(t:Int)∈l.tm
 ·rw [WJ h]
  have e:(l.tm.filter ((λx:dW × bS=>decide (x.1 = ⟨(q:Int),(t:Int)⟩)) ∘ λt=>((⟨l.st,t⟩ : dW),(⟨2,l.prod⟩ : bS)))) = [(t:Int)]:=by
   have key:∀ {l:List Int},l.Nodup->(t:Int)∈l->(l.filter λx=>decide (x = (t:Int))) = [(t:Int)]:=by
    intro l
    induction l with
    | nil=>intro _ h; cases h
    | cons a l ih =>
     intro hn hm
     obtain ⟨h1,h2⟩:=Xp.1 hn
     by_cases ea:a = (t:Int)
     ·subst ea
      rw [X3 (by simp),XQ.2 λx hx=>by simp; intro e; exact h1 (e ▸ hx)]
     ·rw [X4 (by simpa using ea)]
      exact ih h2 ((WM.1 hm).resolve_left (X2 ea))
   rw [<- key (RR hr) h.2]
   refine XF λx _=>?_
   show decide ((⟨l.st,x⟩ : dW) = ⟨(q:Int),(t:Int)⟩) = _
   rw [h.1]; simp
  rw [e]; rfl
 ·rw [WB h,XQ.2 λx hx=>?_]; rfl
  show ¬ decide ((⟨l.st,x⟩ : dW) = ⟨(q:Int),(t:Int)⟩) = true
  simp only [dW.mk.injEq,WH]
  rintro ⟨h1,h2⟩
  exact h ⟨h1,h2 ▸ hx⟩
theorem Wk {ls:List bG} {q t:Nat} (hr:∀ l∈ls,jc l.tm):Dd (oH ls ls.length) ⟨(q:Int),(t:Int)⟩ = Gc ls q t:=by
 unfold oH Gc
 rw [WT,Ij]
 induction ls with
 | nil=>rfl
 | cons l ls ih =>
  rw [Xc,Wj (hr l (by simp)),ih λl hl=>hr l (by simp [hl])]
  by_cases h:l.st = (q:Int)/\(t:Int)∈l.tm
  ·rw [WJ h,X3 (by simp [h.1,h.2])]; rfl
  ·rw [WB h,X4 (by simpa using h)]; rfl
theorem Il {k:α->Int}:∀ {l m:List α},l.Perm m->(l.Pairwise λx y=>k x < k y)->(m.Pairwise λx y=>k x < k y)->l = m
 | [],m,p,_,_=>(p.symm.eq_nil).symm
 | a :: l,[],p,_,_=>absurd p.eq_nil (by simp)
 | a :: l,b :: m,p,hl,hm=>by
  obtain ⟨h1,h2⟩:=Xu.1 hl
  obtain ⟨h3,h4⟩:=Xu.1 hm
  have e:a = b:=by
   rcases WM.1 (p.mem_iff.1 (List.mem_cons_self)) with h | h
   ·exact h
   ·rcases WM.1 (p.mem_iff.2 (List.mem_cons_self)) with h' | h'
    ·exact h'.symm
    ·have:=h3 a h; have:=h1 b h'; omega
  subst e
  rw [Il ((List.perm_cons a).1 p) h2 h4]
theorem zv (q:Nat):((bq g nn ss).filter λl=>decide (l.st = (q:Int))).Pairwise λx y=>x.prod < y.prod:=by
 have key:∀ n,((AA g ss n).filter λb=>decide (b.st = (q:Int))) = if q < n then dm g ss q g.prods.length else []:=by
  intro n
  induction n with
  | zero=>rw [WB (by omega)]; rfl
  | succ n ih =>
   rw [uo,W5,ih]
   have hst:∀ b∈dm g ss n g.prods.length,b.st = (n:Int):=λb hb=>by obtain ⟨m,_,_,rfl⟩:=oG.1 hb; rfl
   by_cases e:q = n
   ·subst e
    rw [WB (by omega),WJ (by omega),Xd,List.filter_eq_self.2 λb hb=>by simpa using hst b hb]
   ·have:((dm g ss n g.prods.length).filter λb=>decide (b.st = (q:Int))) = []:=XQ.2 λb hb=>by rw [hst b hb]; simp; omega
    rw [this,W2]
    by_cases h:q < n
    ·rw [WJ h,WJ (by omega)]
    ·rw [WB h,WB (by omega)]
 have hk:=key ss.length
 have e:((bq g nn ss).filter λl=>decide (l.st = (q:Int))) = (((pJ g ss).filter λb=>decide (b.st = (q:Int)))).map (dV g (Dc g nn ss)):=by
  unfold bq
  rw [List.filter_map]; rfl
 rw [e,Xn]
 show List.Pairwise _ ((AA g ss ss.length).filter _)
 rw [hk]
 by_cases h:q < ss.length
 ·rw [WJ h]
  have h2:=wu (g:=g) (ss:=ss) q g.prods.length
  unfold jc at h2
  rw [Xn] at h2
  exact h2
 ·rw [WB h]; exact .nil
theorem RS {ls:List bG} (p:ls.Perm (bq g nn ss)) (h:jT (·.prod) ls) (q t:Nat):Gc ls q t = Gc (bq g nn ss) q t:=by
 have e:∀ m:List bG,Gc m q t = ((m.filter λl=>decide (l.st = (q:Int))).filter λl=>decide ((t:Int)∈l.tm)).map λl=>⟨2,l.prod⟩:=λm=>by
  unfold Gc
  rw [List.filter_filter]
  congr 1
  refine XF λl _=>?_
  rw [Bool.and_comm]
 rw [e,e]
 congr 2
 have hp:=p.filter λl=>decide (l.st = (q:Int))
 have hS:=zv (g:=g) (nn:=nn) (ss:=ss) q
 refine Il (k:=(·.prod)) hp ?_ hS
 have h1:(ls.filter λl=>decide (l.st = (q:Int))).Pairwise λx y=>x.prod<=y.prod:=List.Pairwise.filter _ h
 have h2:((ls.filter λl=>decide (l.st = (q:Int))).map (·.prod)).Nodup:=by
  refine (hp.map (·.prod)).nodup_iff.2 ?_
  rw [Xi,Xn]
  exact hS.imp λh e=>by omega
 rw [Xi,Xn] at h2
 exact h1.imp₂ (λ_ _ a b=>by omega) h2
theorem U7 (hA:bn g ss) {ls:List bG} (p:ls.Perm (bq g nn ss)) (h:jT (·.prod) ls) {q t:Nat} (hq:q < ss.length) (ht:t < g.T):Dd (lC g ss ss.length ++ oH ls ls.length) ⟨(q:Int),(t:Int)⟩ = cP g nn ss q t:=by
 rw [Ba,Wi hA hq ht,Wk,RS p h]
 ·rfl
 ·intro l hl
  obtain ⟨b,_,rfl⟩:=WS.1 (p.mem_iff.1 hl)
  exact EF
end
section
variable {g:af} {nn:List Bool} {ss:List SQ} {least:Nat}
theorem CU {q t:Nat} {c:fK}:c∈cellAt g nn ss least q t↔least<=(cP g nn ss q t).length/\c = ⟨(q:Int),(t:Int),cP g nn ss q t⟩:=by
 unfold cellAt
 split
 ·rename_i h; simp [h]
 ·rename_i h; simp [h]
theorem ur {q n:Nat} {c:fK}:c∈im g nn ss least q n↔∃ t,t < n/\least<=(cP g nn ss q t).length/\c = ⟨(q:Int),(t:Int),cP g nn ss q t⟩:=by
 unfold im
 rw [XS]
 exact exists_congr λt=>by rw [WY,CU]
theorem zw {n:Nat} {c:fK}:c∈iq g nn ss least n↔∃ q t,q < n/\t < g.T/\least<=(cP g nn ss q t).length/\c = ⟨(q:Int),(t:Int),cP g nn ss q t⟩:=by
 unfold iq
 rw [XS]
 constructor
 ·rintro ⟨q,hq,h⟩
  obtain ⟨t,h1,h2,h3⟩:=ur.1 h
  exact ⟨q,t,WY.1 hq,h1,h2,h3⟩
 ·rintro ⟨q,t,hq,h1,h2,h3⟩
  exact ⟨q,WY.2 hq,ur.2 ⟨t,h1,h2,h3⟩⟩
def fK.lt (a b:fK):Prop:=a.st < b.st\/a.st = b.st/\a.tm < b.tm
theorem EH {q:Nat}:∀ n,(im g nn ss least q n).Pairwise fK.lt
 | 0=>by simp [im]
 | n + 1=>by
  rw [js,Yw]
  refine ⟨EH n,?_,λa ha b hb=>?_⟩
  ·unfold cellAt; split <;> simp
  ·obtain ⟨t,h1,_,rfl⟩:=ur.1 ha
   obtain ⟨_,rfl⟩:=CU.1 hb
   exact .inr ⟨rfl,by show (t:Int) < n; omega⟩
theorem EI:∀ n,(iq g nn ss least n).Pairwise fK.lt
 | 0=>by simp [iq]
 | n + 1=>by
  rw [pX,Yw]
  refine ⟨EI n,EH _,λa ha b hb=>?_⟩
  obtain ⟨q,t,h1,_,_,rfl⟩:=zw.1 ha
  obtain ⟨t',_,_,rfl⟩:=ur.1 hb
  exact .inl (by show (q:Int) < n; omega)
theorem zx {q n:Nat}:(im g nn ss least q n).length<=n:=by
 induction n with
 | zero=>simp [im]
 | succ n ih =>
  rw [js,WA]
  have:(cellAt g nn ss least q n).length<=1:=by unfold cellAt; split <;> simp
  omega
theorem zy {n:Nat}:(iq g nn ss least n).length<=n * g.T:=by
 induction n with
 | zero=>simp [iq]
 | succ n ih =>
  rw [pX,WA,XU]
  have:=zx (g:=g) (nn:=nn) (ss:=ss) (least:=least) (q:=n) (n:=g.T)
  omega
theorem Py:(cE g nn ss 1).filter (λc=>decide (1 < c.acts.length)) = cE g nn ss 2:=by
 unfold cE iq
 rw [List.filter_flatMap]
 congr 1; funext q
 unfold im
 rw [List.filter_flatMap]
 congr 1; funext t
 unfold cellAt
 by_cases h:2<=(cP g nn ss q t).length
 ·rw [WJ (by omega),WJ h,X3 (by rw [WH]; show 1 < (cP g nn ss q t).length; omega)]; rfl
 ·rw [WB h]
  by_cases h1:1<=(cP g nn ss q t).length
  ·rw [WJ h1,X4 (by rw [WH]; show ¬ 1 < (cP g nn ss q t).length; omega)]; rfl
  ·rw [WB h1]; rfl
theorem Lu (q t:Nat):(wE ss q t).length<=1:=by unfold wE; split <;> simp
theorem Lv (q t:Nat):(Lt ss q t).length<=1:=by unfold Lt; split; split <;> simp; simp
theorem RT {q t:Nat}:(Gc (bq g nn ss) q t).Pairwise λx y=>x.to < y.to:=by
 have e:Gc (bq g nn ss) q t = (((bq g nn ss).filter λl=>decide (l.st = (q:Int))).filter λl=>decide ((t:Int)∈l.tm)).map λl=>⟨2,l.prod⟩:=by
  unfold Gc
  rw [List.filter_filter]
  congr 1
  refine XF λl _=>?_
  rw [Bool.and_comm]
 rw [e,Xn]
 exact List.Pairwise.filter _ (zv q)
theorem yc {l:bG} (h:l∈bq g nn ss):∃ q m:Nat,q < ss.length/\m < g.prods.length/\m≠0/\l = dV g (Dc g nn ss) ⟨(q:Int),(m:Int),bX (bm g ss).length (dw g ss q m)⟩:=by
 obtain ⟨b,hb,rfl⟩:=WS.1 h
 obtain ⟨q,m,hq,hm,rfl,hne⟩:=F_ hb
 refine ⟨q,m,hq,hm,λe=>?_,rfl⟩
 subst e
 obtain ⟨z,hz⟩:=XP _ hne
 obtain ⟨u,_,hu,hb⟩:=cK.1 hz
 have ht:(bm g ss)[u]? = some (bm g ss)[u]:=Wv hu
 obtain ⟨hmm,_⟩:=(jq ht).1 hb
 have:=(iT.1 hmm).1
 omega
theorem RU {q t:Nat}:(Gc (bq g nn ss) q t).length<=g.prods.length:=by
 have h:=RT (g:=g) (nn:=nn) (ss:=ss) (q:=q) (t:=t)
 have h1:jc ((Gc (bq g nn ss) q t).map (·.to)):=by unfold jc; rw [Xn]; exact h
 have h2:=J8 (B:=g.prods.length) h1 λz hz=>by
  obtain ⟨x,hx,rfl⟩:=WS.1 hz
  unfold Gc at hx
  obtain ⟨l,hl,rfl⟩:=WS.1 hx
  obtain ⟨_,m,_,hm,_,rfl⟩:=yc (W9.1 hl).1
  exact ⟨W7 _,by show (m:Int) < _; omega⟩
 rwa [WE] at h2
theorem CV {q t:Nat}:(cP g nn ss q t).length<=g.prods.length + 2:=by
 unfold cP
 have h1:=Lu (ss:=ss) q t
 have h2:=Lv (ss:=ss) q t
 have h3:=RU (g:=g) (nn:=nn) (ss:=ss) (q:=q) (t:=t)
 simp only [WA]
 omega
end
end Go.V
namespace Go.Proofs.YtndaepmjkbmjmaaGreatDoor
abbrev tN:FuncId:=15
def zz:bg:={ rngs:=[],loops:=[],joins:=[],blocks:=[] }
theorem zA {a:YB} {b c:Nat} {d:YB} {e f:Nat} {g:YB} {i j:Nat} {k:Int} {l:YB} {m n:Nat} {w:YC} {R:Value->WP} (h:new w (oC [vS a b c,vS d e f,vS g i j,iI k,vS l m n] 27) λk1 w1=>∃ o1 k2 k3 o2 k4 k5 o3 k6 k7 n1 o4 k8 k9,rA w1 (aM k1) 5 [vS o1 k2 k3,vS o2 k4 k5,vS o3 k6 k7,iI n1,vS o4 k8 k9]/\rE 42 [vG [vS o1 k2 k3,vS o2 k4 k5,vS o3 k6 k7,iI n1,vS o4 k8 k9],iI 1] w1 λv1 w2=>∃ o5 k10 k11 n2,v1 = vU [vS o5 k10 k11,iI n2]/\R (vU [vS o5 k10 k11,iI n2]) w2):aA Tryz.prog 15 [(.agg #[(.slice a b c),(.slice d e f),(.slice g i j),(.int .i64 k),(.slice l m n)])] w R:=rv Tryz.func15 zz (by kernel_rfl) h
abbrev qm:FuncId:=21
def yd:bg:={ rngs:=[],loops:=[],joins:=[],blocks:=[] }
theorem ye {a:YB} {b c:Nat} {d:YB} {e f:Nat} {g:YB} {i j:Nat} {k:Int} {l:YB} {m n:Nat} {w:YC} {R:Value->WP} (h:new w (oC [vS a b c,vS d e f,vS g i j,iI k,vS l m n] 27) λk1 w1=>∃ o1 k2 k3 o2 k4 k5 o3 k6 k7 n1 o4 k8 k9,rA w1 (aM k1) 5 [vS o1 k2 k3,vS o2 k4 k5,vS o3 k6 k7,iI n1,vS o4 k8 k9]/\rE 42 [vG [vS o1 k2 k3,vS o2 k4 k5,vS o3 k6 k7,iI n1,vS o4 k8 k9],iI 2] w1 λv1 w2=>∃ o5 k10 k11 n2,v1 = vU [vS o5 k10 k11,iI n2]/\R (vU [vS o5 k10 k11,iI n2]) w2):aA Tryz.prog 21 [(.agg #[(.slice a b c),(.slice d e f),(.slice g i j),(.int .i64 k),(.slice l m n)])] w R:=rv Tryz.func21 yd (by kernel_rfl) h
abbrev tO:FuncId:=23
def zB:bg:={ rngs:=[],loops:=[],joins:=[],blocks:=[] }
theorem zC {a:YB} {b c:Nat} {d:YB} {e f:Nat} {g:YB} {i j:Nat} {k:Int} {l:YB} {m n:Nat} {o p:Int} {w:YC} {R:Value->WP} (h:new w (oC [vS a b c,vS d e f,vS g i j,iI k,vS l m n] 27) λk1 w1=>∃ o1 k2 k3 o2 k4 k5 o3 k6 k7 n1 o4 k8 k9,rA w1 (aM k1) 5 [vS o1 k2 k3,vS o2 k4 k5,vS o3 k6 k7,iI n1,vS o4 k8 k9]/\rE 48 [vG [vS o1 k2 k3,vS o2 k4 k5,vS o3 k6 k7,iI n1,vS o4 k8 k9]] w1 λv1 w2=>∃ o5 n2 n3,v1 = vU [Value.map o5,iI n2,iI n3]/\br (n3 != 0) (R (vU [vS none 0 0,iI n3]) w2) (br (decide (o < 0)) (R (vU [vS none 0 0,iI 1]) w2) (br (decide (n2<=o)) (R (vU [vS none 0 0,iI 1]) w2) (br (decide (p < 0)) (R (vU [vS none 0 0,iI 1]) w2) (∃ o6 k10 k11,cL w2 (aM k1) (vS o6 k10 k11)/\br (decide ((k10:Int)<=p)) (R (vU [vS none 0 0,iI 1]) w2) (aX Proofs.Tryz.prog (Instr.lookup 91 (Value.map o5) (vG [iI o,iI p]) false) w2 λv2 w3=>∃ o7 k12 k13,v2 = vS o7 k12 k13/\R (vU [vS o7 k12 k13,iI 0]) w3)))))):aA Tryz.prog 23 [(.agg #[(.slice a b c),(.slice d e f),(.slice g i j),(.int .i64 k),(.slice l m n)]),(.int .i64 o),(.int .i64 p)] w R:=rv Tryz.func23 zB (by kernel_rfl) h
abbrev DJ:FuncId:=42
def AF:bg:={ rngs:=[],loops:=[(6,[(9,(.one .slice)),(23,(.one (.int .i64)))]),(9,[(9,(.one .slice)),(29,(.one (.int .i64)))])],joins:=[],blocks:=[] }
theorem AG {a:YB} {b c:Nat} {d:YB} {e f:Nat} {g:YB} {i j:Nat} {k:Int} {l:YB} {m n:Nat} {o:Int} {w:YC} {R:Value->WP} (h:new w (oC [vS a b c,vS d e f,vS g i j,iI k,vS l m n] 27) λk1 w1=>∃ o1 k2 k3 o2 k4 k5 o3 k6 k7 n1 o4 k8 k9,rA w1 (aM k1) 5 [vS o1 k2 k3,vS o2 k4 k5,vS o3 k6 k7,iI n1,vS o4 k8 k9]/\rE 48 [vG [vS o1 k2 k3,vS o2 k4 k5,vS o3 k6 k7,iI n1,vS o4 k8 k9]] w1 λv1 w2=>∃ o5 n2 n3,v1 = vU [Value.map o5,iI n2,iI n3]/\br (n3 != 0) (R (vU [vS none 0 0,iI n3]) w2) (∃ (x1:lP [(9,fX),(23,aD)]),∃ (x2:lN [(9,fX),(23,aD)]),x1 none 0 0 0 w2/\∀ (I1:Nat->Value) (o6:YB) (k10 k11:Nat) (n4:Int) (w3:YC),x1 o6 k10 k11 n4 w3->br (decide (n4 < n2)) (∃ o7 k12 k13,cL w3 (aM k1) (vS o7 k12 k13)/\∃ (x3:lP [(9,fX),(29,aD)]),∃ (x4:lN [(9,fX),(29,aD)]),x3 o6 k10 k11 0 w3/\∀ (I2:Nat->Value) (o8:YB) (k14 k15:Nat) (n5:Int) (w4:YC),x3 o8 k14 k15 n5 w4->br (decide (n5 < (k12:Int))) (aX Proofs.Tryz.prog (Instr.lookup 91 (Value.map o5) (vG [iI n4,iI n5]) false) w4 λv2 w5=>∃ o9 k16 k17,v2 = vS o9 k16 k17/\br (decide (o<=(k16:Int))) (new w5 (oC [iI n4,iI n5,vS o9 k16 k17] 60) λk18 w6=>rS (ir 29 (Array.mk [vS o8 k14 k15,vS (some (aM k18)) 1 1])) w6 λv3 w7=>∃ o10 k19 k20,v3 = vS o10 k19 k20/\ax (n5 + 1)/\x3 o10 k19 k20 (n5 + 1) w7/\x4 o10 k19 k20 (n5 + 1) w7 < x4 o8 k14 k15 n5 w4) (ax (n5 + 1)/\x3 o8 k14 k15 (n5 + 1) w5/\x4 o8 k14 k15 (n5 + 1) w5 < x4 o8 k14 k15 n5 w4)) (ax (n4 + 1)/\x1 o8 k14 k15 (n4 + 1) w4/\x2 o8 k14 k15 (n4 + 1) w4 < x2 o6 k10 k11 n4 w3)) (R (vU [vS o6 k10 k11,iI 0]) w3))):aA Tryz.prog 42 [(.agg #[(.slice a b c),(.slice d e f),(.slice g i j),(.int .i64 k),(.slice l m n)]),(.int .i64 o)] w R:=rv Tryz.func42 AF (by kernel_rfl) h
abbrev CW:FuncId:=48
def zD:bg:={ rngs:=[],loops:=[(9,[(37,(.one (.int .i64)))]),(12,[(45,(.one (.int .i64)))]),(22,[(81,(.one (.int .i64)))]),(25,[(88,(.one (.int .i64)))])],joins:=[],blocks:=[] }
theorem zE {a:YB} {b c:Nat} {d:YB} {e f:Nat} {g:YB} {i j:Nat} {k:Int} {l:YB} {m n:Nat} {w:YC} {R:Value->WP} (h:new w (oC [vS a b c,vS d e f,vS g i j,iI k,vS l m n] 27) λk1 w1=>∃ o1 k2 k3 o2 k4 k5 o3 k6 k7 n1 o4 k8 k9,rA w1 (aM k1) 5 [vS o1 k2 k3,vS o2 k4 k5,vS o3 k6 k7,iI n1,vS o4 k8 k9]/\rE 26 [vG [vS o1 k2 k3,vS o2 k4 k5,vS o3 k6 k7,iI n1,vS o4 k8 k9]] w1 λv1 w2=>∃ o5 k10 k11 n2 n3 n4,v1 = vU [vG [vS o5 k10 k11,iI n2,iI n3],iI n4]/\new w2 (oC [vS none 0 0,iI 0,iI 0] 45) λk12 w3=>fL w3 (aM k12) [vS o5 k10 k11,iI n2,iI n3] λw4=>br (n4 != 0) (R (vU [Value.map none,iI 0,iI n4]) w4) (∃ o6 k13 k14 o7 k15 k16 o8 k17 k18 n5 o9 k19 k20,rA w4 (aM k1) 5 [vS o6 k13 k14,vS o7 k15 k16,vS o8 k17 k18,iI n5,vS o9 k19 k20]/\rE 27 [vG [vS o6 k13 k14,vS o7 k15 k16,vS o8 k17 k18,iI n5,vS o9 k19 k20]] w4 λv2 w5=>∃ o10 k21 k22 n6,v2 = vU [vS o10 k21 k22,iI n6]/\br (n6 != 0) (R (vU [Value.map none,iI 0,iI n6]) w5) (new w5 (Obj.map (Array.mk []) 0) λk23 w6=>∃ o11 k24 k25,cL w6 (aM k12) (vS o11 k24 k25)/\∃ (x1:lP [(37,aD)]),∃ (x2:lN [(37,aD)]),x1 0 w6/\∀ (I1:Nat->Value) (n7:Int) (w7:YC),x1 n7 w7->br (decide (n7 < (k24:Int))) (idx o11 k24 n7 2 λa1=>∃ o12 k26 k27 o13 k28 k29,rA w7 a1 2 [vS o12 k26 k27,vS o13 k28 k29]/\new w7 (oC [vS none 0 0,vS none 0 0] 54) λk30 w8=>fL w8 (aM k30) [vS o12 k26 k27,vS o13 k28 k29] λw9=>∃ o14 k31 k32,cL w9 (Addr.add (aM k30) 1) (vS o14 k31 k32)/\∃ (x3:lP [(45,aD)]),∃ (x4:lN [(45,aD)]),x3 0 w9/\∀ (I2:Nat->Value) (n8:Int) (w10:YC),x3 n8 w10->br (decide (n8 < (k31:Int))) (idx o14 k31 n8 2 λa2=>∃ n9 n10,rA w10 a2 2 [iI n9,iI n10]/\new w10 (oC [iI 0,iI 0] 56) λk33 w11=>fL w11 (aM k33) [iI n9,iI n10] λw12=>∃ n11,cL w12 (aM k33) (iI n11)/\∃ o15 k34 k35,cL w12 (aM k1) (vS o15 k34 k35)/\br (decide (n11 < (k34:Int))) (∃ n12,cL w12 (aM k33) (iI n12)/\∃ n13,cL w12 (Addr.add (aM k33) 1) (iI n13)/\new w12 (oC [iI 1,iI n13] 62) λk36 w13=>rE 85 [Value.map (some k23),vG [iI n7,iI n12],vS (some (aM k36)) 1 1] w13 λv3 w14=>v3 = vU []/\ax (n8 + 1)/\x3 (n8 + 1) w14/\x4 (n8 + 1) w14 < x4 n8 w10) (ax (n8 + 1)/\x3 (n8 + 1) w12/\x4 (n8 + 1) w12 < x4 n8 w10)) (∃ o16 k37 k38,cL w10 (aM k30) (vS o16 k37 k38)/\rE 86 [vS o16 k37 k38,vG [iI 0,iI 1]] w10 λv4 w15=>∃ b1,v4 = vB b1/\br b1 (new w15 (oC [iI 3,iI 0] 62) λk39 w16=>rE 85 [Value.map (some k23),vG [iI n7,iI 0],vS (some (aM k39)) 1 1] w16 λv5 w17=>v5 = vU []/\ax (n7 + 1)/\x1 (n7 + 1) w17/\x2 (n7 + 1) w17 < x2 n7 w7) (ax (n7 + 1)/\x1 (n7 + 1) w15/\x2 (n7 + 1) w15 < x2 n7 w7))) (rE 87 [vS o10 k21 k22,Value.func (Fn.func 88) (Array.mk []) (Array.mk [])] w7 λv6 w18=>v6 = vU []/\∃ (x5:lP [(81,aD)]),∃ (x6:lN [(81,aD)]),x5 0 w18/\∀ (I3:Nat->Value) (n14:Int) (w19:YC),x5 n14 w19->br (decide (n14 < (k21:Int))) (idx o10 k21 n14 3 λa3=>∃ n15 n16 o17 k40 k41,rA w19 a3 3 [iI n15,iI n16,vS o17 k40 k41]/\new w19 (oC [iI 0,iI 0,vS none 0 0] 58) λk42 w20=>fL w20 (aM k42) [iI n15,iI n16,vS o17 k40 k41] λw21=>∃ o18 k43 k44,cL w21 (Addr.add (aM k42) 2) (vS o18 k43 k44)/\∃ (x7:lP [(88,aD)]),∃ (x8:lN [(88,aD)]),x7 0 w21/\∀ (I4:Nat->Value) (n17:Int) (w22:YC),x7 n17 w22->br (decide (n17 < (k43:Int))) (idx o18 k43 n17 1 λa4=>∃ n18,cL w22 a4 (iI n18)/\∃ n19,cL w22 (aM k42) (iI n19)/\∃ n20,cL w22 (Addr.add (aM k42) 1) (iI n20)/\new w22 (oC [iI 2,iI n20] 62) λk45 w23=>rE 85 [Value.map (some k23),vG [iI n19,iI n18],vS (some (aM k45)) 1 1] w23 λv7 w24=>v7 = vU []/\ax (n17 + 1)/\x7 (n17 + 1) w24/\x8 (n17 + 1) w24 < x8 n17 w22) (ax (n14 + 1)/\x5 (n14 + 1) w22/\x6 (n14 + 1) w22 < x6 n14 w19)) (∀ w25,drawn w19 w25->∃ (I5:WP),I5 w25/\∃ o19 k46 k47,(∀ w26,I5 w26->cL w26 (aM k12) (vS o19 k46 k47))/\R (vU [Value.map (some k23),iI (k46:Int),iI 0]) w25))))):aA Tryz.prog 48 [(.agg #[(.slice a b c),(.slice d e f),(.slice g i j),(.int .i64 k),(.slice l m n)])] w R:=rv Tryz.func48 zD (by kernel_rfl) h
abbrev yf:FuncId:=85
def u5:bg:={ rngs:=[],loops:=[],joins:=[],blocks:=[] }
theorem u6 {a:Option Nat} {b c:Int} {d:YB} {e f:Nat} {w:YC} {R:Value->WP} (h:new w (oC [iI b,iI c] 95) λk1 w1=>∃ n1 n2,rA w1 (aM k1) 2 [iI n1,iI n2]/\aX Proofs.Tryz.prog (Instr.mapEntry 91 (Value.map a) (vG [iI n1,iI n2])) w1 λv1 w2=>∃ o1 k2 k3 n3,v1 = vU [vS o1 k2 k3,iI n3]/\rS (ir 38 (Array.mk [vS o1 k2 k3,vS d e f])) w2 λv2 w3=>∃ o2 k4 k5,v2 = vS o2 k4 k5/\aX Proofs.Tryz.prog (Instr.entryStore 91 (Value.map a) (iI n3) (vS o2 k4 k5)) w3 λ(x1:Unit) (w4:YC)=>R (vU []) w4):aA Tryz.prog 85 [(.map a),(.agg #[(.int .i64 b),(.int .i64 c)]),(.slice d e f)] w R:=rv Tryz.func85 u5 (by kernel_rfl) h
abbrev mz:FuncId:=88
def u7:bg:={ rngs:=[],loops:=[],joins:=[],blocks:=[] }
theorem u9 {a b:Int} {c:YB} {d e:Nat} {f g:Int} {i:YB} {j k:Nat} {w:YC} {R:Value->WP} (h:new w (oC [iI a,iI b,vS c d e] 58) λk1 w1=>new w1 (oC [iI f,iI g,vS i j k] 58) λk2 w2=>∃ n1,cL w2 (Addr.add (aM k1) 1) (iI n1)/\∃ n2,cL w2 (Addr.add (aM k2) 1) (iI n2)/\ax (n1 - n2)/\R (iI (n1 - n2)) w2):aA Tryz.prog 88 [(.agg #[(.int .i64 a),(.int .i64 b),(.slice c d e)]),(.agg #[(.int .i64 f),(.int .i64 g),(.slice i j k)])] w R:=rv Tryz.func88 u7 (by kernel_rfl) h
end Go.Proofs.YtndaepmjkbmjmaaGreatDoor
namespace Go.V
instance:kf dW:={ val:=λk=>.agg ⟨[.int .i64 k.st,.int .i64 k.tm]⟩,inj:=λa b h=>by cases a; cases b; simp at h; obtain ⟨h1,h2⟩:=h; subst h1; subst h2; rfl,a:=dW.st,b:=dW.tm,val2:=λ_=>rfl,ext:=λk l h1 h2=>by cases k; cases l; cases h1; cases h2; rfl }
def u_ (x:bS):List Value:=[.int .i64 x.kind,.int .i64 x.to]
def ng (xs:List bS):List Value:=xs.flatMap u_
theorem Gd (xs:List bS):(ng xs).length = xs.length * 2:=mS (f:=u_) (n:=2) (λ_=>rfl) xs
theorem Ge (xs ys:List bS):ng (xs ++ ys) = ng xs ++ ng ys:=Xe
instance:oP bS:={ n:=2,rd:=λ_ x vs=>vs = u_ x,mono:=λ_ h=>h,len:=λh=>by rw [h]; rfl }
def AH (ps:List (dW × Lq bS)) (pt:zu):Prop:=(ps.map Prod.fst).Nodup/\∀ p,gq p ps = Dd pt p
theorem AH.nil:AH [] []:=⟨by simp,λp=>rfl⟩
theorem AH.put {ps:List (dW × Lq bS)} {pt:zu} (h:AH ps pt) {p:dW} {a:bS} {q:Lq bS} (hq:q.2 = gq p ps ++ [a]):AH (j3 p q ps) (pt ++ [(p,a)]):=by
 refine ⟨FF _ h.1,λk=>?_⟩
 rw [jN,Ba]
 by_cases e:k = p
 ·subst e; rw [WJ rfl,hq,h.2]; simp [Dd]
 ·rw [WB e,h.2]
  have:Dd [(p,a)] k = []:=CT λx hx e2=>by simp at hx; subst hx; exact e e2.symm
  rw [this,W2]
end Go.V
namespace Go.Proofs.YtndaepmjkbmjmaaGreatDoor
variable {w:YC} {L:List ay} {g:af} {x:GA}
theorem MI : Ut Tryz.prog sE cZ { name := "state", type := cZ, offset := 0, embedded := false, tag := "", pkgPath := "presage/table", byteOffset := 0 } { name := "term", type := cZ, offset := 1, embedded := false, tag := "", pkgPath := "presage/table", byteOffset := 8 } where
 ht:=by kernel_rfl
 hf:=by kernel_rfl
 hi:=bB
 ht0:=rfl
 ht1:=rfl
 n0:=by decide
 n1:=by decide
 o0:=rfl
 o1:=rfl
 sih:=Am
theorem zF:sD Tryz.prog sE dW:=sD.two MI
theorem Pz {b ka:Nat} {ps:List (dW × Lq bS)} {pt:zu} {q t:Int} {a:bS} (h:St w (aK ka (u_ a) :: mapA b (mV ps) :: aG (mO 2 ng ps) :: L)) (hG:AH ps pt) (hb:pt.length<=100000000) :
  aA Tryz.prog yf [.map (some b),.agg #[.int .i64 q,.int .i64 t],.slice (some (aM ka)) 1 1] w λv w'=>v = .tuple #[]/\∃ ps',AH ps' (pt ++ [(⟨q,t⟩,a)])/\St w' (mapA b (mV ps') :: aG (mO 2 ng ps') :: L):=by
 refine u6 (ah h λk1 w1 h=>⟨_,_,(ai 0 h.l).at (sub.refl _) rfl,?_⟩)
 refine (map_take (κ:=dW) aQ (rfl:aj Ty _ = .map _ _) zF rfl rfl (h.pick 3 [2,0,1]) ⟨q,t⟩).mono ?_
 rintro _ w2 ⟨n,rfl,h⟩
 obtain ⟨e,M,e1,e2,he,back⟩:=mu rfl (h.pick 4 [3,0,1,2]) ⟨q,t⟩
 have hel:e.2.length<=pt.length:=by
  rw [e2,hG.2]
  unfold Dd
  rw [WE]
  exact W6 _ _
 rw [e1] at he ⊢
 refine ⟨_,_,_,_,rfl,?_⟩
 refine (aN (us:=ng e.2) (vs:=u_ a) aQ (rfl:aj Ty _ = .slice _) (rfl:aj Ty _ = .slice _) rfl rfl rfl (he.pick 5 [4,0,1,2,3]) rfl (by simp [aV,u_]) (by show (e.2.length + 1) * 16<=_; omega) (by omega)).mono ?_
 rintro _ w3 ⟨o',c',rfl,h⟩
 refine ⟨_,_,_,rfl,(HV (h.pick 5 [3,0,2]) _).mono ?_⟩
 rintro _ w4 h
 rw [um] at h
 have h:=vK back (e.2 ++ [a]) (by simp) (by rw [Ge]; rfl) h
 exact ⟨rfl,_,hG.put (by show e.2 ++ [a] = _; rw [e2]),h⟩
end Go.Proofs.YtndaepmjkbmjmaaGreatDoor
namespace Go.V
section
variable {α : Type} {f:α->List Value} {sz n c i:Nat} {w:YC} {L:List ay} {o:YB} {xs:List α}
theorem Wl (hf:∀ x,(f x).length = sz) (h0:0 < sz) (h:St w (own sz o n c (xs.flatMap f) :: L)) {x:α} (hx:xs[i]? = some x):∃ ad,o = some ad/\av (hp w) (ad.add (cY i sz)) (f x):=by
 rcases fB 0 h.l with e | ⟨ad,e,hc⟩
 ·have h1:=congrArg List.length e
  rw [mS hf,Xk] at h1
  have h2:=(Wt.1 hx).1
  have:0 < xs.length * sz:=Nat.mul_pos (by omega) h0
  omega
 ·exact ⟨ad,e,bQ hf xs ad hc i x hx⟩
theorem PA (hf:∀ x,(f x).length = sz) {y:α} (hi:i < xs.length):(xs.flatMap f).take (i * sz) ++ f y ++ (xs.flatMap f).drop (i * sz + (f y).length) = (xs.set i y).flatMap f:=by
 have e:xs = xs.take i ++ xs[i] :: xs.drop (i + 1):=by rw [<- W_ hi,WX]
 have l1:((xs.take i).flatMap f).length = i * sz:=by rw [mS hf,WV]; congr 1; omega
 have e1:xs.flatMap f = (xs.take i).flatMap f ++ (f xs[i] ++ (xs.drop (i + 1)).flatMap f):=by
  have:=congrArg (λl=>l.flatMap f) e
  simp only [Xe,Xc] at this
  exact this
 have e2:(xs.set i y).flatMap f = (xs.take i).flatMap f ++ (f y ++ (xs.drop (i + 1)).flatMap f):=by
  rw [List.set_eq_take_append_cons_drop,WJ hi,Xe,Xc]
 rw [e1,e2,<- l1,List.take_left,hf,<- hf xs[i],WG]
 congr 2
 rw [List.drop_append,XG (by omega),Xq,Xd,List.drop_left]
theorem Wm (hf:∀ x,(f x).length = sz) (h0:0 < sz) (h1:∀ x,∀ v∈f x,aV v = true) {ad:Addr} {y:α} {k:YC->Prop} (h:St w (own sz o n c (xs.flatMap f) :: L)) (ha:o = some ad) (hi:i < xs.length) (hk:∀ w',St w' (own sz o n c ((xs.set i y).flatMap f) :: L)->k w'):fL w (ad.add (cY i sz)) (f y) k:=by
 rw [aJ]
 refine xt h ha ?_ (h1 y) (by rw [hf]; exact h0) λw' h=>hk w' ?_
 ·rw [mS hf,hf]
  have:(i + 1) * sz<=xs.length * sz:=X7 _ hi
  rw [XU] at this
  exact this
 ·rw [PA hf hi] at h; exact h
end
end Go.V
namespace Go.Proofs.YtndaepmjkbmjmaaGreatDoor
abbrev dX:FuncId:=87
def dK:bg:={ rngs:=[],loops:=[],joins:=[],blocks:=[] }
theorem dL {a:YB} {b c:Nat} {d:FuncId} {e:List Value} {w:YC} {R:Value->WP} (h:rE 137 [vS a b c,iI (b:Int),Value.func (Fn.func d) (Array.mk []) (Array.mk e)] w λv1 w1=>v1 = vU []/\R (vU []) w1):aA Tryz.prog 87 [(.slice a b c),(.func (.func d) #[] ⟨e⟩)] w R:=rv Tryz.func87 dK (by kernel_rfl) h
abbrev iW:FuncId:=137
def g_:bg:={ rngs:=[],loops:=[(2,[(7,(.one (.int .i64))),(8,(.one (.int .i64)))]),(7,[(6,(.one (.int .i64)))]),(9,[(7,(.one (.int .i64))),(8,(.one (.int .i64)))])],joins:=[],blocks:=[] }
theorem hZ {a:YB} {b c:Nat} {d:Int} {e:FuncId} {f:List Value} {w:YC} {R:Value->WP} (h:∃ (x1:lP [(7,aD),(8,aD)]),∃ (x2:lN [(7,aD),(8,aD)]),x1 0 20 w/\∀ (I1:Nat->Value) (n1 n2:Int) (w1:YC),x1 n1 n2 w1->br (decide (n2<=d)) (rE 181 [vS a b c,iI n1,iI n2,Value.func (Fn.func e) (Array.mk []) (Array.mk f)] w1 λv1 w2=>v1 = vU []/\ax (n2 + 20)/\x1 n2 (n2 + 20) w2/\x2 n2 (n2 + 20) w2 < x2 n1 n2 w1) (rE 181 [vS a b c,iI n1,iI d,Value.func (Fn.func e) (Array.mk []) (Array.mk f)] w1 λv2 w3=>v2 = vU []/\∃ (x3:lP [(6,aD)]),∃ (x4:lN [(6,aD)]),x3 20 w3/\∀ (I2:Nat->Value) (n3:Int) (w4:YC),x3 n3 w4->br (decide (n3 < d)) (ax (2 * n3)/\∃ (x5:lP [(7,aD),(8,aD)]),∃ (x6:lN [(7,aD),(8,aD)]),x5 0 (2 * n3) w4/\∀ (I3:Nat->Value) (n4 n5:Int) (w5:YC),x5 n4 n5 w5->br (decide (n5<=d)) (ax (n4 + n3)/\rE 182 [vS a b c,iI n4,iI (n4 + n3),iI n5,Value.func (Fn.func e) (Array.mk []) (Array.mk f)] w5 λv3 w6=>v3 = vU []/\ax (2 * n3)/\ax (n5 + 2 * n3)/\x5 n5 (n5 + 2 * n3) w6/\x6 n5 (n5 + 2 * n3) w6 < x6 n4 n5 w5) (ax (n4 + n3)/\br (decide (n4 + n3 < d)) (rE 182 [vS a b c,iI n4,iI (n4 + n3),iI d,Value.func (Fn.func e) (Array.mk []) (Array.mk f)] w5 λv4 w7=>v4 = vU []/\ax (n3 * 2)/\x3 (n3 * 2) w7/\x4 (n3 * 2) w7 < x4 n3 w4) (ax (n3 * 2)/\x3 (n3 * 2) w5/\x4 (n3 * 2) w5 < x4 n3 w4))) (R (vU []) w4))):aA Tryz.prog 137 [(.slice a b c),(.int .i64 d),(.func (.func e) #[] ⟨f⟩)] w R:=rv Tryz.func137 g_ (by kernel_rfl) h
abbrev eR:FuncId:=181
def eh:bg:={ rngs:=[],loops:=[(1,[(8,(.one (.int .i64)))]),(4,[(9,(.one (.int .i64)))])],joins:=[],blocks:=[] }
theorem ep {a:YB} {b c:Nat} {d e:Int} {f:FuncId} {g:List Value} {w:YC} {R:Value->WP} (h:ax (d + 1)/\∃ (x1:lP [(8,aD)]),∃ (x2:lN [(8,aD)]),x1 (d + 1) w/\∀ (I1:Nat->Value) (n1:Int) (w1:YC),x1 n1 w1->br (decide (n1 < e)) (∃ (x3:lP [(9,aD)]),∃ (x4:lN [(9,aD)]),x3 n1 w1/\∀ (I2:Nat->Value) (n2:Int) (w2:YC),x3 n2 w2->∀ w3,drawn w2 w3->∃ (I3:WP),I3 w3/\br (decide (d < n2)) (idx a b n2 3 λa1=>∃ n3 n4 o1 k1 k2,(∀ w4,I3 w4->V.rowAt w4 a1 0 3 = some [iI n3,iI n4,vS o1 k1 k2])/\ax (n2 - 1)/\idx a b (n2 - 1) 3 λa2=>∃ n5 n6 o2 k3 k4,(∀ w5,I3 w5->V.rowAt w5 a2 0 3 = some [iI n5,iI n6,vS o2 k3 k4])/\wI (Proofs.YtndaepmjkbmjmaaGreatDoor.Fn f) (rE f (vG [iI n3,iI n4,vS o1 k1 k2] :: vG [iI n5,iI n6,vS o2 k3 k4] :: g) w3 λv1 w6=>∃ n7,v1 = iI n7/\I3 w6/\br (decide (n7 < 0)) (∀ w7,drawn w6 w7->∃ (I4:WP),I4 w7/\ax (n2 - 1)/\ax (n2 - 1)/\idx a b (n2 - 1) 3 λa3=>∃ n8 n9 o3 k5 k6,(∀ w8,I4 w8->V.rowAt w8 a3 0 3 = some [iI n8,iI n9,vS o3 k5 k6])/\idx a b n2 3 λa4=>∃ n10 n11 o4 k7 k8,(∀ w9,I4 w9->V.rowAt w9 a4 0 3 = some [iI n10,iI n11,vS o4 k7 k8])/\idx a b n2 3 λa5=>fL w7 a5 [iI n8,iI n9,vS o3 k5 k6] λw10=>idx a b (n2 - 1) 3 λa6=>fL w10 a6 [iI n10,iI n11,vS o4 k7 k8] λw11=>ax (n2 - 1)/\x3 (n2 - 1) w11/\x4 (n2 - 1) w11 < x4 n2 w2) (ax (n1 + 1)/\x1 (n1 + 1) w6/\x2 (n1 + 1) w6 < x2 n1 w1))) (ax (n1 + 1)/\x1 (n1 + 1) w3/\x2 (n1 + 1) w3 < x2 n1 w1)) (R (vU []) w1)):aA Tryz.prog 181 [(.slice a b c),(.int .i64 d),(.int .i64 e),(.func (.func f) #[] ⟨g⟩)] w R:=rv Tryz.func181 eh (by kernel_rfl) h
abbrev aR:FuncId:=182
def fV:bg:={ rngs:=[],loops:=[(3,[(10,(.one (.int .i64))),(11,(.one (.int .i64)))]),(9,[(13,(.one (.int .i64)))]),(15,[(14,(.one (.int .i64))),(15,(.one (.int .i64)))]),(21,[(17,(.one (.int .i64)))]),(33,[(20,(.one (.int .i64))),(21,(.one (.int .i64)))])],joins:=[(32,[(20,(.one (.int .i64))),(21,(.one (.int .i64)))]),(41,[])],blocks:=[] }
theorem fW {a:YB} {b c:Nat} {d e f:Int} {g:FuncId} {i:List Value} {w:YC} {R:Value->WP} (h:ax (e - d)/\br (e - d == 1) (∃ (x1:lP [(10,aD),(11,aD)]),∃ (x2:lN [(10,aD),(11,aD)]),x1 e f w/\∀ (I1:Nat->Value) (n1 n2:Int) (w1:YC),x1 n1 n2 w1->br (decide (n1 < n2)) (ax (n1 + n2)/\ns 1/\ax (bH IntKind.u64 (IntKind.wrap IntKind.u64 (n1 + n2)) 1)/\∀ w2,drawn w1 w2->∃ (I2:WP),I2 w2/\idx a b (bH IntKind.u64 (IntKind.wrap IntKind.u64 (n1 + n2)) 1) 3 λa1=>∃ n3 n4 o1 k1 k2,(∀ w3,I2 w3->V.rowAt w3 a1 0 3 = some [iI n3,iI n4,vS o1 k1 k2])/\idx a b d 3 λa2=>∃ n5 n6 o2 k3 k4,(∀ w4,I2 w4->V.rowAt w4 a2 0 3 = some [iI n5,iI n6,vS o2 k3 k4])/\wI (Proofs.YtndaepmjkbmjmaaGreatDoor.Fn g) (rE g (vG [iI n3,iI n4,vS o1 k1 k2] :: vG [iI n5,iI n6,vS o2 k3 k4] :: i) w2 λv1 w5=>∃ n7,v1 = iI n7/\I2 w5/\br (decide (n7 < 0)) (ax (bH IntKind.u64 (IntKind.wrap IntKind.u64 (n1 + n2)) 1 + 1)/\x1 (bH IntKind.u64 (IntKind.wrap IntKind.u64 (n1 + n2)) 1 + 1) n2 w5/\x2 (bH IntKind.u64 (IntKind.wrap IntKind.u64 (n1 + n2)) 1 + 1) n2 w5 < x2 n1 n2 w1) (x1 n1 (bH IntKind.u64 (IntKind.wrap IntKind.u64 (n1 + n2)) 1) w5/\x2 n1 (bH IntKind.u64 (IntKind.wrap IntKind.u64 (n1 + n2)) 1) w5 < x2 n1 n2 w1))) (∃ (x3:lP [(13,aD)]),∃ (x4:lN [(13,aD)]),x3 d w1/\∀ (I3:Nat->Value) (n8:Int) (w6:YC),x3 n8 w6->ax (n1 - 1)/\br (decide (n8 < n1 - 1)) (∀ w7,drawn w6 w7->∃ (I4:WP),I4 w7/\ax (n8 + 1)/\ax (n8 + 1)/\idx a b (n8 + 1) 3 λa3=>∃ n9 n10 o3 k5 k6,(∀ w8,I4 w8->V.rowAt w8 a3 0 3 = some [iI n9,iI n10,vS o3 k5 k6])/\idx a b n8 3 λa4=>∃ n11 n12 o4 k7 k8,(∀ w9,I4 w9->V.rowAt w9 a4 0 3 = some [iI n11,iI n12,vS o4 k7 k8])/\idx a b n8 3 λa5=>fL w7 a5 [iI n9,iI n10,vS o3 k5 k6] λw10=>idx a b (n8 + 1) 3 λa6=>fL w10 a6 [iI n11,iI n12,vS o4 k7 k8] λw11=>ax (n8 + 1)/\x3 (n8 + 1) w11/\x4 (n8 + 1) w11 < x4 n8 w6) (R (vU []) w6))) (ax (f - e)/\br (f - e == 1) (∃ (x5:lP [(14,aD),(15,aD)]),∃ (x6:lN [(14,aD),(15,aD)]),x5 d e w/\∀ (I5:Nat->Value) (n13 n14:Int) (w12:YC),x5 n13 n14 w12->br (decide (n13 < n14)) (ax (n13 + n14)/\ns 1/\ax (bH IntKind.u64 (IntKind.wrap IntKind.u64 (n13 + n14)) 1)/\∀ w13,drawn w12 w13->∃ (I6:WP),I6 w13/\idx a b e 3 λa7=>∃ n15 n16 o5 k9 k10,(∀ w14,I6 w14->V.rowAt w14 a7 0 3 = some [iI n15,iI n16,vS o5 k9 k10])/\idx a b (bH IntKind.u64 (IntKind.wrap IntKind.u64 (n13 + n14)) 1) 3 λa8=>∃ n17 n18 o6 k11 k12,(∀ w15,I6 w15->V.rowAt w15 a8 0 3 = some [iI n17,iI n18,vS o6 k11 k12])/\wI (Proofs.YtndaepmjkbmjmaaGreatDoor.Fn g) (rE g (vG [iI n15,iI n16,vS o5 k9 k10] :: vG [iI n17,iI n18,vS o6 k11 k12] :: i) w13 λv2 w16=>∃ n19,v2 = iI n19/\I6 w16/\br (!decide (n19 < 0)) (ax (bH IntKind.u64 (IntKind.wrap IntKind.u64 (n13 + n14)) 1 + 1)/\x5 (bH IntKind.u64 (IntKind.wrap IntKind.u64 (n13 + n14)) 1 + 1) n14 w16/\x6 (bH IntKind.u64 (IntKind.wrap IntKind.u64 (n13 + n14)) 1 + 1) n14 w16 < x6 n13 n14 w12) (x5 n13 (bH IntKind.u64 (IntKind.wrap IntKind.u64 (n13 + n14)) 1) w16/\x6 n13 (bH IntKind.u64 (IntKind.wrap IntKind.u64 (n13 + n14)) 1) w16 < x6 n13 n14 w12))) (∃ (x7:lP [(17,aD)]),∃ (x8:lN [(17,aD)]),x7 e w12/\∀ (I7:Nat->Value) (n20:Int) (w17:YC),x7 n20 w17->br (decide (n13 < n20)) (∀ w18,drawn w17 w18->∃ (I8:WP),I8 w18/\ax (n20 - 1)/\ax (n20 - 1)/\idx a b (n20 - 1) 3 λa9=>∃ n21 n22 o7 k13 k14,(∀ w19,I8 w19->V.rowAt w19 a9 0 3 = some [iI n21,iI n22,vS o7 k13 k14])/\idx a b n20 3 λa10=>∃ n23 n24 o8 k15 k16,(∀ w20,I8 w20->V.rowAt w20 a10 0 3 = some [iI n23,iI n24,vS o8 k15 k16])/\idx a b n20 3 λa11=>fL w18 a11 [iI n21,iI n22,vS o7 k13 k14] λw21=>idx a b (n20 - 1) 3 λa12=>fL w21 a12 [iI n23,iI n24,vS o8 k15 k16] λw22=>ax (n20 - 1)/\x7 (n20 - 1) w22/\x8 (n20 - 1) w22 < x8 n20 w17) (R (vU []) w17))) (ax (d + f)/\ns 1/\ax (bH IntKind.u64 (IntKind.wrap IntKind.u64 (d + f)) 1)/\ax (bH IntKind.u64 (IntKind.wrap IntKind.u64 (d + f)) 1 + e)/\∃ (x9:lP [(20,aD),(21,aD)]),br (decide (bH IntKind.u64 (IntKind.wrap IntKind.u64 (d + f)) 1 < e)) (ax (bH IntKind.u64 (IntKind.wrap IntKind.u64 (d + f)) 1 + e - f)/\x9 (bH IntKind.u64 (IntKind.wrap IntKind.u64 (d + f)) 1 + e - f) (bH IntKind.u64 (IntKind.wrap IntKind.u64 (d + f)) 1) w) (x9 d e w)/\∀ (I9:Nat->Value) (n25 n26:Int) (w23:YC),x9 n25 n26 w23->ax (bH IntKind.u64 (IntKind.wrap IntKind.u64 (d + f)) 1 + e - 1)/\∃ (x10:lP [(20,aD),(21,aD)]),∃ (x11:lN [(20,aD),(21,aD)]),x10 n25 n26 w23/\∀ (I10:Nat->Value) (n27 n28:Int) (w24:YC),x10 n27 n28 w24->br (decide (n27 < n28)) (ax (n27 + n28)/\ns 1/\ax (bH IntKind.u64 (IntKind.wrap IntKind.u64 (n27 + n28)) 1)/\∀ w25,drawn w24 w25->∃ (I11:WP),I11 w25/\ax (bH IntKind.u64 (IntKind.wrap IntKind.u64 (d + f)) 1 + e - 1 - bH IntKind.u64 (IntKind.wrap IntKind.u64 (n27 + n28)) 1)/\idx a b (bH IntKind.u64 (IntKind.wrap IntKind.u64 (d + f)) 1 + e - 1 - bH IntKind.u64 (IntKind.wrap IntKind.u64 (n27 + n28)) 1) 3 λa13=>∃ n29 n30 o9 k17 k18,(∀ w26,I11 w26->V.rowAt w26 a13 0 3 = some [iI n29,iI n30,vS o9 k17 k18])/\idx a b (bH IntKind.u64 (IntKind.wrap IntKind.u64 (n27 + n28)) 1) 3 λa14=>∃ n31 n32 o10 k19 k20,(∀ w27,I11 w27->V.rowAt w27 a14 0 3 = some [iI n31,iI n32,vS o10 k19 k20])/\wI (Proofs.YtndaepmjkbmjmaaGreatDoor.Fn g) (rE g (vG [iI n29,iI n30,vS o9 k17 k18] :: vG [iI n31,iI n32,vS o10 k19 k20] :: i) w25 λv3 w28=>∃ n33,v3 = iI n33/\I11 w28/\br (!decide (n33 < 0)) (ax (bH IntKind.u64 (IntKind.wrap IntKind.u64 (n27 + n28)) 1 + 1)/\x10 (bH IntKind.u64 (IntKind.wrap IntKind.u64 (n27 + n28)) 1 + 1) n28 w28/\x11 (bH IntKind.u64 (IntKind.wrap IntKind.u64 (n27 + n28)) 1 + 1) n28 w28 < x11 n27 n28 w24) (x10 n27 (bH IntKind.u64 (IntKind.wrap IntKind.u64 (n27 + n28)) 1) w28/\x11 n27 (bH IntKind.u64 (IntKind.wrap IntKind.u64 (n27 + n28)) 1) w28 < x11 n27 n28 w24))) (ax (bH IntKind.u64 (IntKind.wrap IntKind.u64 (d + f)) 1 + e - n27)/\∃ (x12:lP []),br (decide (n27 < e)) (br (decide (e < bH IntKind.u64 (IntKind.wrap IntKind.u64 (d + f)) 1 + e - n27)) (rE 232 [vS a b c,iI n27,iI e,iI (bH IntKind.u64 (IntKind.wrap IntKind.u64 (d + f)) 1 + e - n27),Value.func (Fn.func g) (Array.mk []) (Array.mk i)] w24 λv4 w29=>v4 = vU []/\x12 w29) (x12 w24)) (x12 w24)/\∀ (I12:Nat->Value) (w30:YC),x12 w30->br (decide (d < n27)) (br (decide (n27 < bH IntKind.u64 (IntKind.wrap IntKind.u64 (d + f)) 1)) (rE 182 [vS a b c,iI d,iI n27,iI (bH IntKind.u64 (IntKind.wrap IntKind.u64 (d + f)) 1),Value.func (Fn.func g) (Array.mk []) (Array.mk i)] w30 λv5 w31=>v5 = vU []/\br (decide (bH IntKind.u64 (IntKind.wrap IntKind.u64 (d + f)) 1 < bH IntKind.u64 (IntKind.wrap IntKind.u64 (d + f)) 1 + e - n27)) (br (decide (bH IntKind.u64 (IntKind.wrap IntKind.u64 (d + f)) 1 + e - n27 < f)) (rE 182 [vS a b c,iI (bH IntKind.u64 (IntKind.wrap IntKind.u64 (d + f)) 1),iI (bH IntKind.u64 (IntKind.wrap IntKind.u64 (d + f)) 1 + e - n27),iI f,Value.func (Fn.func g) (Array.mk []) (Array.mk i)] w31 λv6 w32=>v6 = vU []/\R (vU []) w32) (R (vU []) w31)) (R (vU []) w31)) (br (decide (bH IntKind.u64 (IntKind.wrap IntKind.u64 (d + f)) 1 < bH IntKind.u64 (IntKind.wrap IntKind.u64 (d + f)) 1 + e - n27)) (br (decide (bH IntKind.u64 (IntKind.wrap IntKind.u64 (d + f)) 1 + e - n27 < f)) (rE 182 [vS a b c,iI (bH IntKind.u64 (IntKind.wrap IntKind.u64 (d + f)) 1),iI (bH IntKind.u64 (IntKind.wrap IntKind.u64 (d + f)) 1 + e - n27),iI f,Value.func (Fn.func g) (Array.mk []) (Array.mk i)] w30 λv7 w33=>v7 = vU []/\R (vU []) w33) (R (vU []) w30)) (R (vU []) w30))) (br (decide (bH IntKind.u64 (IntKind.wrap IntKind.u64 (d + f)) 1 < bH IntKind.u64 (IntKind.wrap IntKind.u64 (d + f)) 1 + e - n27)) (br (decide (bH IntKind.u64 (IntKind.wrap IntKind.u64 (d + f)) 1 + e - n27 < f)) (rE 182 [vS a b c,iI (bH IntKind.u64 (IntKind.wrap IntKind.u64 (d + f)) 1),iI (bH IntKind.u64 (IntKind.wrap IntKind.u64 (d + f)) 1 + e - n27),iI f,Value.func (Fn.func g) (Array.mk []) (Array.mk i)] w30 λv8 w34=>v8 = vU []/\R (vU []) w34) (R (vU []) w30)) (R (vU []) w30)))))):aA Tryz.prog 182 [(.slice a b c),(.int .i64 d),(.int .i64 e),(.int .i64 f),(.func (.func g) #[] ⟨i⟩)] w R:=rv Tryz.func182 fV (by kernel_rfl) h
abbrev iX:FuncId:=232
def h_:bg:={ rngs:=[],loops:=[(2,[(10,(.one (.int .i64))),(11,(.one (.int .i64)))])],joins:=[],blocks:=[] }
theorem ia {a:YB} {b c:Nat} {d e f:Int} {g:FuncId} {i:List Value} {w:YC} {R:Value->WP} (h:ax (e - d)/\ax (f - e)/\∃ (x1:lP [(10,aD),(11,aD)]),∃ (x2:lN [(10,aD),(11,aD)]),x1 (e - d) (f - e) w/\∀ (I1:Nat->Value) (n1 n2:Int) (w1:YC),x1 n1 n2 w1->br (n1 != n2) (br (decide (n2 < n1)) (ax (e - n1)/\rE 256 [vS a b c,iI (e - n1),iI e,iI n2,Value.func (Fn.func g) (Array.mk []) (Array.mk i)] w1 λv1 w2=>v1 = vU []/\ax (n1 - n2)/\x1 (n1 - n2) n2 w2/\x2 (n1 - n2) n2 w2 < x2 n1 n2 w1) (ax (e - n1)/\ax (e + n2)/\ax (e + n2 - n1)/\rE 256 [vS a b c,iI (e - n1),iI (e + n2 - n1),iI n1,Value.func (Fn.func g) (Array.mk []) (Array.mk i)] w1 λv2 w3=>v2 = vU []/\ax (n2 - n1)/\x1 n1 (n2 - n1) w3/\x2 n1 (n2 - n1) w3 < x2 n1 n2 w1)) (ax (e - n1)/\rE 256 [vS a b c,iI (e - n1),iI e,iI n1,Value.func (Fn.func g) (Array.mk []) (Array.mk i)] w1 λv3 w4=>v3 = vU []/\R (vU []) w4)):aA Tryz.prog 232 [(.slice a b c),(.int .i64 d),(.int .i64 e),(.int .i64 f),(.func (.func g) #[] ⟨i⟩)] w R:=rv Tryz.func232 h_ (by kernel_rfl) h
abbrev gB:FuncId:=256
def fH:bg:={ rngs:=[],loops:=[(1,[(10,(.one (.int .i64)))])],joins:=[],blocks:=[] }
theorem fI {a:YB} {b c:Nat} {d e f:Int} {g:FuncId} {i:List Value} {w:YC} {R:Value->WP} (h:∃ (x1:lP [(10,aD)]),∃ (x2:lN [(10,aD)]),x1 0 w/\∀ (I1:Nat->Value) (n1:Int) (w1:YC),x1 n1 w1->br (decide (n1 < f)) (∀ w2,drawn w1 w2->∃ (I2:WP),I2 w2/\ax (d + n1)/\ax (e + n1)/\ax (e + n1)/\idx a b (e + n1) 3 λa1=>∃ n2 n3 o1 k1 k2,(∀ w3,I2 w3->V.rowAt w3 a1 0 3 = some [iI n2,iI n3,vS o1 k1 k2])/\ax (d + n1)/\idx a b (d + n1) 3 λa2=>∃ n4 n5 o2 k3 k4,(∀ w4,I2 w4->V.rowAt w4 a2 0 3 = some [iI n4,iI n5,vS o2 k3 k4])/\idx a b (d + n1) 3 λa3=>fL w2 a3 [iI n2,iI n3,vS o1 k1 k2] λw5=>idx a b (e + n1) 3 λa4=>fL w5 a4 [iI n4,iI n5,vS o2 k3 k4] λw6=>ax (n1 + 1)/\x1 (n1 + 1) w6/\x2 (n1 + 1) w6 < x2 n1 w1) (R (vU []) w1)):aA Tryz.prog 256 [(.slice a b c),(.int .i64 d),(.int .i64 e),(.int .i64 f),(.func (.func g) #[] ⟨i⟩)] w R:=rv Tryz.func256 fH (by kernel_rfl) h
end Go.Proofs.YtndaepmjkbmjmaaGreatDoor
namespace Go.V
abbrev fq (b:gW):Int:=b.1.2
section
variable {w:YC} {L:List ay} {o:YB} {n c i:Nat} {ds:List gW} {x:gW}
abbrev U8 (x:gW):List Value:=[.int .i64 x.1.1,.int .i64 x.1.2,.slice x.2.1.1 x.2.2.length x.2.1.2]
theorem Ka (h:St w (own 3 o n c (cH ds) :: L)) (hx:ds[i]? = some x):∃ ad,o = some ad/\av (hp w) (ad.add (cY i 3)) (U8 x):=Wl (f:=O2) (λ_=>rfl) (by decide) h hx
theorem SH {ad:Addr} {k:YC->Prop} (h:St w (own 3 o n c (cH ds) :: L)) (ha:o = some ad) (hi:i < ds.length) (hk:∀ w',St w' (own 3 o n c (cH (ds.set i x)) :: L)->k w'):fL w (ad.add (cY i 3)) (U8 x) k :=
 Wm (f:=O2) (λ_=>rfl) (by decide) (λx v hv=>by simp [O2,dO] at hv; rcases hv with rfl | rfl | rfl <;> rfl) h ha hi hk
theorem Gf (h:St w (own 3 o n c (cH ds) :: L)):n = ds.length:=by have:=iE h; rw [A8] at this; omega
end
end Go.V
namespace Go.Proofs.YtndaepmjkbmjmaaGreatDoor
section
variable {w:YC} {L:List ay} {o:YB} {n c:Nat} {d:FuncId} {e:List Value}
theorem Gg {A X M Y C:List gW} {xs:List gW} {k:Nat} {a b:Int} (h:St w (own 3 o n c (cH xs) :: L)) (hxs:xs = A ++ (X ++ (M ++ (Y ++ C)))) (ha:a = A.length) (hb:b = ((A.length + X.length + M.length:Nat):Int)) (hX:X.length = k) (hY:Y.length = k) (hn:xs.length<=1000000) :
  aA Tryz.prog gB [.slice o n c,.int .i64 a,.int .i64 b,.int .i64 (k:Int),.func (.func d) #[] ⟨e⟩] w λv w'=>v = .tuple #[]/\St w' (own 3 o n c (cH (A ++ (Y ++ (M ++ (X ++ C))))) :: L):=by
 have hnl:=Gf h
 have hl:xs.length = A.length + X.length + M.length + Y.length + C.length:=by rw [hxs]; simp; omega
 subst ha hb
 refine fI ⟨λz w'=>∃ i:Nat,z = i/\i<=k/\St w' (own 3 o n c (cH (A ++ (Y.take i ++ (X.drop i ++ (M ++ (X.take i ++ (Y.drop i ++ C))))))) :: L),λz _=>k - z.toNat,⟨0,rfl,WC _,by simp only [List.take_zero,List.drop_zero,Xd]; rw [<- hxs]; exact h⟩,?_⟩
 clear h
 rintro _ _ w1 ⟨i,rfl,hi,h⟩
 refine ae (λh1=>?_) λh1=>?_
 rotate_left
 ·have h1:i = k:=by have:=Ws h1; omega
  subst h1
  rw [WN (by omega),XG (by omega),WN (by omega),XG (by omega),Xd,Xd] at h
  exact ⟨rfl,h⟩
 have h1:i < k:=by have:=Wr h1; omega
 intro w2 hd
 have h:=h.eq (aB hd)
 obtain ⟨x,hx⟩ : ∃ x,X[i]? = some x:=⟨_,Wv (by omega)⟩
 obtain ⟨y,hy⟩ : ∃ y,Y[i]? = some y:=⟨_,Wv (by omega)⟩
 obtain ⟨D,hD⟩ : ∃ D,D = A ++ (Y.take i ++ (X.drop i ++ (M ++ (X.take i ++ (Y.drop i ++ C))))):=⟨_,rfl⟩
 have eX:X.drop i = x :: X.drop (i + 1):=by rw [W_ (by omega)]; congr 1; rw [Wv (by omega)] at hx; exact Option.some.inj hx
 have eY:Y.drop i = y :: Y.drop (i + 1):=by rw [W_ (by omega)]; congr 1; rw [Wv (by omega)] at hy; exact Option.some.inj hy
 have e1:D = (A ++ Y.take i) ++ x :: ((X.drop (i + 1) ++ (M ++ X.take i)) ++ y :: (Y.drop (i + 1) ++ C)):=by rw [hD,eX,eY]; simp
 have l1:(A ++ Y.take i).length = A.length + i:=by simp; omega
 have l2:(X.drop (i + 1) ++ (M ++ X.take i)).length = X.length - (i + 1) + (M.length + i):=by simp; omega
 have e2:(D.set (A.length + i) y).set (A.length + X.length + M.length + i) x = A ++ (Y.take (i + 1) ++ (X.drop (i + 1) ++ (M ++ (X.take (i + 1) ++ (Y.drop (i + 1) ++ C))))):=by
  rw [e1,ya (by omega) (by omega),Wz,Wz,hx,hy]; simp
 rw [<- hD] at h
 have gx:D[A.length + i]? = some x:=by rw [e1]; exact mw (by omega)
 have gy:D[A.length + X.length + M.length + i]? = some y:=by
  rw [e1,show (A ++ Y.take i) ++ x :: ((X.drop (i + 1) ++ (M ++ X.take i)) ++ y :: (Y.drop (i + 1) ++ C)) = ((A ++ Y.take i) ++ x :: (X.drop (i + 1) ++ (M ++ X.take i))) ++ y :: (Y.drop (i + 1) ++ C) by simp]
  exact mw (by simp only [WA,Xj] at *; omega)
 have hDl:D.length = n:=(Gf h).symm
 obtain ⟨ad,ho,rx⟩:=Ka h gx
 obtain ⟨ad',ho',ry⟩:=Ka h gy
 rw [ho] at ho'; cases ho'
 have z1:(A.length:Int) + i = ((A.length + i:Nat):Int):=by simp
 have z2:((A.length + X.length + M.length:Nat):Int) + i = ((A.length + X.length + M.length + i:Nat):Int):=by simp
 have hnn:n<=1000000:=by omega
 have b1:A.length + i < n:=by omega
 have b2:A.length + X.length + M.length + i < n:=by omega
 rw [z1,z2]
 refine ⟨λu=>hp u = hp w2,rfl,⟨by omega,by omega⟩,⟨by omega,by omega⟩,⟨by omega,by omega⟩,aq ho b2 ⟨_,_,_,_,_,λu e=>ry.at (by rw [e]; exact sub.refl _) rfl,⟨by omega,by omega⟩,aq ho b1 ⟨_,_,_,_,_,λu e=>rx.at (by rw [e]; exact sub.refl _) rfl,aq ho b1 (SH (x:=y) h ho (by omega) λw5 h=>aq ho b2 (SH (x:=x) h ho (by rw [W1]; omega) λw6 h=>⟨⟨by omega,by omega⟩,⟨i + 1,by simp,h1,?_⟩,bx h1⟩))⟩⟩⟩
 rw [e2] at h
 exact h
theorem PB {A X Y C:List gW} {xs:List gW} {a m b:Int} (h:St w (own 3 o n c (cH xs) :: L)) (hxs:xs = A ++ (X ++ (Y ++ C))) (ha:a = A.length) (hm:m = ((A.length + X.length:Nat):Int)) (hb:b = ((A.length + X.length + Y.length:Nat):Int)) (hX:X≠[]) (hY:Y≠[]) (hn:xs.length<=1000000) :
  aA Tryz.prog iX [.slice o n c,.int .i64 a,.int .i64 m,.int .i64 b,.func (.func d) #[] ⟨e⟩] w λv w'=>v = .tuple #[]/\St w' (own 3 o n c (cH (A ++ (Y ++ (X ++ C)))) :: L):=by
 have hl:xs.length = A.length + X.length + Y.length + C.length:=by rw [hxs]; simp; omega
 have hX1:=XW.2 hX
 have hY1:=XW.2 hY
 subst ha hm hb
 obtain ⟨T,hT⟩ : ∃ T,T = A ++ (Y ++ (X ++ C)):=⟨_,rfl⟩
 have hTl:T.length = xs.length:=by rw [hT,hl]; simp; omega
 rw [<- hT]
 obtain ⟨E,hE⟩ : ∃ E,E = A.length + X.length:=⟨_,rfl⟩
 refine ia ⟨⟨by omega,by omega⟩,⟨by omega,by omega⟩,λy z w'=>∃ A X Y C:List gW,y = (X.length:Int)/\z = (Y.length:Int)/\X≠[]/\Y≠[]/\A.length + X.length = E/\A ++ (Y ++ (X ++ C)) = T/\St w' (own 3 o n c (cH (A ++ (X ++ (Y ++ C)))) :: L),λy z _=>y.toNat + z.toNat,⟨A,X,Y,C,by omega,by omega,hX,hY,hE.symm,hT.symm,by rw [<- hxs]; exact h⟩,?_⟩
 rw [<- hE]
 clear h hxs hX hY hX1 hY1
 rintro _ _ _ w1 ⟨A1,X1,Y1,C1,rfl,rfl,hX,hY,hm,hT1,h⟩
 have hX1:=XW.2 hX
 have hY1:=XW.2 hY
 have hl1:A1.length + (Y1.length + (X1.length + C1.length)) = T.length:=by rw [<- hT1]; simp
 refine ae (λh1=>?_) λh1=>?_
 rotate_left
 ·have h1:(X1.length:Int) = Y1.length:=by simpa using h1
  have h1:X1.length = Y1.length:=by omega
  refine ⟨⟨by omega,by omega⟩,(Gg (A:=A1) (X:=X1) (M:=[]) (Y:=Y1) (C:=C1) (k:=X1.length) h (by simp) (by omega) (by simp; omega) rfl h1.symm (by simp; omega)).mono ?_⟩
  rintro _ w4 ⟨rfl,h⟩
  rw [Xd,hT1] at h
  exact ⟨rfl,rfl,h⟩
 have h1:(X1.length:Int)≠Y1.length:=by simpa using h1
 have h1:X1.length≠Y1.length:=by omega
 refine ae (λh2=>?_) λh2=>?_
 ·have h2:Y1.length < X1.length:=by have:=Wr h2; omega
  refine ⟨⟨by omega,by omega⟩,(Gg (A:=A1) (X:=X1.take Y1.length) (M:=X1.drop Y1.length) (Y:=Y1) (C:=C1) (k:=Y1.length) h (by rw [<- WG (X1.take _),WX]) (by omega) (by simp; omega) (by simp; omega) rfl (by simp; omega)).mono ?_⟩
  rintro _ w2 ⟨rfl,h⟩
  refine ⟨rfl,⟨by omega,by omega⟩,⟨A1 ++ Y1,X1.drop Y1.length,X1.take Y1.length,C1,by simp; omega,by simp; omega,λhh=>?_,λhh=>?_,by simp; omega,?_,by simpa using h⟩,?_⟩
  ·have:=congrArg List.length hh; simp only [WV,XK,Xk] at this; omega
  ·have:=congrArg List.length hh; simp only [WV,XK,Xk] at this; omega
  ·rw [<- hT1,WG,<- WG (X1.take _),WX]
  ·show ((X1.length:Int) - Y1.length).toNat + (Y1.length:Int).toNat < (X1.length:Int).toNat + (Y1.length:Int).toNat
   omega
 ·have h2:X1.length < Y1.length:=by have:=Ws h2; omega
  refine ⟨⟨by omega,by omega⟩,⟨by omega,by omega⟩,⟨by omega,by omega⟩,(Gg (A:=A1) (X:=X1) (M:=Y1.take (Y1.length - X1.length)) (Y:=Y1.drop (Y1.length - X1.length)) (C:=C1) (k:=X1.length) h (by rw [<- WG (Y1.take _),WX]) (by omega) (by simp; omega) rfl (by simp; omega) (by simp; omega)).mono ?_⟩
  rintro _ w3 ⟨rfl,h⟩
  refine ⟨rfl,⟨by omega,by omega⟩,⟨A1,Y1.drop (Y1.length - X1.length),Y1.take (Y1.length - X1.length),X1 ++ C1,by simp; omega,by simp; omega,λhh=>?_,λhh=>?_,by simp; omega,?_,by simpa using h⟩,?_⟩
  ·have:=congrArg List.length hh; simp only [WV,XK,Xk] at this; omega
  ·have:=congrArg List.length hh; simp only [WV,XK,Xk] at this; omega
  ·rw [<- hT1,<- WG (Y1.take _),WX]
  ·show (X1.length:Int).toNat + ((Y1.length:Int) - X1.length).toNat < (X1.length:Int).toNat + (Y1.length:Int).toNat
   omega
def IH (x:gW):Prop:=0<=x.1.2/\x.1.2<=1000000
def RV (d:FuncId) (e:List Value):Prop:=Fn d = true/\∀ (x y:gW) (u:YC),IH x->IH y->aA Tryz.prog d (.agg ⟨U8 x⟩ :: .agg ⟨U8 y⟩ :: e) u λv u'=>∃ z:Int,v = .int .i64 z/\(z < 0↔fq x < fq y)/\Gr u u'
theorem Im {A X C:List gW} {xs:List gW} {a b:Int} (hc:RV d e) (h:St w (own 3 o n c (cH xs) :: L)) (hxs:xs = A ++ (X ++ C)) (ha:a = A.length) (hb:b = ((A.length + X.length:Nat):Int)) (hs:∀ x∈X,IH x) (hn:xs.length<=1000000) :
  aA Tryz.prog eR [.slice o n c,.int .i64 a,.int .i64 b,.func (.func d) #[] ⟨e⟩] w λv w'=>v = .tuple #[]/\∃ S,S.Perm X/\jT fq S/\St w' (own 3 o n c (cH (A ++ (S ++ C))) :: L):=by
 have hl:xs.length = A.length + X.length + C.length:=by rw [hxs]; simp; omega
 have hnl:=Gf h
 have hnn:n<=1000000:=by omega
 subst ha hb
 refine ep ⟨⟨by omega,by omega⟩,λz w'=>∃ S R:List gW,(S ++ R).Perm X/\jT fq S/\((S≠[]/\z = ((A.length + S.length:Nat):Int))\/(X = []/\z = (A.length:Int) + 1))/\St w' (own 3 o n c (cH (A ++ (S ++ (R ++ C)))) :: L),λz _=>A.length + X.length - z.toNat,?_,?_⟩
 ·cases hX:X with
  | nil=>rw [hX] at hxs; exact ⟨[],[],.refl _,.nil,.inr ⟨rfl,rfl⟩,by rw [hxs] at h; exact h⟩
  | cons x X'=>rw [hX] at hxs; exact ⟨[x],X',.refl _,List.pairwise_singleton _ _,.inl ⟨by simp,by simp⟩,by rw [hxs] at h; exact h⟩
 clear h
 rintro _ z w1 ⟨S,R,hpm,hS,hz,h⟩
 have hpl:S.length + R.length = X.length:=by have:=hpm.length_eq; simpa using this
 refine ae (λh1=>?_) λh1=>?_
 rotate_left
 ·have h1:=Ws h1
  have hR:R = []:=by
   rcases hz with ⟨_,rfl⟩ | ⟨hX,_⟩
   ·exact WU (by omega)
   ·rw [hX,Xk] at hpl; exact WU (by omega)
  subst hR
  exact ⟨rfl,S,by simpa using hpm,hS,h⟩
 have h1:=Wr h1
 rcases hz with ⟨hS0,rfl⟩ | ⟨hX,rfl⟩
 rotate_left
 ·rw [hX] at h1; simp at h1; omega
 obtain ⟨y,R',rfl⟩ : ∃ y R',R = y :: R':=by
  cases R with
  | nil=>simp at hpl; omega
  | cons y R'=>exact ⟨y,R',rfl⟩
 have hsy:IH y:=hs y (hpm.mem_iff.1 (by simp))
 have hsS:∀ x∈S,IH x:=λx hx=>hs x (hpm.mem_iff.1 (by simp [hx]))
 refine ⟨λz w'=>∃ S1 S2:List gW,S = S1 ++ S2/\z = ((A.length + S1.length:Nat):Int)/\(∀ u∈S2,fq y<=fq u)/\St w' (own 3 o n c (cH (A ++ (S1 ++ y :: (S2 ++ (R' ++ C))))) :: L),λz _=>z.toNat - A.length,⟨S,[],by simp,by simp,by simp,by simpa using h⟩,?_⟩
 clear h
 rintro _ _ w2 ⟨S1,S2,rfl,rfl,hS2,h⟩
 have hDl:=Gf h
 have hpl2:S1.length + S2.length + (R'.length + 1) = X.length:=by simpa using hpl
 -- it has its place
 have fin:∀ {w'},(∀ u,S1.getLast? = some u->fq u<=fq y)->St w' (own 3 o n c (cH (A ++ (S1 ++ y :: (S2 ++ (R' ++ C))))) :: L)->ax (((A.length + (S1 ++ S2).length:Nat):Int) + 1)/\(∃ S R:List gW,(S ++ R).Perm X/\jT fq S/\((S≠[]/\((A.length + (S1 ++ S2).length:Nat):Int) + 1 = ((A.length + S.length:Nat):Int))\/(X = []/\((A.length + (S1 ++ S2).length:Nat):Int) + 1 = (A.length:Int) + 1))/\St w' (own 3 o n c (cH (A ++ (S ++ (R ++ C)))) :: L))/\A.length + X.length - (((A.length + (S1 ++ S2).length:Nat):Int) + 1).toNat < A.length + X.length - ((A.length + (S1 ++ S2).length:Nat):Int).toNat:=λ{w'} hlast h=>by
  refine ⟨⟨by simp; omega,by simp; omega⟩,⟨S1 ++ y :: S2,R',?_,Gb hS hlast (λu hu=>hS2 u (List.mem_of_head? hu)),.inl ⟨by simp,by simp; omega⟩,by simpa using h⟩,by simp; omega⟩
  refine List.Perm.trans ?_ hpm
  simp only [WG,List.cons_append]
  refine Yd _ ?_
  exact (Xo (l₁:=S2) (l₂:=R') (a:=y)).symm
 intro w3 hd
 have h:=h.eq (aB hd)
 refine ⟨λu=>Gr w3 u,Gr.refl _,ae (λh2=>?_) λh2=>?_⟩
 rotate_left
 ·have h2:S1 = []:=WU (by have:=Ws h2; omega)
  exact fin (λu hu=>by rw [h2] at hu; cases hu) h
 have h2:0 < S1.length:=by have:=Wr h2; omega
 obtain ⟨S1',z,rfl⟩ : ∃ S1' z,S1 = S1' ++ [z]:=⟨S1.dropLast,S1.getLast (by intro hh; rw [hh] at h2; simp at h2),(List.dropLast_concat_getLast _).symm⟩
 obtain ⟨D,hD⟩ : ∃ D,D = A ++ ((S1' ++ [z]) ++ y :: (S2 ++ (R' ++ C))):=⟨_,rfl⟩
 rw [<- hD] at h
 have e1:D = (A ++ S1') ++ z :: ([] ++ y :: (S2 ++ (R' ++ C))):=by rw [hD]; simp
 have gz:D[A.length + S1'.length]? = some z:=by rw [e1]; exact mw (by simp)
 have gy:D[A.length + S1'.length + 1]? = some y:=by
  rw [e1,show (A ++ S1') ++ z :: ([] ++ y :: (S2 ++ (R' ++ C))) = ((A ++ S1') ++ [z]) ++ y :: (S2 ++ (R' ++ C)) by simp]
  exact mw (by simp; omega)
 have hDn:=Gf h
 have b1:A.length + S1'.length < n:=by rw [hDn]; exact (Wt.1 gz).1
 have b2:A.length + S1'.length + 1 < n:=by rw [hDn]; exact (Wt.1 gy).1
 obtain ⟨ad,ho,rz⟩:=Ka h gz
 obtain ⟨ad',ho',ry⟩:=Ka h gy
 rw [ho] at ho'; cases ho'
 have z1:((A.length + (S1' ++ [z]).length:Nat):Int) = ((A.length + S1'.length + 1:Nat):Int):=by simp only [WA,Yr]; omega
 have z2:((A.length + S1'.length + 1:Nat):Int) - 1 = ((A.length + S1'.length:Nat):Int):=by simp
 rw [z1,z2]
 refine aq ho b2 ⟨_,_,_,_,_,λu g=>ry.at g rfl,⟨by omega,by omega⟩,aq ho b1 ⟨_,_,_,_,_,λu g=>rz.at g rfl,bJ.2 ⟨hc.1,(hc.2 y z w3 hsy (hsS z (by simp))).mono ?_⟩⟩⟩
 rintro _ w6 ⟨t,rfl,ht,g6⟩
 have h:=h.gr g6
 refine ⟨_,rfl,g6,ae (λh3=>?_) λh3=>?_⟩
 rotate_left
 ·have h3:=Ws h3
  rw [hD] at h
  refine fin (λu hu=>?_) h
  rw [List.getLast?_concat] at hu
  cases hu
  have:¬ fq y < fq z:=λhh=>h3 (ht.2 hh)
  omega
 have h3:=ht.1 (Wr h3)
 intro w7 hd7
 have h:=h.eq (aB hd7)
 have s7:sub (hp w3) (hp w7):=g6.trans (Gr.drawn hd7)
 refine ⟨λu=>hp u = hp w7,rfl,⟨by omega,by omega⟩,⟨by omega,by omega⟩,aq ho b1 ⟨_,_,_,_,_,λu e=>(rz.mono s7).at (by rw [e]; exact sub.refl _) rfl,aq ho b2 ⟨_,_,_,_,_,λu e=>(ry.mono s7).at (by rw [e]; exact sub.refl _) rfl,aq ho b2 (SH (x:=z) h ho (by omega) λw10 h=>aq ho b1 (SH (x:=y) h ho (by rw [W1]; omega) λw11 h=>⟨⟨by omega,by omega⟩,⟨S1',z :: S2,by simp,rfl,?_,?_⟩,?_⟩))⟩⟩⟩
 ·intro u hu
  rcases WM.1 hu with rfl | hu
  ·exact Int.le_of_lt h3
  ·exact hS2 u hu
 ·have e2:(D.set (A.length + S1'.length + 1) z).set (A.length + S1'.length) y = A ++ (S1' ++ y :: (z :: S2 ++ (R' ++ C))):=by
   rw [List.set_comm _ _ (by omega),e1,ya (by simp) (by simp)]; simp
  rw [e2] at h
  exact h
 ·show ((A.length + S1'.length:Nat):Int).toNat - A.length < ((A.length + S1'.length + 1:Nat):Int).toNat - A.length
  omega
end
end Go.Proofs.YtndaepmjkbmjmaaGreatDoor
namespace Go.V
section
variable {α : Type} {k:α->Int}
inductive Kb (k:α->Int) (bs:Nat):List α->Prop
 | last (l:List α):l.length<=bs->jT k l->Kb k bs l
 | more (l m:List α):l.length = bs->jT k l->Kb k bs m->Kb k bs (l ++ m)
inductive T5 (k:α->Int) (bs:Nat):List α->Prop
 | nil:T5 k bs []
 | snoc (d l:List α):T5 k bs d->l.length = bs->jT k l->T5 k bs (d ++ l)
theorem T5.V7 {bs:Nat} {d:List α} (h:T5 k bs d):∀ e,Kb k bs e->Kb k bs (d ++ e):=by
 induction h with
 | nil=>exact λe he=>he
 | snoc d l _ hl hs ih=>exact λe he=>by rw [WG]; exact ih _ (.more l e hl hs he)
theorem Kb.PC {bs:Nat} {l:List α} (h:Kb k bs l) (hl:l.length<=bs):jT k l:=by
 cases h with
 | last _ _ hs=>exact hs
 | more a m ha hs hm =>
  have:m = []:=WU (by rw [WA] at hl; omega)
  subst this
  simpa using hs
theorem Kb.cut {bs:Nat} {l:List α} (h:Kb k bs l) (hl:bs < l.length):∃ a m,l = a ++ m/\a.length = bs/\jT k a/\Kb k bs m/\m≠[]:=by
 cases h with
 | last _ h1 _=>omega
 | more a m ha hs hm=>exact ⟨a,m,rfl,ha,hs,hm,λe=>by subst e; simp at hl; omega⟩
def Wn (X Y:List gW) (H s0 s:Nat):Prop:=s = s0\/∃ x y,X[s - 1]? = some x/\Y[H - s]? = some y/\fq x<=fq y
def Wo (X Y:List gW) (H r0 r:Nat):Prop:=r = r0\/∃ x y,X[r]? = some x/\Y[H - r - 1]? = some y/\fq y < fq x
theorem RW {n:Nat} (h:n<=4000000):bH .u64 (IntKind.u64.wrap (n:Int)) 1 = ((n / 2:Nat):Int):=by
 have e:IntKind.u64.wrap (n:Int) = (n:Int):=by
  simp only [IntKind.wrap,IntKind.signed,IntKind.bits]
  exact Int.emod_eq_of_lt (by omega) (by omega)
 rw [e]
 exact BG (s:=1) (by decide)
end
end Go.V
namespace Go.Proofs.YtndaepmjkbmjmaaGreatDoor
section
variable {w:YC} {L:List ay} {o:YB} {n c:Nat} {d:FuncId} {e:List Value}
theorem Lw {i j:Nat} (h:i + j<=4000000):bH .u64 (IntKind.u64.wrap ((i:Int) + (j:Int))) 1 = (((i + j) / 2:Nat):Int):=by
 rw [<- RW h]; simp
theorem CX (hc:RV d e) (N:Nat):∀ {w:YC} {L:List ay} {A X Y C:List gW} {xs:List gW} {a m b:Int} (h:St w (own 3 o n c (cH xs) :: L)) (hxs:xs = A ++ (X ++ (Y ++ C))) (ha:a = A.length) (hm:m = ((A.length + X.length:Nat):Int)) (hb:b = ((A.length + X.length + Y.length:Nat):Int)) (hX:X≠[]) (hY:Y≠[]) (hN:X.length + Y.length<=N)
  (hsX:jT fq X) (hsY:jT fq Y) (hs:∀ x∈X ++ Y,IH x) (hn:xs.length<=1000000),
  aA Tryz.prog aR [.slice o n c,.int .i64 a,.int .i64 m,.int .i64 b,.func (.func d) #[] ⟨e⟩] w λv w'=>v = .tuple #[]/\∃ S,S.Perm (X ++ Y)/\jT fq S/\St w' (own 3 o n c (cH (A ++ (S ++ C))) :: L):=by
 induction N with
 | zero=>intro w L A X Y C xs a m b h hxs ha hm hb hX hY hN; exact absurd (WU (by omega)) hX
 | succ N ih =>
 intro w L A X Y C xs a m b h hxs ha hm hb hX hY hN hsX hsY hs hn
 have hl:xs.length = A.length + X.length + Y.length + C.length:=by rw [hxs]; simp; omega
 have hX1:=XW.2 hX
 have hY1:=XW.2 hY
 have hDl:=Gf h
 have hnn:n<=1000000:=by omega
 have smX:∀ x∈X,IH x:=λx hx=>hs x (by simp [hx])
 have smY:∀ x∈Y,IH x:=λx hx=>hs x (by simp [hx])
 have hns:ns 1:=by unfold ns; decide
 subst ha hm hb
 -- what stands at a place
 have atX:∀ i,i < X.length->∃ x,X[i]? = some x/\xs[A.length + i]? = some x:=λi hi=>by
  refine ⟨_,Wv hi,?_⟩
  rw [hxs,WK (by omega),Xq,WI hi,Wv hi]
 have atY:∀ i,i < Y.length->∃ y,Y[i]? = some y/\xs[A.length + X.length + i]? = some y:=λi hi=>by
  refine ⟨_,Wv hi,?_⟩
  rw [hxs,WK (by omega),show A.length + X.length + i - A.length = X.length + i by omega,WK (by omega),Xq,WI hi,Wv hi]
 have eA:(((A.length + X.length:Nat):Int) - A.length == 1) = decide (X.length = 1):=by
  rw [Xh,Yo,WH]; omega
 have eB:(((A.length + X.length + Y.length:Nat):Int) - ((A.length + X.length:Nat):Int) == 1) = decide (Y.length = 1):=by
  rw [Xh,Yo,WH]; omega
 refine fW ⟨⟨by omega,by omega⟩,?_⟩
 rw [eA]
 refine ae (λh1=>?_) λh1=>?_
 ·-- one on the left
  have h1:=Wr h1
  obtain ⟨x,hX0⟩ : ∃ x,X = [x]:=List.length_eq_one_iff.1 h1
  subst hX0
  obtain ⟨_,hx0,gx⟩:=atX 0 (by simp)
  cases hx0
  have hsx:IH x:=smX x (by simp)
  refine ⟨λi j w'=>∃ i' j' : Nat,i = ((A.length + 1 + i' : Nat):Int)/\j = ((A.length + 1 + j' : Nat):Int)/\i'<=j'/\j'<=Y.length/\(∀ y,0 < i'->Y[i' - 1]? = some y->fq y < fq x)/\(∀ y,Y[j']? = some y->fq x<=fq y)/\St w' (own 3 o n c (cH xs) :: L),λi j _=>j.toNat - i.toNat,⟨0,Y.length,by simp,by simp,WC _,WO _,λy hy=>absurd hy (by omega),λy hy=>(by rw [WR (WO _)] at hy; cases hy),h⟩,?_⟩
  clear h
  rintro _ _ _ w1 ⟨i',j',rfl,rfl,hij,hj,hlo,hhi,h⟩
  refine ae (λh2=>?_) λh2=>?_
  ·have h2:i' < j':=by have:=Wr h2; omega
   rw [Lw (by omega)]
   obtain ⟨q,hq⟩ : ∃ q,q = (i' + j') / 2:=⟨_,rfl⟩
   have hq2:(A.length + 1 + i' + (A.length + 1 + j')) / 2 = A.length + 1 + q:=by omega
   rw [hq2]
   have hqj:q < j':=by omega
   have hqi:i'<=q:=by omega
   obtain ⟨y,hy,gy⟩:=atY q (by omega)
   have gy:xs[A.length + 1 + q]? = some y:=gy
   refine ⟨⟨by omega,by omega⟩,hns,⟨by omega,by omega⟩,λw2 hd=>?_⟩
   have h:=h.eq (aB hd)
   obtain ⟨ad,ho,ry⟩:=Ka h gy
   obtain ⟨ad',ho',rx⟩:=Ka h gx
   rw [ho] at ho'; cases ho'
   refine ⟨λu=>Gr w2 u,Gr.refl _,aq ho (by omega) ⟨_,_,_,_,_,λu g=>ry.at g rfl,aq ho (by omega) ⟨_,_,_,_,_,λu g=>rx.at g rfl,bJ.2 ⟨hc.1,(hc.2 y x w2 (smY y (Wu hy)) hsx).mono ?_⟩⟩⟩⟩
   rintro _ w5 ⟨t,rfl,ht,g5⟩
   have h:=h.gr g5
   refine ⟨_,rfl,g5,ae (λh3=>?_) λh3=>?_⟩
   ·have h3:=ht.1 (Wr h3)
    refine ⟨⟨by omega,by omega⟩,⟨q + 1,j',by omega,rfl,by omega,hj,λy' _ hy'=>?_,hhi,h⟩,?_⟩
    ·rw [Nat.add_sub_cancel,hy] at hy'; cases hy'; exact h3
    ·show ((A.length + 1 + j' : Nat):Int).toNat - (((A.length + 1 + q:Nat):Int) + 1).toNat < ((A.length + 1 + j' : Nat):Int).toNat - ((A.length + 1 + i' : Nat):Int).toNat
     omega
   ·have h3:¬ fq y < fq x:=λhh=>(Ws h3) (ht.2 hh)
    refine ⟨⟨i',q,rfl,rfl,hqi,by omega,hlo,λy' hy'=>?_,h⟩,?_⟩
    ·rw [hy] at hy'; cases hy'; omega
    ·show ((A.length + 1 + q:Nat):Int).toNat - ((A.length + 1 + i' : Nat):Int).toNat < ((A.length + 1 + j' : Nat):Int).toNat - ((A.length + 1 + i' : Nat):Int).toNat
     omega
  have h2:i' = j':=by have:=Ws h2; omega
  subst h2
  refine ⟨λz w'=>∃ k:Nat,z = ((A.length + k:Nat):Int)/\k<=i'/\St w' (own 3 o n c (cH (A ++ (Y.take k ++ x :: (Y.drop k ++ C)))) :: L),λz _=>A.length + i' - z.toNat,⟨0,by simp,WC _,by rw [hxs] at h; simpa using h⟩,?_⟩
  clear h
  rintro _ _ w6 ⟨k,rfl,hk,h⟩
  refine ⟨⟨by omega,by omega⟩,ae (λh3=>?_) λh3=>?_⟩
  rotate_left
  ·have h3:k = i':=by have:=Ws h3; omega
   subst h3
   have hYs:jT fq (Y.take k ++ Y.drop k):=by rw [WX]; exact hsY
   refine ⟨rfl,Y.take k ++ x :: Y.drop k,?_,Gb hYs (λy hy=>?_) (λy hy=>?_),by simpa using h⟩
   ·refine Xo.trans ?_
    rw [WX]; exact .refl _
   ·have hk0:0 < k:=Ys λe=>by subst e; simp at hy
    rw [Yt,WV,show min k Y.length - 1 = k - 1 by omega,XB,WJ (by omega)] at hy
    exact Int.le_of_lt (hlo y hk0 hy)
   ·rw [List.head?_eq_getElem?,W8,Nat.add_zero] at hy
    exact hhi y hy
  have h3:k < i':=by have:=Wr h3; omega
  intro w7 hd
  have h:=h.eq (aB hd)
  obtain ⟨y,hy⟩ : ∃ y,Y[k]? = some y:=⟨_,Wv (by omega)⟩
  have eY:Y.drop k = y :: Y.drop (k + 1):=by rw [W_ (by omega)]; congr 1; rw [Wv (by omega)] at hy; exact Option.some.inj hy
  obtain ⟨D,hD⟩ : ∃ D,D = A ++ (Y.take k ++ x :: (Y.drop k ++ C)):=⟨_,rfl⟩
  rw [<- hD] at h
  have lk:(A ++ Y.take k).length = A.length + k:=by simp; omega
  have e1:D = (A ++ Y.take k) ++ x :: ([] ++ y :: (Y.drop (k + 1) ++ C)):=by rw [hD,eY]; simp
  have g1:D[A.length + k]? = some x:=by rw [e1]; exact mw lk.symm
  have g2:D[A.length + k + 1]? = some y:=by
   rw [e1,show (A ++ Y.take k) ++ x :: ([] ++ y :: (Y.drop (k + 1) ++ C)) = ((A ++ Y.take k) ++ [x]) ++ y :: (Y.drop (k + 1) ++ C) by simp]
   exact mw (by rw [WA,lk]; rfl)
  have hDn:=Gf h
  have b1:A.length + k < n:=by rw [hDn]; exact (Wt.1 g1).1
  have b2:A.length + k + 1 < n:=by rw [hDn]; exact (Wt.1 g2).1
  obtain ⟨ad,ho,r1⟩:=Ka h g1
  obtain ⟨ad',ho',r2⟩:=Ka h g2
  rw [ho] at ho'; cases ho'
  have z1:((A.length + k:Nat):Int) + 1 = ((A.length + k + 1:Nat):Int):=by simp
  rw [z1]
  refine ⟨λu=>hp u = hp w7,rfl,⟨by omega,by omega⟩,⟨by omega,by omega⟩,aq ho b2 ⟨_,_,_,_,_,λu e=>r2.at (by rw [e]; exact sub.refl _) rfl,aq ho b1 ⟨_,_,_,_,_,λu e=>r1.at (by rw [e]; exact sub.refl _) rfl,aq ho b1 (SH (x:=y) h ho (by omega) λw10 h=>aq ho b2 (SH (x:=x) h ho (by rw [W1]; omega) λw11 h=>⟨⟨by omega,by omega⟩,⟨k + 1,rfl,by omega,?_⟩,?_⟩))⟩⟩⟩
  ·have e2:(D.set (A.length + k) y).set (A.length + k + 1) x = A ++ (Y.take (k + 1) ++ x :: (Y.drop (k + 1) ++ C)):=by
    rw [e1,ya lk.symm (by rw [lk]; rfl),Wz,hy]; simp
   rw [e2] at h
   exact h
  ·show A.length + i' - ((A.length + k + 1:Nat):Int).toNat < A.length + i' - ((A.length + k:Nat):Int).toNat
   omega
 have h1:X.length≠1:=Ws h1
 refine ⟨⟨by omega,by omega⟩,?_⟩
 rw [eB]
 refine ae (λh4=>?_) λh4=>?_
 ·-- one on the right
  have h4:=Wr h4
  obtain ⟨y,hY0⟩ : ∃ y,Y = [y]:=List.length_eq_one_iff.1 h4
  subst hY0
  obtain ⟨_,hy0,gy⟩:=atY 0 (by simp)
  cases hy0
  have hsy:IH y:=smY y (by simp)
  refine ⟨λi j w'=>∃ i' j' : Nat,i = ((A.length + i' : Nat):Int)/\j = ((A.length + j' : Nat):Int)/\i'<=j'/\j'<=X.length/\(∀ x,0 < i'->X[i' - 1]? = some x->fq x<=fq y)/\(∀ x,X[j']? = some x->fq y < fq x)/\St w' (own 3 o n c (cH xs) :: L),λi j _=>j.toNat - i.toNat,⟨0,X.length,by simp,rfl,WC _,WO _,λx hx=>absurd hx (by omega),λx hx=>(by rw [WR (WO _)] at hx; cases hx),h⟩,?_⟩
  clear h
  rintro _ _ _ w1 ⟨i',j',rfl,rfl,hij,hj,hlo,hhi,h⟩
  refine ae (λh2=>?_) λh2=>?_
  ·have h2:i' < j':=by have:=Wr h2; omega
   rw [Lw (by omega)]
   obtain ⟨q,hq⟩ : ∃ q,q = (i' + j') / 2:=⟨_,rfl⟩
   have hq2:(A.length + i' + (A.length + j')) / 2 = A.length + q:=by omega
   rw [hq2]
   have hqj:q < j':=by omega
   have hqi:i'<=q:=by omega
   obtain ⟨x,hx,gx⟩:=atX q (by omega)
   refine ⟨⟨by omega,by omega⟩,hns,⟨by omega,by omega⟩,λw2 hd=>?_⟩
   have h:=h.eq (aB hd)
   obtain ⟨ad,ho,ry⟩:=Ka h gy
   obtain ⟨ad',ho',rx⟩:=Ka h gx
   rw [ho] at ho'; cases ho'
   refine ⟨λu=>Gr w2 u,Gr.refl _,aq ho (by omega) ⟨_,_,_,_,_,λu g=>ry.at g rfl,aq ho (by omega) ⟨_,_,_,_,_,λu g=>rx.at g rfl,bJ.2 ⟨hc.1,(hc.2 y x w2 hsy (smX x (Wu hx))).mono ?_⟩⟩⟩⟩
   rintro _ w5 ⟨t,rfl,ht,g5⟩
   have h:=h.gr g5
   refine ⟨_,rfl,g5,ae (λh3=>?_) λh3=>?_⟩
   ·have h3:¬ fq y < fq x:=λhh=>by
     have:=ht.2 hh
     simp at h3; omega
    refine ⟨⟨by omega,by omega⟩,⟨q + 1,j',by omega,rfl,by omega,hj,λx' _ hx'=>?_,hhi,h⟩,?_⟩
    ·rw [Nat.add_sub_cancel,hx] at hx'; cases hx'; omega
    ·show ((A.length + j' : Nat):Int).toNat - (((A.length + q:Nat):Int) + 1).toNat < ((A.length + j' : Nat):Int).toNat - ((A.length + i' : Nat):Int).toNat
     omega
   ·have h3:fq y < fq x:=ht.1 (by simpa using h3)
    refine ⟨⟨i',q,rfl,rfl,hqi,by omega,hlo,λx' hx'=>?_,h⟩,?_⟩
    ·rw [hx] at hx'; cases hx'; exact h3
    ·show ((A.length + q:Nat):Int).toNat - ((A.length + i' : Nat):Int).toNat < ((A.length + j' : Nat):Int).toNat - ((A.length + i' : Nat):Int).toNat
     omega
  have h2:i' = j':=by have:=Ws h2; omega
  subst h2
  refine ⟨λz w'=>∃ k:Nat,z = ((A.length + k:Nat):Int)/\i'<=k/\k<=X.length/\St w' (own 3 o n c (cH (A ++ (X.take k ++ y :: (X.drop k ++ C)))) :: L),λz _=>z.toNat,⟨X.length,rfl,hj,WO _,by rw [hxs] at h; simpa using h⟩,?_⟩
  clear h
  rintro _ _ w17 ⟨k,rfl,hik,hk,h⟩
  refine ae (λh3=>?_) λh3=>?_
  rotate_left
  ·have h3:k = i':=by have:=Ws h3; omega
   subst h3
   have hXs:jT fq (X.take k ++ X.drop k):=by rw [WX]; exact hsX
   refine ⟨rfl,X.take k ++ y :: X.drop k,?_,Gb hXs (λx hx=>?_) (λx hx=>?_),by simpa using h⟩
   ·refine Xo.trans ?_
    rw [WX]
    exact (List.perm_append_singleton y X).symm
   ·have hk0:0 < k:=Ys λe=>by subst e; simp at hx
    rw [Yt,WV,show min k X.length - 1 = k - 1 by omega,XB,WJ (by omega)] at hx
    exact hlo x hk0 hx
   ·rw [List.head?_eq_getElem?,W8,Nat.add_zero] at hx
    exact Int.le_of_lt (hhi x hx)
  have h3:i' < k:=by have:=Wr h3; omega
  obtain ⟨k,rfl⟩ : ∃ k',k = k' + 1:=⟨k - 1,by omega⟩
  intro w18 hd
  have h:=h.eq (aB hd)
  obtain ⟨x,hx⟩ : ∃ x,X[k]? = some x:=⟨_,Wv (by omega)⟩
  obtain ⟨D,hD⟩ : ∃ D,D = A ++ (X.take (k + 1) ++ y :: (X.drop (k + 1) ++ C)):=⟨_,rfl⟩
  rw [<- hD] at h
  have lk:(A ++ X.take k).length = A.length + k:=by simp; omega
  have e1:D = (A ++ X.take k) ++ x :: ([] ++ y :: (X.drop (k + 1) ++ C)):=by rw [hD,Wz,hx]; simp
  have g1:D[A.length + k]? = some x:=by rw [e1]; exact mw lk.symm
  have g2:D[A.length + (k + 1)]? = some y:=by
   rw [e1,show (A ++ X.take k) ++ x :: ([] ++ y :: (X.drop (k + 1) ++ C)) = ((A ++ X.take k) ++ [x]) ++ y :: (X.drop (k + 1) ++ C) by simp]
   exact mw (by rw [WA,lk]; rfl)
  have hDn:=Gf h
  have b1:A.length + k < n:=by rw [hDn]; exact (Wt.1 g1).1
  have b2:A.length + (k + 1) < n:=by rw [hDn]; exact (Wt.1 g2).1
  obtain ⟨ad,ho,r1⟩:=Ka h g1
  obtain ⟨ad',ho',r2⟩:=Ka h g2
  rw [ho] at ho'; cases ho'
  have z1:((A.length + (k + 1):Nat):Int) - 1 = ((A.length + k:Nat):Int):=by simp; omega
  rw [z1]
  refine ⟨λu=>hp u = hp w18,rfl,⟨by omega,by omega⟩,⟨by omega,by omega⟩,aq ho b1 ⟨_,_,_,_,_,λu e=>r1.at (by rw [e]; exact sub.refl _) rfl,aq ho b2 ⟨_,_,_,_,_,λu e=>r2.at (by rw [e]; exact sub.refl _) rfl,aq ho b2 (SH (x:=x) h ho (by omega) λw21 h=>aq ho b1 (SH (x:=y) h ho (by rw [W1]; omega) λw22 h=>⟨⟨by omega,by omega⟩,⟨k,rfl,by omega,by omega,?_⟩,?_⟩))⟩⟩⟩
  ·have eX:X.drop k = x :: X.drop (k + 1):=by rw [W_ (by omega)]; congr 1; rw [Wv (by omega)] at hx; exact Option.some.inj hx
   have e2:(D.set (A.length + (k + 1)) x).set (A.length + k) y = A ++ (X.take k ++ y :: (X.drop k ++ C)):=by
    rw [List.set_comm _ _ (by omega),e1,ya lk.symm (by rw [lk]; rfl),eX]; simp
   rw [e2] at h
   exact h
  ·show ((A.length + k:Nat):Int).toNat < ((A.length + (k + 1):Nat):Int).toNat
   omega
 have h4:Y.length≠1:=Ws h4
 -- the halves
 obtain ⟨H,hH⟩ : ∃ H,H = (X.length + Y.length) / 2:=⟨_,rfl⟩
 have hM:(A.length + (A.length + X.length + Y.length)) / 2 = A.length + H:=by omega
 have hM1:0 < H:=by omega
 have hM2:H < X.length + Y.length:=by omega
 have hM3:2 * H<=X.length + Y.length:=by omega
 have hM4:X.length + Y.length<=2 * H + 1:=by omega
 rw [Lw (by omega),hM]
 clear hH hM
 refine ⟨⟨by omega,by omega⟩,hns,⟨by omega,by omega⟩,⟨by omega,by omega⟩,λs r w'=>∃ s' r' : Nat,s = ((A.length + s' : Nat):Int)/\r = ((A.length + r' : Nat):Int)/\s'<=r'/\r'<=X.length/\r'<=H/\H - s'<=Y.length/\(s' = 0\/H - s' = Y.length)/\(r' = X.length\/r' = H)/\hp w' = hp w,?_,?_⟩
 ·refine ae (λh5=>?_) λh5=>?_
  ·have h5:H < X.length:=by have:=Wr h5; omega
   exact ⟨⟨by omega,by omega⟩,H - Y.length,H,by omega,by omega,by omega,by omega,by omega,by omega,by omega,by omega,rfl⟩
  ·have h5:X.length<=H:=by have:=Ws h5; omega
   exact ⟨0,X.length,by simp,rfl,WC _,WO _,h5,by omega,.inl rfl,.inl rfl,rfl⟩
 rintro _ _ _ w23 ⟨s0,r0,rfl,rfl,hsr,hrX,hrM,hsM,hsc,hrc,e23⟩
 have h:=h.eq e23
 obtain ⟨P,hP⟩ : ∃ P,P = A.length + H + (A.length + X.length):=⟨_,rfl⟩
 refine ⟨⟨by omega,by omega⟩,λs r w'=>∃ s' r' : Nat,s = ((A.length + s' : Nat):Int)/\r = ((A.length + r' : Nat):Int)/\s0<=s'/\s'<=r'/\r'<=r0/\Wn X Y H s0 s'/\Wo X Y H r0 r'/\St w' (own 3 o n c (cH xs) :: L),λs r _=>r.toNat - s.toNat,⟨s0,r0,rfl,rfl,WO _,hsr,WO _,.inl rfl,.inl rfl,h⟩,?_⟩
 clear h
 rintro _ _ _ w24 ⟨s,r,rfl,rfl,hs0,hsr',hr0,hlo,hhi,h⟩
 refine ae (λh5=>?_) λh5=>?_
 ·have h5:s < r:=by have:=Wr h5; omega
  rw [Lw (by omega)]
  obtain ⟨q,hq⟩ : ∃ q,q = (s + r) / 2:=⟨_,rfl⟩
  have hq2:(A.length + s + (A.length + r)) / 2 = A.length + q:=by omega
  rw [hq2]
  have hqr:q < r:=by omega
  have hqs:s<=q:=by omega
  have z1:((A.length + H:Nat):Int) + ((A.length + X.length:Nat):Int) - 1 - ((A.length + q:Nat):Int) = ((A.length + X.length + (H - q - 1):Nat):Int):=by omega
  rw [z1]
  obtain ⟨x,hx,gx⟩:=atX q (by omega)
  obtain ⟨y,hy,gy⟩:=atY (H - q - 1) (by omega)
  refine ⟨⟨by omega,by omega⟩,hns,⟨by omega,by omega⟩,λw25 hd=>?_⟩
  have h:=h.eq (aB hd)
  obtain ⟨ad,ho,ry⟩:=Ka h gy
  obtain ⟨ad',ho',rx⟩:=Ka h gx
  rw [ho] at ho'; cases ho'
  refine ⟨λu=>Gr w25 u,Gr.refl _,⟨by omega,by omega⟩,aq ho (by omega) ⟨_,_,_,_,_,λu g=>ry.at g rfl,aq ho (by omega) ⟨_,_,_,_,_,λu g=>rx.at g rfl,bJ.2 ⟨hc.1,(hc.2 y x w25 (smY y (Wu hy)) (smX x (Wu hx))).mono ?_⟩⟩⟩⟩
  rintro _ w28 ⟨t,rfl,ht,g5⟩
  have h:=h.gr g5
  refine ⟨_,rfl,g5,ae (λh3=>?_) λh3=>?_⟩
  ·have h3:¬ fq y < fq x:=λhh=>by
    have:=ht.2 hh
    simp at h3; omega
   refine ⟨⟨by omega,by omega⟩,⟨q + 1,r,by omega,rfl,by omega,by omega,hr0,.inr ⟨x,y,by rw [Nat.add_sub_cancel]; exact hx,by rw [show H - (q + 1) = H - q - 1 by omega]; exact hy,by omega⟩,hhi,h⟩,?_⟩
   show ((A.length + r:Nat):Int).toNat - (((A.length + q:Nat):Int) + 1).toNat < ((A.length + r:Nat):Int).toNat - ((A.length + s:Nat):Int).toNat
   omega
  ·have h3:fq y < fq x:=ht.1 (by simpa using h3)
   refine ⟨⟨s,q,rfl,rfl,hs0,hqs,by omega,hlo,.inr ⟨x,y,hx,hy,h3⟩,h⟩,?_⟩
   show ((A.length + q:Nat):Int).toNat - ((A.length + s:Nat):Int).toNat < ((A.length + r:Nat):Int).toNat - ((A.length + s:Nat):Int).toNat
   omega
 have h5:s = r:=by have:=Ws h5; omega
 subst h5
 obtain ⟨t,ht⟩ : ∃ t,t = H - s:=⟨_,rfl⟩
 have htY:t<=Y.length:=by omega
 have z2:((A.length + H:Nat):Int) + ((A.length + X.length:Nat):Int) - ((A.length + s:Nat):Int) = ((A.length + X.length + t:Nat):Int):=by omega
 rw [z2]
 have hXs:jT fq (X.take s ++ X.drop s):=by rw [WX]; exact hsX
 have hYs:jT fq (Y.take t ++ Y.drop t):=by rw [WX]; exact hsY
 have lX1:(X.take s).length = s:=by simp; omega
 have lX2:(X.drop s).length = X.length - s:=by simp
 have lY1:(Y.take t).length = t:=by simp; omega
 have lY2:(Y.drop t).length = Y.length - t:=by simp
 have c1:∀ x y,(X.take s).getLast? = some x->(Y.drop t).head? = some y->fq x<=fq y:=λx y hx hy=>by
  have hs1:0 < s:=Ys λe=>by subst e; simp at hx
  rw [Yt,lX1,XB,WJ (by omega)] at hx
  rw [List.head?_eq_getElem?,W8,Nat.add_zero] at hy
  rcases hlo with e | ⟨x',y',e1,e2,e3⟩
  ·have:t = Y.length:=by omega
   rw [this,WR (WO _)] at hy; cases hy
  ·rw [hx] at e1; cases e1
   rw [<- ht,hy] at e2; cases e2
   exact e3
 have c2:∀ x y,(Y.take t).getLast? = some x->(X.drop s).head? = some y->fq x<=fq y:=λx y hx hy=>by
  have ht1:0 < t:=Ys λe=>by subst e; simp at hx
  rw [Yt,lY1,XB,WJ (by omega)] at hx
  rw [List.head?_eq_getElem?,W8,Nat.add_zero] at hy
  rcases hhi with e | ⟨x',y',e1,e2,e3⟩
  ·have:s = X.length:=by omega
   rw [this,WR (WO _)] at hy; cases hy
  ·rw [hy] at e1; cases e1
   rw [<- ht,hx] at e2; cases e2
   exact Int.le_of_lt e3
 have rest:∀ w29,St w29 (own 3 o n c (cH (A ++ (X.take s ++ (Y.take t ++ (X.drop s ++ (Y.drop t ++ C)))))) :: L)->br (decide ((A.length:Int) < ((A.length + s:Nat):Int))) (br (decide (((A.length + s:Nat):Int) < ((A.length + H:Nat):Int))) (aA Tryz.prog aR [.slice o n c,.int .i64 (A.length:Int),.int .i64 ((A.length + s:Nat):Int),.int .i64 ((A.length + H:Nat):Int),.func (.func d) #[] ⟨e⟩] w29 λv4 w30=>v4 = .tuple #[]/\br (decide (((A.length + H:Nat):Int) < ((A.length + X.length + t:Nat):Int))) (br (decide (((A.length + X.length + t:Nat):Int) < ((A.length + X.length + Y.length:Nat):Int))) (aA Tryz.prog aR [.slice o n c,.int .i64 ((A.length + H:Nat):Int),.int .i64 ((A.length + X.length + t:Nat):Int),.int .i64 ((A.length + X.length + Y.length:Nat):Int),.func (.func d) #[] ⟨e⟩] w30 λv5 w31=>v5 = .tuple #[]/\((.tuple #[] : Value) = .tuple #[]/\∃ S,S.Perm (X ++ Y)/\jT fq S/\St w31 (own 3 o n c (cH (A ++ (S ++ C))) :: L))) ((.tuple #[] : Value) = .tuple #[]/\∃ S,S.Perm (X ++ Y)/\jT fq S/\St w30 (own 3 o n c (cH (A ++ (S ++ C))) :: L))) ((.tuple #[] : Value) = .tuple #[]/\∃ S,S.Perm (X ++ Y)/\jT fq S/\St w30 (own 3 o n c (cH (A ++ (S ++ C))) :: L)))
   (br (decide (((A.length + H:Nat):Int) < ((A.length + X.length + t:Nat):Int))) (br (decide (((A.length + X.length + t:Nat):Int) < ((A.length + X.length + Y.length:Nat):Int))) (aA Tryz.prog aR [.slice o n c,.int .i64 ((A.length + H:Nat):Int),.int .i64 ((A.length + X.length + t:Nat):Int),.int .i64 ((A.length + X.length + Y.length:Nat):Int),.func (.func d) #[] ⟨e⟩] w29 λv5 w31=>v5 = .tuple #[]/\((.tuple #[] : Value) = .tuple #[]/\∃ S,S.Perm (X ++ Y)/\jT fq S/\St w31 (own 3 o n c (cH (A ++ (S ++ C))) :: L))) ((.tuple #[] : Value) = .tuple #[]/\∃ S,S.Perm (X ++ Y)/\jT fq S/\St w29 (own 3 o n c (cH (A ++ (S ++ C))) :: L))) ((.tuple #[] : Value) = .tuple #[]/\∃ S,S.Perm (X ++ Y)/\jT fq S/\St w29 (own 3 o n c (cH (A ++ (S ++ C))) :: L))))
   (br (decide (((A.length + H:Nat):Int) < ((A.length + X.length + t:Nat):Int))) (br (decide (((A.length + X.length + t:Nat):Int) < ((A.length + X.length + Y.length:Nat):Int))) (aA Tryz.prog aR [.slice o n c,.int .i64 ((A.length + H:Nat):Int),.int .i64 ((A.length + X.length + t:Nat):Int),.int .i64 ((A.length + X.length + Y.length:Nat):Int),.func (.func d) #[] ⟨e⟩] w29 λv5 w31=>v5 = .tuple #[]/\((.tuple #[] : Value) = .tuple #[]/\∃ S,S.Perm (X ++ Y)/\jT fq S/\St w31 (own 3 o n c (cH (A ++ (S ++ C))) :: L))) ((.tuple #[] : Value) = .tuple #[]/\∃ S,S.Perm (X ++ Y)/\jT fq S/\St w29 (own 3 o n c (cH (A ++ (S ++ C))) :: L))) ((.tuple #[] : Value) = .tuple #[]/\∃ S,S.Perm (X ++ Y)/\jT fq S/\St w29 (own 3 o n c (cH (A ++ (S ++ C))) :: L))):=by
  intro w29 h
  -- the second half
  have second:∀ {w30:YC} {S1:List gW},S1.Perm (X.take s ++ Y.take t)->jT fq S1->St w30 (own 3 o n c (cH (A ++ (S1 ++ (X.drop s ++ (Y.drop t ++ C))))) :: L)->br (decide (((A.length + H:Nat):Int) < ((A.length + X.length + t:Nat):Int))) (br (decide (((A.length + X.length + t:Nat):Int) < ((A.length + X.length + Y.length:Nat):Int))) (aA Tryz.prog aR [.slice o n c,.int .i64 ((A.length + H:Nat):Int),.int .i64 ((A.length + X.length + t:Nat):Int),.int .i64 ((A.length + X.length + Y.length:Nat):Int),.func (.func d) #[] ⟨e⟩] w30 λv5 w31=>v5 = .tuple #[]/\((.tuple #[] : Value) = .tuple #[]/\∃ S,S.Perm (X ++ Y)/\jT fq S/\St w31 (own 3 o n c (cH (A ++ (S ++ C))) :: L))) ((.tuple #[] : Value) = .tuple #[]/\∃ S,S.Perm (X ++ Y)/\jT fq S/\St w30 (own 3 o n c (cH (A ++ (S ++ C))) :: L))) ((.tuple #[] : Value) = .tuple #[]/\∃ S,S.Perm (X ++ Y)/\jT fq S/\St w30 (own 3 o n c (cH (A ++ (S ++ C))) :: L)):=by
   intro w30 S1 p1 s1 h
   have l1:S1.length = s + t:=by rw [p1.length_eq,WA,lX1,lY1]
   have fin:∀ {w31:YC} {S2:List gW},S2.Perm (X.drop s ++ Y.drop t)->jT fq S2->St w31 (own 3 o n c (cH (A ++ (S1 ++ (S2 ++ C)))) :: L)->∃ S,S.Perm (X ++ Y)/\jT fq S/\St w31 (own 3 o n c (cH (A ++ (S ++ C))) :: L):=λ{w31 S2} p2 s2 h=>by
    obtain ⟨q1,q2⟩:=J9 hXs hYs c1 c2 p1 s1 p2 s2
    rw [WX,WX] at q2
    exact ⟨S1 ++ S2,q2,q1,by rw [WG]; exact h⟩
   refine ae (λh6=>?_) λh6=>?_
   rotate_left
   ·have:X.drop s = []:=WU (by have:=Ws h6; omega)
    exact ⟨rfl,fin (S2:=X.drop s ++ Y.drop t) (.refl _) (by rw [this,Xd]; exact (fG.1 hYs).2.1) (by simpa using h)⟩
   have h6:s < X.length:=by have:=Wr h6; omega
   refine ae (λh7=>?_) λh7=>?_
   rotate_left
   ·have:Y.drop t = []:=WU (by have:=Ws h7; omega)
    exact ⟨rfl,fin (S2:=X.drop s ++ Y.drop t) (.refl _) (by rw [this,W2]; exact (fG.1 hXs).2.1) (by simpa using h)⟩
   have h7:t < Y.length:=by have:=Wr h7; omega
   refine (ih (A:=A ++ S1) (X:=X.drop s) (Y:=Y.drop t) (C:=C) h (by simp) (by simp; omega) (by simp; omega) (by simp; omega) (λhh=>by rw [hh] at lX2; simp at lX2; omega) (λhh=>by rw [hh] at lY2; simp at lY2; omega) (by rw [lX2,lY2]; omega) (fG.1 hXs).2.1 (fG.1 hYs).2.1 (λz hz=>?_) (by simp [l1]; omega)).mono ?_
   ·rcases Wy.1 hz with hz | hz
    ·exact smX z (XH hz)
    ·exact smY z (XH hz)
   rintro _ w31 ⟨rfl,S2,p2,s2,h⟩
   exact ⟨rfl,rfl,fin p2 s2 (by simpa using h)⟩
  refine ae (λh6=>?_) λh6=>?_
  rotate_left
  ·have:X.take s = []:=WU (by rw [lX1]; have:=Ws h6; omega)
   exact second (S1:=X.take s ++ Y.take t) (.refl _) (by rw [this,Xd]; exact (fG.1 hYs).1) (by simpa using h)
  have h6:0 < s:=by have:=Wr h6; omega
  refine ae (λh7=>?_) λh7=>?_
  rotate_left
  ·have:Y.take t = []:=WU (by rw [lY1]; have:=Ws h7; omega)
   exact second (S1:=X.take s ++ Y.take t) (.refl _) (by rw [this,W2]; exact (fG.1 hXs).1) (by simpa using h)
  have h7:0 < t:=by have:=Wr h7; omega
  refine (ih (A:=A) (X:=X.take s) (Y:=Y.take t) (C:=X.drop s ++ (Y.drop t ++ C)) h rfl rfl (by simp; omega) (by simp; omega) (λhh=>by rw [hh] at lX1; simp at lX1; omega) (λhh=>by rw [hh] at lY1; simp at lY1; omega) (by rw [lX1,lY1]; omega) (fG.1 hXs).1 (fG.1 hYs).1 (λz hz=>?_) (by simp; omega)).mono ?_
  ·rcases Wy.1 hz with hz | hz
   ·exact smX z (Yy hz)
   ·exact smY z (Yy hz)
  rintro _ w30 ⟨rfl,S1,p1,s1,h⟩
  exact ⟨rfl,second p1 s1 h⟩
 refine ⟨⟨by omega,by omega⟩,λw'=>St w' (own 3 o n c (cH (A ++ (X.take s ++ (Y.take t ++ (X.drop s ++ (Y.drop t ++ C)))))) :: L),?_,λ_ w29 h=>rest w29 h⟩
 have exs:xs = A ++ (X.take s ++ (X.drop s ++ (Y.take t ++ (Y.drop t ++ C)))):=by
  rw [hxs,<- WG (X.take s),WX,<- WG (Y.take t),WX]
 refine ae (λh6=>?_) λh6=>?_
 rotate_left
 ·have:X.drop s = []:=WU (by have:=Ws h6; omega)
  rw [exs,this] at h
  rw [this]
  simpa using h
 have h6:s < X.length:=by have:=Wr h6; omega
 refine ae (λh7=>?_) λh7=>?_
 rotate_left
 ·have:Y.take t = []:=WU (by rw [lY1]; have:=Ws h7; omega)
  rw [exs,this] at h
  rw [this]
  simpa using h
 have h7:0 < t:=by have:=Wr h7; omega
 refine (PB (A:=A ++ X.take s) (X:=X.drop s) (Y:=Y.take t) (C:=Y.drop t ++ C) h (by rw [exs]; simp) (by simp; omega) (by simp; omega) (by simp; omega) (λhh=>by rw [hh] at lX2; simp at lX2; omega) (λhh=>by rw [hh] at lY1; simp at lY1; omega) hn).mono ?_
 rintro _ w29 ⟨rfl,h⟩
 exact ⟨rfl,by simpa using h⟩
end
section
variable {w:YC} {L:List ay} {o:YB} {n c:Nat} {d:FuncId} {e:List Value}
theorem PD {xs:List gW} (hc:RV d e) (h:St w (own 3 o n c (cH xs) :: L)) (hs:∀ x∈xs,IH x) (hn:n<=100000) :
  aA Tryz.prog iW [.slice o n c,.int .i64 (n:Int),.func (.func d) #[] ⟨e⟩] w λv w'=>v = .tuple #[]/\∃ ys,ys.Perm xs/\jT fq ys/\St w' (own 3 o n c (cH ys) :: L):=by
 have hnl:=Gf h
 refine hZ ⟨λa b w'=>∃ D E:List gW,a = (D.length:Int)/\b = (D.length:Int) + 20/\(D ++ E).Perm xs/\T5 fq 20 D/\St w' (own 3 o n c (cH (D ++ E)) :: L),λa _ _=>n - a.toNat,⟨[],xs,rfl,rfl,.refl _,.nil,h⟩,?_⟩
 clear h
 rintro _ _ _ w1 ⟨D,E,rfl,rfl,hp,hF,h⟩
 have hpl:D.length + E.length = xs.length:=by have:=hp.length_eq; simpa using this
 have smE:∀ x∈E,IH x:=λx hx=>hs x (hp.mem_iff.1 (by simp [hx]))
 refine ae (λh1=>?_) λh1=>?_
 ·have h1:D.length + 20<=n:=by have:=Wr h1; omega
  have l1:(E.take 20).length = 20:=by rw [WV]; omega
  refine (Im (A:=D) (X:=E.take 20) (C:=E.drop 20) hc h (by rw [WX]) rfl (by rw [l1]; simp) (λx hx=>smE x (Yy hx)) (by simp; omega)).mono ?_
  rintro _ w2 ⟨rfl,S,pS,sS,h⟩
  have lS:S.length = 20:=by rw [pS.length_eq,l1]
  refine ⟨rfl,⟨by omega,by omega⟩,⟨D ++ S,E.drop 20,by simp [lS],by simp [lS],?_,.snoc D S hF lS sS,by simpa using h⟩,?_⟩
  ·refine List.Perm.trans ?_ hp
   rw [WG]
   refine Yd _ ?_
   exact (pS.append_right _).trans (by rw [WX])
  ·show n - ((D.length:Int) + 20).toNat < n - (D.length:Int).toNat
   omega
 have h1:n < D.length + 20:=by have:=Ws h1; omega
 refine (Im (A:=D) (X:=E) (C:=[]) hc h (by simp) rfl (by omega) smE (by simp; omega)).mono ?_
 rintro _ w3 ⟨rfl,S,pS,sS,h⟩
 have lS:S.length = E.length:=pS.length_eq
 have hR0:Kb fq 20 (D ++ S):=hF.V7 S (.last S (by omega) sS)
 have hp0:(D ++ S).Perm xs:=(Yd _ pS).trans hp
 refine ⟨rfl,λz w'=>∃ (bs:Nat) (ys:List gW),z = bs/\20<=bs/\bs<=200000/\ys.Perm xs/\Kb fq bs ys/\St w' (own 3 o n c (cH ys) :: L),λz _=>n - z.toNat,⟨20,D ++ S,rfl,WO _,by omega,hp0,hR0,by simpa using h⟩,?_⟩
 clear h hp hF hp0 hR0 pS sS lS hpl smE h1
 rintro _ _ w4 ⟨bs,ys,rfl,hb20,hbM,hp,hR,h⟩
 have hyl:ys.length = n:=by rw [hp.length_eq]; exact hnl.symm
 refine ae (λh1=>?_) λh1=>?_
 rotate_left
 ·have h1:n<=bs:=by have:=Ws h1; omega
  exact ⟨rfl,ys,hp,hR.PC (by omega),h⟩
 have h1:bs < n:=by have:=Wr h1; omega
 have z0:2 * (bs:Int) = ((2 * bs:Nat):Int):=by simp
 rw [z0]
 refine ⟨⟨by omega,by omega⟩,λa b w'=>∃ D E:List gW,a = (D.length:Int)/\b = ((D.length + 2 * bs:Nat):Int)/\(D ++ E).Perm xs/\T5 fq (2 * bs) D/\Kb fq bs E/\St w' (own 3 o n c (cH (D ++ E)) :: L),λa _ _=>n - a.toNat,⟨[],ys,rfl,by simp,hp,.nil,hR,h⟩,?_⟩
 clear h hp hR hyl
 rintro _ _ _ w5 ⟨D,E,rfl,rfl,hp,hF,hR,h⟩
 have hpl:D.length + E.length = xs.length:=by have:=hp.length_eq; simpa using this
 have smE:∀ x∈E,IH x:=λx hx=>hs x (hp.mem_iff.1 (by simp [hx]))
 refine ae (λh2=>?_) λh2=>?_
 ·have h2:D.length + 2 * bs<=n:=by have:=Wr h2; omega
  obtain ⟨X,m,rfl,hX,sX,hm,_⟩:=hR.cut (by omega)
  have hml:bs<=m.length:=by simp at hpl; omega
  obtain ⟨Y,E',rfl,hY,sY,hE'⟩ : ∃ Y E',m = Y ++ E'/\Y.length = bs/\jT fq Y/\Kb fq bs E':=by
   by_cases e:m.length = bs
   ·exact ⟨m,[],by simp,e,hm.PC (by omega),.last [] (WC _) .nil⟩
   ·obtain ⟨Y,E',q1,q2,q3,q4,_⟩:=hm.cut (by omega)
    exact ⟨Y,E',q1,q2,q3,q4⟩
  refine ⟨⟨by omega,by omega⟩,(CX hc (X.length + Y.length) (A:=D) (X:=X) (Y:=Y) (C:=E') h (by simp) rfl (by rw [hX]; simp) (by rw [hX,hY]; omega) (λhh=>by rw [hh] at hX; simp at hX; omega) (λhh=>by rw [hh] at hY; simp at hY; omega) (WO _) sX sY (λx hx=>smE x ?_) (by simp at hpl ⊢; omega)).mono ?_⟩
  ·rcases Wy.1 hx with hx | hx <;> simp [hx]
  rintro _ w6 ⟨rfl,S,pS,sS,h⟩
  have lS:S.length = 2 * bs:=by rw [pS.length_eq,WA]; omega
  refine ⟨rfl,⟨by omega,by omega⟩,⟨by omega,by omega⟩,⟨D ++ S,E',by simp [lS],by simp [lS],?_,.snoc D S hF lS sS,hE',by simpa using h⟩,?_⟩
  ·refine List.Perm.trans ?_ hp
   rw [WG]
   refine Yd _ ?_
   rw [<- WG]
   exact pS.append_right _
  ·show n - ((D.length + 2 * bs:Nat):Int).toNat < n - (D.length:Int).toNat
   omega
 have h2:n < D.length + 2 * bs:=by have:=Ws h2; omega
 have z1:(D.length:Int) + (bs:Int) = ((D.length + bs:Nat):Int):=by simp
 rw [z1]
 have next:∀ {w' : YC} {S:List gW},S.Perm E->jT fq S->St w' (own 3 o n c (cH (D ++ S)) :: L)->ax ((bs:Int) * 2)/\(∃ (bs' : Nat) (ys:List gW),(bs:Int) * 2 = bs'/\20<=bs'/\bs'<=200000/\ys.Perm xs/\Kb fq bs' ys/\St w' (own 3 o n c (cH ys) :: L))/\n - ((bs:Int) * 2).toNat < n - (bs:Int).toNat:=λ{w' S} pS sS h=>by
  have lS:=pS.length_eq
  refine ⟨⟨by omega,by omega⟩,⟨2 * bs,D ++ S,by omega,by omega,by omega,(Yd _ pS).trans hp,hF.V7 S (.last S (by omega) sS),h⟩,by omega⟩
 refine ⟨⟨by omega,by omega⟩,ae (λh3=>?_) λh3=>?_⟩
 ·have h3:D.length + bs < n:=by have:=Wr h3; omega
  obtain ⟨X,Y,rfl,hX,sX,hY,hY0⟩:=hR.cut (by omega)
  have hYl:Y.length < bs:=by simp at hpl; omega
  refine (CX hc (X.length + Y.length) (A:=D) (X:=X) (Y:=Y) (C:=[]) h (by simp) rfl (by rw [hX]) (by simp at hpl; omega) (λhh=>by rw [hh] at hX; simp at hX; omega) hY0 (WO _) sX (hY.PC (by omega)) smE (by simp at hpl ⊢; omega)).mono ?_
  rintro _ w7 ⟨rfl,S,pS,sS,h⟩
  exact ⟨rfl,next pS sS (by simpa using h)⟩
 ·exact next (.refl E) (hR.PC (by have:=Ws h3; omega)) h
theorem PE:RV mz []:=by
 refine ⟨rfl,λx y u hx hy=>?_⟩
 obtain ⟨x1,x2⟩:=hx
 obtain ⟨y1,y2⟩:=hy
 refine u9 (ah (St.all u) λk1 w1 h=>ah h λk2 w2 h=>?_)
 refine ⟨_,(ai 1 h.l).cell (sub.refl _) (j:=1) rfl,_,(ai 0 h.l).cell (sub.refl _) (j:=1) rfl,⟨by omega,by omega⟩,_,rfl,?_,aU 2 h.l⟩
 show x.1.2 - y.1.2 < 0↔x.1.2 < y.1.2
 omega
theorem PF {xs:List gW} (h:St w (own 3 o xs.length c (cH xs) :: aG (ny xs) :: L)) (hs:∀ x∈xs,IH x) (hn:xs.length<=100000) :
  aA Tryz.prog dX [.slice o xs.length c,.func (.func mz) #[] #[]] w λv w'=>v = .tuple #[]/\∃ ys:List gW,ys.Perm xs/\jT fq ys/\St w' (own 3 o xs.length c (cH ys) :: aG (ny ys) :: L):=by
 refine dL ((PD PE h hs hn).mono ?_)
 rintro _ w' ⟨rfl,ys,p,s,h⟩
 refine ⟨rfl,rfl,ys,p,s,?_⟩
 have h1:=St.flat.1 (h.pick 2 [1,0])
 have h2:=h1.perm ((p.map λb=>dp 1 iv b.2).symm.append_right _)
 exact (St.flat.2 h2).pick 2 [1,0]
end
end Go.Proofs.YtndaepmjkbmjmaaGreatDoor
namespace Go.V
section
variable {g:af} {nn:List Bool} {ss:List SQ}
theorem zG {q:Nat} {es:List aP}:(my g q es).length<=es.length:=by
 unfold my; rw [WE]; exact W6 _ _
theorem MJ {q:Nat} {K:List ag}:(tL q K).length<=1:=by unfold tL; split <;> simp
theorem EJ (h:∀ q∈ss,q.2.2.length<=130):∀ n,(lC g ss n).length<=n * 131
 | 0=>by simp [lC]
 | n + 1=>by
  rw [CQ,WA]
  have h1:=EJ h n
  have h2:(yb g ss n).length<=131:=by
   unfold yb
   split
   ·rename_i r hr
    have:=h r (Wu hr)
    have:=zG (g:=g) (q:=n) (es:=r.2.2)
    have:=MJ (q:=n) (K:=r.1.2)
    rw [WA]; omega
   ·simp
  omega
theorem EK {l:bG} {n:Nat}:(tM l n).length<=n:=by unfold tM; simp; omega
theorem EL {ls:List bG} (h:∀ l∈ls,l.tm.length<=65):∀ n,(oH ls n).length<=n * 65
 | 0=>by simp [oH]
 | n + 1=>by
  have h1:=EL h n
  cases hl:ls[n]? with
  | none =>
   have e:ls.take (n + 1) = ls.take n:=by rw [Wz,hl]; simp
   unfold oH at h1 ⊢
   rw [e]; omega
  | some l =>
   rw [CS hl,WA]
   have h2:=EK (l:=l) (n:=l.tm.length)
   have h3:=h l (Wu hl)
   omega
def VQ (g:af) (nn:List Bool) (ss:List SQ) (ps:List (dW × Lq bS)):Prop:=(ps.map Prod.fst).Nodup/\∀ q t:Nat,q < ss.length->t < g.T->gq ⟨(q:Int),(t:Int)⟩ ps = cP g nn ss q t
end
theorem V8 {w:YC} {L:List ay} {ds:List gW} {i:Nat} {b:gW} (h:St w (aG (ny ds) :: L)) (hb:ds[i]? = some b):a_ (hp w) b.2.2 b.2.1.1 b.2.2.length:=by
 have hA:(ny ds)[i]? = some (dp 1 iv b.2):=by unfold ny; rw [Wx,hb]; rfl
 have h2:=St.out h hA
 exact dS rfl (fB 0 h2.l)
end Go.V
namespace Go.Proofs.YtndaepmjkbmjmaaGreatDoor
variable {w:YC} {L:List ay} {g:af} {x:GA}
theorem PG {xs:List ag} {a:YB} {l c:Nat} {d e:Int} (hr:a_ (hp w) xs a l) (hb:l<=4611686018427387904):aA Tryz.prog fM [.slice a l c,.agg #[.int .i64 d,.int .i64 e]] w λv w'=>v = .bool (decide ((⟨d,e⟩ : ag)∈xs))/\Gr w w':=by
 have hl:=hr.1
 refine fe (ah (St.all w) λk1 w1 h=>?_)
 have g1:Gr w w1:=h.aZ
 refine ⟨_,_,(ai 0 h.l).at (sub.refl _) rfl,?_⟩
 clear h
 have hr:=hr.mono g1
 have key:aA Tryz.prog iu [.slice a l c,.agg #[.int .i64 d,.int .i64 e]] w1 λv w'=>∃ z:Int,v = .int .i64 z/\(0<=z↔(⟨d,e⟩ : ag)∈xs)/\Gr w1 w':=by
  refine gd (ah (St.all w1) λk2 w2 h=>?_)
  have g2:Gr w1 w2:=h.aZ
  have rk:av (hp w2) (aM k2) [.int .i64 d,.int .i64 e]:=ai 0 h.l
  clear h
  have hr:=hr.mono g2
  refine ⟨λz w'=>∃ j:Nat,z = j/\j<=l/\(⟨d,e⟩ : ag)∉xs.take j/\hp w' = hp w2,λz _=>l - z.toNat,⟨0,rfl,WC _,by simp,rfl⟩,?_⟩
  rintro _ _ w3 ⟨j,rfl,hj,hno,e3⟩
  refine ae (λh1=>?_) λh1=>?_
  rotate_left
  ·have h1:j = l:=by have:=Ws h1; omega
   rw [WN (by omega)] at hno
   exact ⟨-1,rfl,⟨λh=>by omega,λh=>absurd h hno⟩,g2.trans (Gr.of_eq e3)⟩
  have h1:j < l:=by have:=Wr h1; omega
  obtain ⟨y,ad,hy,rfl,ry⟩:=ot hr h1
  intro w4 hd
  have e4:hp w4 = hp w2:=(aB hd).trans e3
  have sb:∀ u:YC,hp u = hp w2->sub (hp w2) (hp u):=λu e=>by rw [e]; exact sub.refl _
  refine ⟨λu=>hp u = hp w2,e4,_,_,λu e=>rk.at (sb u e) rfl,aq rfl h1 ⟨_,_,λu e=>ry.at (sb u e) rfl,_,λu _=>Cd u _ _ ⟨d,e⟩ y,_,rfl,ae (λh2=>?_) λh2=>?_⟩⟩
  ·have h2:=Wr h2
   exact ⟨j,rfl,⟨λ_=>by rw [h2]; exact Wu hy,λ_=>W7 _⟩,g2.trans (Gr.of_eq e4)⟩
  ·have h2:=Ws h2
   refine ⟨⟨by omega,by omega⟩,⟨j + 1,by simp,h1,λhm=>?_,e4⟩,bx h1⟩
   rw [Wz,hy,Wy] at hm
   rcases hm with hm | hm
   ·exact hno hm
   ·simp at hm; exact h2 hm
 refine key.mono ?_
 rintro _ w' ⟨z,rfl,hz,g⟩
 refine ⟨z,rfl,?_,g1.trans g⟩
 rw [show decide (0<=z) = decide ((⟨d,e⟩ : ag)∈xs) from decide_eq_decide.2 hz]
theorem Io (hg:gR (hp w) g x) (hb:ik g) (ht:eF (hp w)):aA Tryz.prog CW [.agg ⟨x.cells⟩] w λv w'=>∃ (ss:List SQ) (ask int f:Int) (nn:List Bool) (b:Option Nat) (z:Int),v = .tuple #[.map b,.int .i64 z,.int .i64 f]/\qY g ss ask int f/\(f = 0->jb g nn)/\Gr w w'/\(f = 0->∃ (k:Nat) (ps:List (dW × Lq bS)),b = some k/\z = (ss.length:Int)/\VQ g nn ss ps/\St w' (mapA k (mV ps) :: aG (mO 2 ng ps) :: all w)):=by
 refine zE (cN hg λk1 w1 gw hg1 B=>?_)
 refine ⟨_,_,_,_,_,_,_,_,_,_,_,_,_,B.row (sub.refl _),(Cn hg1 hb).mono ?_⟩
 rintro _ w2 ⟨o,c,ss,ask,int,f,rfl,hR,h3⟩
 have g12:Gr w1 w2:=aU 3 h3.l
 have hs:xE (hp w2) ss o:=ui h3.l
 clear h3
 refine ⟨_,_,_,_,_,_,rfl,ah (St.all w2) λk12 w3 h=>bu h rfl (by simp [aV]) λw4 h=>?_⟩
 have g24:Gr w2 w4:=h.aZ
 have r12:av (hp w4) (aM k12) [.slice o ss.length c,.int .i64 ask,.int .i64 int]:=ai 0 h.l
 clear h
 have g14:=g12.trans g24
 refine ae (λh1=>?_) λh1=>?_
 ·have h1:f≠0:=by simpa using h1
  exact ⟨ss,ask,int,f,[],none,0,rfl,hR,λh=>absurd h h1,gw.trans g14,λh=>absurd h h1⟩
 have h1:f = 0:=by simpa using h1
 subst h1
 obtain ⟨hc,hA⟩:=hR.Mv rfl
 have hkl:=hA.yX hc
 have h256:=hA.dn.2.1
 obtain ⟨sT,sN,sP,_,_,_⟩:=hc.ct
 have tl:=hg.t.1
 refine ⟨_,_,_,_,_,_,_,_,_,_,_,_,_,B.row g14,(T0 (hg1.mono g14) hb (eJ.mono (gw.trans g14) ht)).mono ?_⟩
 rintro _ w5 ⟨ss2,ask2,int2,f2,nn,oS,cS,ds,rfl,hR2,hn,hds,h⟩
 obtain ⟨_,hes,_,_,ef,_⟩:=hR.one hR2
 subst ef
 rw [EA hes.symm] at hds
 have hnn:=hn rfl
 refine ⟨_,_,_,_,rfl,ae (λh1=>by simp at h1) λ_=>?_⟩
 obtain ⟨hbl,_⟩:=A_ hc hA
 have hdl:ds.length<=24832:=by
  have:=congrArg List.length hds
  rw [WE,wq] at this
  omega
 have hlk:∀ l∈bq g nn ss,l.tm.length<=65:=λl hl=>by
  obtain ⟨b,_,rfl⟩:=WS.1 hl
  exact W0 Ii sT
 have hs:=hs.mono g24
 have hel:∀ q∈ss,q.2.2.length<=130:=λq hq=>(hkl q hq).2
 have pS:∀ n,n<=ss.length->(lC g ss n).length<=33536:=λn hn=>by have:=EJ (g:=g) hel n; omega
 have smD:∀ b∈ds,IH b:=λb hb=>by
  have hm:jd b∈bq g nn ss:=by rw [<- hds]; exact List.mem_map_of_mem hb
  obtain ⟨q,m,_,hm2,_,e⟩:=yc hm
  have e:b.1.2 = (m:Int):=congrArg bG.prod e
  unfold IH; omega
 refine ml h λk23 w6 h=>?_
 have h:St w6 (mapA k23 (mV ([] : List (dW × Lq bS))) :: own 3 oS ds.length cS (cH ds) :: aG (ny ds) :: all w4):=dD h
 have h:St w6 (mapA k23 (mV ([] : List (dW × Lq bS))) :: aG (mO 2 ng ([] : List (dW × Lq bS))) :: own 3 oS ds.length cS (cH ds) :: aG (ny ds) :: all w4):=((St.flat (M:=[])).2 h).pick 2 [1,0]
 refine ⟨_,_,_,r12.cell0 (aU 4 h.l),λz w'=>∃ (q:Nat) (ps:List (dW × Lq bS)),z = q/\q<=ss.length/\AH ps (lC g ss q)/\St w' (mapA k23 (mV ps) :: aG (mO 2 ng ps) :: own 3 oS ds.length cS (cH ds) :: aG (ny ds) :: all w4),λz _=>ss.length - z.toNat,⟨0,[],rfl,WC _,AH.nil,h⟩,?_⟩
 clear h
 rintro _ _ w7 ⟨q,ps,rfl,hq,hG,h⟩
 refine ae (λh1=>?_) λh1=>?_
 ·have h1:q < ss.length:=by have:=Wr h1; omega
  obtain ⟨r,hr⟩ : ∃ r,ss[q]? = some r:=⟨_,Wv h1⟩
  obtain ⟨ad,ho,rs,rk,re⟩:=hs q r hr
  have hrm:=Wu hr
  have hrl:=hel r hrm
  have hkl1:=(hkl r hrm).1
  have hpq:=pS q hq
  have eS:lC g ss (q + 1) = lC g ss q ++ (my g q r.2.2 ++ tL q r.1.2):=by
   rw [CQ]; unfold yb; rw [hr]
  refine aq ho h1 ⟨_,_,_,_,_,_,rs.at (aU 4 h.l) rfl,ah h λk30 w8 h=>bu h rfl (by simp [aV]) λw9 h=>⟨_,_,_,(ai 0 h.l).cell (sub.refl _) (j:=1) rfl,?_⟩⟩
  refine ⟨λz w'=>∃ (k:Nat) (ps:List (dW × Lq bS)),z = k/\k<=r.2.2.length/\AH ps (lC g ss q ++ my g q (r.2.2.take k))/\St w' (mapA k23 (mV ps) :: aG (mO 2 ng ps) :: aK k30 (Qh r) :: own 3 oS ds.length cS (cH ds) :: aG (ny ds) :: all w4),λz _=>r.2.2.length - z.toNat,⟨0,ps,rfl,WC _,by simpa [my] using hG,h.pick 3 [1,2,0]⟩,?_⟩
  clear h hG
  rintro _ _ w10 ⟨k,ps,rfl,hk,hG,h⟩
  have hpe:=zG (g:=g) (q:=q) (es:=r.2.2.take k)
  rw [WV] at hpe
  refine ae (λh2=>?_) λh2=>?_
  ·have h2:k < r.2.2.length:=by have:=Wr h2; omega
   obtain ⟨e,ead,he,hea,re'⟩:=lr re h2
   have etk:r.2.2.take (k + 1) = r.2.2.take k ++ [e]:=by rw [Wz,he]; rfl
   refine aq hea h2 ⟨_,_,re'.at (aU 5 h.l) rfl,ah h λk33 w11 h=>bu h rfl (by simp [aV]) λw12 h=>⟨_,(ai 0 h.l).cell0 (sub.refl _),_,_,_,B.c0 (sub.trans g14 (aU 6 h.l)),ae (λh3=>?_) λh3=>?_⟩⟩
   ·have h3:e.sym < (g.T:Int):=by have:=Wr h3; rw [<- tl] at this; exact this
    refine ⟨_,(ai 0 h.l).cell0 (sub.refl _),_,(ai 0 h.l).cell (sub.refl _) (j:=1) rfl,ah h λk36 w13 h=>(Pz (q:=q) (t:=e.sym) (a:=⟨1,e.to⟩) (h.pick 2 [0]) hG (by rw [WA]; omega)).mono ?_⟩
    rintro _ w14 ⟨rfl,ps',hG',h⟩
    refine ⟨rfl,⟨by omega,by omega⟩,⟨k + 1,ps',by simp,h2,?_,h⟩,bx h2⟩
    rw [etk,CR,WJ h3,<- WG]
    exact hG'
   ·have h3:¬ e.sym < (g.T:Int):=by have:=Ws h3; rw [<- tl] at this; exact this
    refine ⟨⟨by omega,by omega⟩,⟨k + 1,ps,by simp,h2,?_,h.tail⟩,bx h2⟩
    rw [etk,CR,WB h3]
    exact hG
  have h2:k = r.2.2.length:=by have:=Ws h2; omega
  rw [h2,WT] at hG
  refine ⟨_,_,_,(ai 2 h.l).cell0 (sub.refl _),(PG (rk.mono (aU 5 h.l)) (by omega)).mono ?_⟩
  rintro _ w15 ⟨rfl,g15⟩
  have h:=h.gr g15
  refine ⟨_,rfl,ae (λh3=>ah h λk39 w16 h=>(Pz (q:=q) (t:=0) (a:=⟨3,0⟩) h hG (by rw [WA]; have:=zG (g:=g) (q:=q) (es:=r.2.2); omega)).mono ?_) λh3=>?_⟩
  ·rintro _ w17 ⟨rfl,ps',hG',h⟩
   refine ⟨rfl,⟨by omega,by omega⟩,⟨q + 1,ps',by simp,h1,?_,h.pick 3 [0,1]⟩,bx h1⟩
   have ea:tL q r.1.2 = [(⟨(q:Int),0⟩,⟨3,0⟩)]:=by unfold tL; rw [WJ (Wr h3)]
   rw [eS,ea,<- WG]
   exact hG'
  ·refine ⟨⟨by omega,by omega⟩,⟨q + 1,ps,by simp,h1,?_,h.pick 3 [0,1]⟩,bx h1⟩
   have ea:tL q r.1.2 = []:=by unfold tL; rw [WB (Ws h3)]
   rw [eS,ea,W2]
   exact hG
 have h1:q = ss.length:=by have:=Ws h1; omega
 subst h1
 have hpS:=pS ss.length (WO _)
 refine (PF (h.pick 4 [2,3,0,1]) smD (by omega)).mono ?_
 rintro _ w18 ⟨rfl,ys,pys,sys,h⟩
 have hyl:ds.length = ys.length:=pys.length_eq.symm
 rw [hyl] at h ⊢
 have pL:(ys.map jd).Perm (bq g nn ss):=by rw [<- hds]; exact pys.map _
 have sL:jT (·.prod) (ys.map jd):=by rw [jT,Xn]; exact sys
 have hyt:∀ l∈ys.map jd,l.tm.length<=65:=λl hl=>hlk l (pL.mem_iff.1 hl)
 have pL2:∀ n,n<=ys.length->(oH (ys.map jd) n).length<=24832 * 65:=λn hn=>by have:=EL hyt n; omega
 refine ⟨rfl,λz w'=>∃ (i:Nat) (ps:List (dW × Lq bS)),z = i/\i<=ys.length/\AH ps (lC g ss ss.length ++ oH (ys.map jd) i)/\St w' (mapA k23 (mV ps) :: aG (mO 2 ng ps) :: own 3 oS ys.length cS (cH ys) :: aG (ny ys) :: all w4),λz _=>ys.length - z.toNat,⟨0,ps,rfl,WC _,by simpa [oH] using hG,h.pick 4 [2,3,0,1]⟩,?_⟩
 clear h hG
 rintro _ _ w19 ⟨i,ps,rfl,hi,hG,h⟩
 refine ae (λh1=>?_) λh1=>?_
 ·have h1:i < ys.length:=by have:=Wr h1; omega
  obtain ⟨b,hb1⟩ : ∃ b,ys[i]? = some b:=⟨_,Wv h1⟩
  have hbl:(ys.map jd)[i]? = some (jd b):=by rw [Wx,hb1]; rfl
  have hbt:b.2.2.length<=65:=hyt (jd b) (Wu hbl)
  have hpi:=pL2 i hi
  obtain ⟨ad,ho,rb⟩:=Ka (h.pick 3 [2,0,1]) hb1
  refine aq ho h1 ⟨_,_,_,_,_,rb.at (sub.refl _) rfl,ah h λk42 w20 h=>bu h rfl (by simp [aV]) λw21 h=>⟨_,_,_,(ai 0 h.l).cell (sub.refl _) (j:=2) rfl,?_⟩⟩
  refine ⟨λz w'=>∃ (k:Nat) (ps:List (dW × Lq bS)),z = k/\k<=b.2.2.length/\AH ps ((lC g ss ss.length ++ oH (ys.map jd) i) ++ tM (jd b) k)/\St w' (mapA k23 (mV ps) :: aG (mO 2 ng ps) :: aK k42 (U8 b) :: own 3 oS ys.length cS (cH ys) :: aG (ny ys) :: all w4),λz _=>b.2.2.length - z.toNat,⟨0,ps,rfl,WC _,by simpa [tM] using hG,h.pick 3 [1,2,0]⟩,?_⟩
  clear h hG rb
  rintro _ _ w22 ⟨k,ps,rfl,hk,hG,h⟩
  refine ae (λh2=>?_) λh2=>?_
  ·have h2:k < b.2.2.length:=by have:=Wr h2; omega
   have rt:=V8 (h.pick 5 [4,0,1,2,3]) hb1
   obtain ⟨t,tad,ht1,hta,ht2⟩:=rt.cF h2
   have hpk:=EK (l:=jd b) (n:=k)
   refine aw hta h2 ⟨t,ht2 _ (sub.refl _),_,(ai 2 h.l).cell0 (sub.refl _),_,(ai 2 h.l).cell (sub.refl _) (j:=1) rfl,ah h λk45 w23 h=>(Pz (q:=b.1.1) (t:=t) (a:=⟨2,b.1.2⟩) h hG (by simp only [WA]; omega)).mono ?_⟩
   rintro _ w24 ⟨rfl,ps',hG',h⟩
   refine ⟨rfl,⟨by omega,by omega⟩,⟨k + 1,ps',by simp,h2,?_,h⟩,bx h2⟩
   rw [J_ (show (jd b).tm[k]? = some t from ht1),<- WG]
   exact hG'
  ·have h2:k = b.2.2.length:=by have:=Ws h2; omega
   refine ⟨⟨by omega,by omega⟩,⟨i + 1,ps,by simp,h1,?_,h.pick 3 [0,1]⟩,bx h1⟩
   rw [CS hbl,<- WG]
   rw [h2] at hG
   exact hG
 have h1:i = ys.length:=by have:=Ws h1; omega
 subst h1
 intro w25 hd
 have h:=h.eq (aB hd)
 refine ⟨λu=>hp u = hp w25,rfl,_,_,_,λu e=>r12.cell0 (by rw [e]; exact aU 4 h.l),ss,ask,int,0,nn,some k23,_,rfl,hR,λ_=>hnn,gw.trans (sub.trans g14 (aU 4 h.l)),λ_=>⟨k23,ps,rfl,rfl,⟨hG.1,λq t hq ht=>?_⟩,?_⟩⟩
 ·rw [hG.2,show ys.length = (ys.map jd).length by simp]
  exact U7 hA pL sL hq ht
 ·exact St.KM (h.pick 5 [0,1,4]) (bC (gw.trans g14))
end Go.Proofs.YtndaepmjkbmjmaaGreatDoor
namespace Go.V
abbrev rK:=(Int × Int) × Lq bS
def Lx (b:rK):List Value:=[.int .i64 b.1.1,.int .i64 b.1.2,dO b.2]
def vg (bs:List rK):List Value:=bs.flatMap Lx
def oQ (bs:List rK):List ay:=bs.map λb=>dp 2 ng b.2
def rq (b:rK):fK:=⟨b.1.1,b.1.2,b.2.2⟩
def U9 (b:rK):dW × Lq bS:=(⟨b.1.1,b.1.2⟩,b.2)
theorem Gh (bs:List rK):(vg bs).length = bs.length * 3:=mS (f:=Lx) (n:=3) (λ_=>rfl) bs
theorem Gi (xs ys:List rK):vg (xs ++ ys) = vg xs ++ vg ys:=Xe
theorem Ip {α : Type}:∀ {l1 l2:List α},l1.Nodup->(∀ x∈l1,x∈l2)->∃ l3,l2.Perm (l1 ++ l3)
 | [],l2,_,_=>⟨l2,.refl _⟩
 | a :: l1,l2,hn,hs=>by
  obtain ⟨h1,h2⟩:=Xp.1 hn
  obtain ⟨s,t,rfl⟩:=Yq (hs a (by simp))
  obtain ⟨l3,h3⟩:=Ip (l2:=s ++ t) h2 λx hx=>by
   have:=hs x (by simp [hx])
   simp only [Wy,WM] at this ⊢
   rcases this with h | rfl | h
   ·exact .inl h
   ·exact absurd hx h1
   ·exact .inr h
  exact ⟨l3,Xo.trans (.cons a h3)⟩
section
variable {g:af} {nn:List Bool} {ss:List SQ} {least:Nat} {w:YC} {L:List ay}
theorem Kc {ds:List rK} {ps:List (dW × Lq bS)} {n:Nat} (hd:ds.map rq = iq g nn ss least n) (hm:∀ d∈ds,U9 d∈ps) (h:St w (aG (mO 2 ng ps) :: L)):St w (aG (oQ ds) :: L):=by
 have hnd:(ds.map U9).Nodup:=by
  have h1:(ds.map rq).Pairwise fK.lt:=by rw [hd]; exact EI n
  rw [Xn] at h1
  rw [Xi,Xn]
  refine h1.imp λ{a b} h e=>?_
  have e1:=congrArg (λz=>z.1.st) e
  have e2:=congrArg (λz=>z.1.tm) e
  unfold fK.lt rq at h
  simp only [U9] at e1 e2
  simp only at h
  omega
 obtain ⟨l3,h3⟩:=Ip hnd (l2:=ps) λx hx=>by
  obtain ⟨d,hd,rfl⟩:=WS.1 hx
  exact hm d hd
 have hp:(mO 2 ng ps).Perm (oQ ds ++ mO 2 ng l3):=by
  have:=h3.map λq=>dp 2 ng q.2
  rw [WZ,X8] at this
  exact this
 have h1:=(St.flat.1 h).perm (hp.append_right _)
 rw [WG] at h1
 have h2:St w (aG (oQ ds) :: (mO 2 ng l3 ++ L)):=St.flat.2 h1
 have h3:St w (mO 2 ng l3 ++ (aG (oQ ds) :: L)):=h2.perm Xo.symm
 exact (St.flat.2 h3).tail
theorem MK (ps:List (dW × Lq bS)) (p:dW):∃ e:Lq bS,(assoc p (mV ps)).getD (.slice none 0 0) = dO e/\e.2 = gq p ps/\(e.2≠[]->(p,e)∈ps):=by
 rw [gv]
 unfold gq
 cases h:c_ p ps with
 | none=>exact ⟨((none,0),[]),rfl,rfl,λh=>absurd rfl h⟩
 | some e=>exact ⟨e,rfl,rfl,λ_=>Ce h⟩
end
end Go.V
namespace Go.Proofs.YtndaepmjkbmjmaaGreatDoor
variable {w:YC} {L:List ay} {g:af} {x:GA}
theorem Ly {least:Nat} (hl1:1<=least) (hl2:least<=10) (hg:gR (hp w) g x) (hb:ik g) (ht:eF (hp w)):aA Tryz.prog DJ [.agg ⟨x.cells⟩,.int .i64 (least:Int)] w λv w'=>∃ (ss:List SQ) (ask int f:Int) (nn:List Bool) (o:YB) (c:Nat) (ds:List rK),v = .tuple #[.slice o ds.length c,.int .i64 f]/\qY g ss ask int f/\(f = 0->jb g nn)/\ds.map rq = cE g nn ss least/\St w' (own 3 o ds.length c (vg ds) :: aG (oQ ds) :: all w):=by
 refine AG (cN hg λk1 w1 gw hg1 B=>?_)
 refine ⟨_,_,_,_,_,_,_,_,_,_,_,_,_,B.row (sub.refl _),(Io hg1 hb (eJ.mono gw ht)).mono ?_⟩
 rintro _ w2 ⟨ss,ask,int,f,nn,b,z,rfl,hR,hn,g12,h2⟩
 refine ⟨_,_,_,rfl,ae (λh1=>?_) λh1=>?_⟩
 ·have h1:f≠0:=by simpa using h1
  have hz:=hR.nil h1
  subst hz
  exact ⟨[],ask,int,f,[],none,0,[],rfl,hR,λh=>absurd h h1,rfl,az 3 ((St.flat (M:=[])).2 (St.here (gw.trans g12)))⟩
 have h1:f = 0:=by simpa using h1
 subst h1
 obtain ⟨hc,hA⟩:=hR.Mv rfl
 obtain ⟨k,ps,rfl,rfl,hG,h⟩:=h2 rfl
 have h256:=hA.dn.2.1
 obtain ⟨sT,sN,sP,_,_,_⟩:=hc.ct
 have tl:=hg.t.1
 have hcl:∀ n,n<=ss.length->(iq g nn ss least n).length<=16640:=λn hn=>by
  have h1:=zy (g:=g) (nn:=nn) (ss:=ss) (least:=least) (n:=n)
  have h2:n * g.T<=256 * 65:=Yg (by omega) sT
  omega
 refine ⟨λo n c z w'=>∃ (q:Nat) (ds:List rK),z = q/\q<=ss.length/\n = ds.length/\ds.map rq = iq g nn ss least q/\(∀ d∈ds,U9 d∈ps)/\St w' (own 3 o n c (vg ds) :: mapA k (mV ps) :: aG (mO 2 ng ps) :: all w1),λ_ _ _ z _=>ss.length - z.toNat,⟨0,[],rfl,WC _,rfl,rfl,λd hd=>by simp at hd,az 3 h⟩,?_⟩
 clear h
 rintro _ o6 _ c6 _ w3 ⟨q,ds,rfl,hq,rfl,hds,hdp,h⟩
 refine ae (λh1=>?_) λh1=>?_
 rotate_left
 ·have h1:q = ss.length:=by have:=Ws h1; omega
  subst h1
  have h:=Kc hds hdp (h.pick 3 [2,0])
  exact ⟨ss,ask,int,0,nn,_,_,ds,rfl,hR,hn,hds,St.KM (h.pick 2 [1,0]) (bC gw)⟩
 have h1:q < ss.length:=by have:=Wr h1; omega
 have hcq:=hcl q hq
 refine ⟨_,_,_,B.c0 (aU 3 h.l),λo n c z w'=>∃ (t:Nat) (ds:List rK),z = t/\t<=g.T/\n = ds.length/\ds.map rq = iq g nn ss least q ++ im g nn ss least q t/\(∀ d∈ds,U9 d∈ps)/\St w' (own 3 o n c (vg ds) :: mapA k (mV ps) :: aG (mO 2 ng ps) :: all w1),λ_ _ _ z _=>g.T - z.toNat,⟨0,ds,rfl,WC _,rfl,by rw [hds]; simp [im],hdp,h⟩,?_⟩
 clear h hds hdp
 rintro _ o8 _ c8 _ w4 ⟨t,ds2,rfl,ht2,rfl,hds,hdp,h⟩
 have hdl:ds2.length<=17000:=by
  have e:=congrArg List.length hds
  rw [WE,WA] at e
  have:=zx (g:=g) (nn:=nn) (ss:=ss) (least:=least) (q:=q) (n:=t)
  omega
 refine ae (λh2=>?_) λh2=>?_
 rotate_left
 ·have h2:t = g.T:=by have:=Ws h2; rw [<- tl] at this; have e:g.T = g.terms.length:=rfl; omega
  refine ⟨⟨by omega,by omega⟩,⟨q + 1,ds2,by simp,h1,rfl,?_,hdp,h⟩,bx h1⟩
  rw [hds,h2,pX]
 have h2:t < g.T:=by have:=Wr h2; rw [<- tl] at this; have e:g.T = g.terms.length:=rfl; omega
 obtain ⟨e,e1,e2,e3⟩:=MK ps ⟨(q:Int),(t:Int)⟩
 rw [hG.2 q t h1 h2] at e2
 refine (jK (κ:=dW) aQ (rfl:aj Ty _ = .map _ _) zF rfl rfl (h.pick 2 [1,0]) ⟨(q:Int),(t:Int)⟩).mono ?_
 rintro _ w5 ⟨rfl,rfl⟩
 rw [e1]
 refine ⟨_,_,_,rfl,ae (λh3=>?_) λh3=>?_⟩
 rotate_left
 ·have h3:¬ least<=(cP g nn ss q t).length:=by have:=Ws h3; rw [e2] at this; omega
  refine ⟨⟨by omega,by omega⟩,⟨t + 1,ds2,by simp,h2,rfl,?_,hdp,h⟩,bx h2⟩
  rw [js,show cellAt g nn ss least q t = [] by unfold cellAt; rw [WB h3],W2]
  exact hds
 have h3:least<=(cP g nn ss q t).length:=by have:=Wr h3; rw [e2] at this; omega
 refine ah h λk18 w6 h=>?_
 refine (aN (us:=vg ds2) aQ (rfl:aj Ty _ = .slice _) (rfl:aj Ty _ = .slice _) rfl rfl rfl h rfl (by simp [aV]) (by show (ds2.length + 1) * 40<=_; omega) (by omega)).mono ?_
 rintro _ w7 ⟨o10,c10,rfl,h⟩
 refine ⟨_,_,_,rfl,⟨by omega,by omega⟩,⟨t + 1,ds2 ++ [(((q:Int),(t:Int)),e)],by simp,h2,by simp,?_,λd hd=>?_,?_⟩,bx h2⟩
 ·rw [WZ,hds,js,WG]
  congr 2
  unfold cellAt
  rw [WJ h3,<- e2]
  rfl
 ·rcases Wy.1 hd with hd | hd
  ·exact hdp d hd
  ·rw [WW] at hd
   subst hd
   exact e3 λhh=>by rw [hh] at e2; rw [<- e2] at h3; simp at h3; omega
 ·rw [Gi]
  exact h.pick 2 [0]
theorem PH (hg:gR (hp w) g x) (hb:ik g) (ht:eF (hp w)):aA Tryz.prog tN [.agg ⟨x.cells⟩] w λv w'=>∃ (ss:List SQ) (ask int f:Int) (nn:List Bool) (o:YB) (c:Nat) (ds:List rK),v = .tuple #[.slice o ds.length c,.int .i64 f]/\qY g ss ask int f/\(f = 0->jb g nn)/\ds.map rq = cE g nn ss 1/\St w' (own 3 o ds.length c (vg ds) :: aG (oQ ds) :: all w):=by
 refine zA (cN hg λk1 w1 gw hg1 B=>?_)
 refine ⟨_,_,_,_,_,_,_,_,_,_,_,_,_,B.row (sub.refl _),(Ly (least:=1) (by decide) (by decide) hg1 hb (eJ.mono gw ht)).mono ?_⟩
 rintro _ w2 ⟨ss,ask,int,f,nn,o,c,ds,rfl,hR,hn,hds,h⟩
 exact ⟨_,_,_,_,rfl,ss,ask,int,f,nn,o,c,ds,rfl,hR,hn,hds,St.KM h (bC gw)⟩
theorem EM (hg:gR (hp w) g x) (hb:ik g) (ht:eF (hp w)):aA Tryz.prog qm [.agg ⟨x.cells⟩] w λv w'=>∃ (ss:List SQ) (ask int f:Int) (nn:List Bool) (o:YB) (c:Nat) (ds:List rK),v = .tuple #[.slice o ds.length c,.int .i64 f]/\qY g ss ask int f/\(f = 0->jb g nn)/\ds.map rq = cE g nn ss 2/\St w' (own 3 o ds.length c (vg ds) :: aG (oQ ds) :: all w):=by
 refine ye (cN hg λk1 w1 gw hg1 B=>?_)
 refine ⟨_,_,_,_,_,_,_,_,_,_,_,_,_,B.row (sub.refl _),(Ly (least:=2) (by decide) (by decide) hg1 hb (eJ.mono gw ht)).mono ?_⟩
 rintro _ w2 ⟨ss,ask,int,f,nn,o,c,ds,rfl,hR,hn,hds,h⟩
 exact ⟨_,_,_,_,rfl,ss,ask,int,f,nn,o,c,ds,rfl,hR,hn,hds,St.KM h (bC gw)⟩
def ML (g:af) (nn:List Bool) (ss:List SQ) (f q t e:Int) (acts:List bS):Prop:=(f≠0/\e = f/\acts = [])\/(f = 0/\(q < 0\/(ss.length:Int)<=q\/t < 0\/(g.T:Int)<=t)/\e = 1/\acts = [])\/(f = 0/\∃ i j:Nat,q = i/\t = j/\i < ss.length/\j < g.T/\e = 0/\acts = cP g nn ss i j)
theorem PI {q t:Int} (hg:gR (hp w) g x) (hb:ik g) (ht:eF (hp w)):aA Tryz.prog tO [.agg ⟨x.cells⟩,.int .i64 q,.int .i64 t] w λv w'=>∃ (ss:List SQ) (ask int f e:Int) (nn:List Bool) (o:YB) (c:Nat) (acts:List bS),v = .tuple #[.slice o acts.length c,.int .i64 e]/\qY g ss ask int f/\(f = 0->jb g nn)/\ML g nn ss f q t e acts/\St w' (own 2 o acts.length c (ng acts) :: all w):=by
 refine zC (cN hg λk1 w1 gw hg1 B=>?_)
 refine ⟨_,_,_,_,_,_,_,_,_,_,_,_,_,B.row (sub.refl _),(Io hg1 hb (eJ.mono gw ht)).mono ?_⟩
 rintro _ w2 ⟨ss,ask,int,f,nn,b,z,rfl,hR,hn,g12,h2⟩
 have gw2:=gw.trans g12
 refine ⟨_,_,_,rfl,ae (λh1=>?_) λh1=>?_⟩
 ·have h1:f≠0:=by simpa using h1
  exact ⟨ss,ask,int,f,f,nn,none,0,[],rfl,hR,hn,.inl ⟨h1,rfl,rfl⟩,az 2 (St.here gw2)⟩
 have h1:f = 0:=by simpa using h1
 subst h1
 obtain ⟨k,ps,rfl,rfl,hG,h⟩:=h2 rfl
 have tl:=hg.t.1
 have eT:g.T = g.terms.length:=rfl
 have no:(q < 0\/(ss.length:Int)<=q\/t < 0\/(g.T:Int)<=t)->∃ (ss' : List SQ) (ask int f e:Int) (nn:List Bool) (o:YB) (c:Nat) (acts:List bS),(.tuple #[.slice none 0 0,.int .i64 1] : Value) = .tuple #[.slice o acts.length c,.int .i64 e]/\qY g ss' ask int f/\(f = 0->jb g nn)/\ML g nn ss' f q t e acts/\St w2 (own 2 o acts.length c (ng acts) :: all w):=λh=>⟨ss,ask,int,0,1,nn,none,0,[],rfl,hR,hn,.inr (.inl ⟨rfl,h,rfl,rfl⟩),az 2 (St.here gw2)⟩
 refine ae (λh1=>no (.inl (Wr h1))) λh1=>ae (λh2=>no (.inr (.inl (Wr h2)))) λh2=>ae (λh3=>no (.inr (.inr (.inl (Wr h3))))) λh3=>⟨_,_,_,B.c0 (aU 2 h.l),ae (λh4=>no (.inr (.inr (.inr ?_)))) λh4=>?_⟩
 ·have:=Wr h4; omega
 have h1:=Ws h1
 have h2:=Ws h2
 have h3:=Ws h3
 have h4:=Ws h4
 obtain ⟨i,rfl⟩ : ∃ i:Nat,q = i:=⟨q.toNat,by omega⟩
 obtain ⟨j,rfl⟩ : ∃ j:Nat,t = j:=⟨t.toNat,by omega⟩
 have hi:i < ss.length:=by omega
 have hj:j < g.T:=by omega
 refine (jK (κ:=dW) aQ (rfl:aj Ty _ = .map _ _) zF rfl rfl h ⟨(i:Int),(j:Int)⟩).mono ?_
 rintro _ w3 ⟨rfl,rfl⟩
 obtain ⟨e,M,e1,e2,he,_⟩:=mu rfl (h.pick 2 [1,0]) ⟨(i:Int),(j:Int)⟩
 rw [hG.2 i j hi hj] at e2
 have e1:(assoc (⟨(i:Int),(j:Int)⟩ : dW) (mV ps)).getD (.slice none 0 0) = dO e:=e1
 refine ⟨_,_,_,e1,ss,ask,int,0,0,nn,e.1.1,e.1.2,e.2,rfl,hR,hn,.inr (.inr ⟨rfl,i,j,rfl,rfl,hi,hj,rfl,e2⟩),?_⟩
 exact St.qk (he.pick 4 [0,3]) (bC gw)
abbrev kF:FuncId:=4
def jR:bg:={ rngs:=[],loops:=[],joins:=[(5,[(28,(.one .bool))])],blocks:=[] }
theorem jS {a:YB} {b c:Nat} {d:YB} {e f:Nat} {g:YB} {i j:Nat} {k:Int} {l:YB} {m n:Nat} {w:YC} {R:Value->WP} (h:new w (oC [vS a b c,vS d e f,vS g i j,iI k,vS l m n] 27) λk1 w1=>∃ o1 k2 k3 o2 k4 k5 o3 k6 k7 n1 o4 k8 k9,rA w1 (aM k1) 5 [vS o1 k2 k3,vS o2 k4 k5,vS o3 k6 k7,iI n1,vS o4 k8 k9]/\rE 14 [vG [vS o1 k2 k3,vS o2 k4 k5,vS o3 k6 k7,iI n1,vS o4 k8 k9]] w1 λv1 w2=>∃ o5 k10 k11 o6 k12 k13 o7 k14 k15 n2 o8 k16 k17,v1 = vG [vS o5 k10 k11,vS o6 k12 k13,vS o7 k14 k15,iI n2,vS o8 k16 k17]/\new w2 (oC [vS none 0 0,vS none 0 0,vS none 0 0,iI 0,vS none 0 0] 27) λk18 w3=>fL w3 (aM k18) [vS o5 k10 k11,vS o6 k12 k13,vS o7 k14 k15,iI n2,vS o8 k16 k17] λw4=>∃ o9 k19 k20 o10 k21 k22 o11 k23 k24 n3 o12 k25 k26,rA w4 (aM k18) 5 [vS o9 k19 k20,vS o10 k21 k22,vS o11 k23 k24,iI n3,vS o12 k25 k26]/\rE 21 [vG [vS o9 k19 k20,vS o10 k21 k22,vS o11 k23 k24,iI n3,vS o12 k25 k26]] w4 λv2 w5=>∃ o13 k27 k28 n4,v2 = vU [vS o13 k27 k28,iI n4]/\∃ o14 k29 k30 o15 k31 k32 o16 k33 k34 n5 o17 k35 k36,rA w5 (aM k1) 5 [vS o14 k29 k30,vS o15 k31 k32,vS o16 k33 k34,iI n5,vS o17 k35 k36]/\rE 22 [vG [vS o14 k29 k30,vS o15 k31 k32,vS o16 k33 k34,iI n5,vS o17 k35 k36]] w5 λv3 w6=>∃ o18 k37 k38 n6,v3 = vU [vS o18 k37 k38,iI n6]/\∃ (x1:lP [(28,mE)]),br (n4 != n6) (x1 true w6) (rE 17 [vS o13 k27 k28,vS o18 k37 k38] w6 λv4 w7=>∃ b1,v4 = vB b1/\x1 (!b1) w7)/\∀ (I1:Nat->Value) (b2:Bool) (w8:YC),x1 b2 w8->br b2 (R (vB false) w8) (rE 18 [vS o13 k27 k28] w8 λv5 w9=>v5 = vU []/\∃ o19 k39 k40 o20 k41 k42 o21 k43 k44 n7 o22 k45 k46,rA w9 (aM k18) 5 [vS o19 k39 k40,vS o20 k41 k42,vS o21 k43 k44,iI n7,vS o22 k45 k46]/\rE 21 [vG [vS o19 k39 k40,vS o20 k41 k42,vS o21 k43 k44,iI n7,vS o22 k45 k46]] w9 λv6 w10=>∃ o23 k47 k48 n8,v6 = vU [vS o23 k47 k48,iI n8]/\br (n8 == n6) (rE 17 [vS o23 k47 k48,vS o18 k37 k38] w10 λv7 w11=>∃ b3,v7 = vB b3/\br b3 (∃ o24 k49 k50 o25 k51 k52 o26 k53 k54 n9 o27 k55 k56,rA w11 (aM k18) 5 [vS o24 k49 k50,vS o25 k51 k52,vS o26 k53 k54,iI n9,vS o27 k55 k56]/\∃ o28 k57 k58 o29 k59 k60 o30 k61 k62 n10 o31 k63 k64,rA w11 (aM k1) 5 [vS o28 k57 k58,vS o29 k59 k60,vS o30 k61 k62,iI n10,vS o31 k63 k64]/\rE 19 [vG [vS o24 k49 k50,vS o25 k51 k52,vS o26 k53 k54,iI n9,vS o27 k55 k56],vG [vS o28 k57 k58,vS o29 k59 k60,vS o30 k61 k62,iI n10,vS o31 k63 k64]] w11 λv8 w12=>∃ b4,v8 = vB b4/\br b4 (rE 20 [] w12 λv9 w13=>∃ b5,v9 = vB b5/\R (vB b5) w13) (R (vB false) w12)) (R (vB false) w11)) (R (vB false) w10))):aA Tryz.prog 4 [(.agg #[(.slice a b c),(.slice d e f),(.slice g i j),(.int .i64 k),(.slice l m n)])] w R:=rv Tryz.func4 jR (by kernel_rfl) h
abbrev nh:FuncId:=5
def lD:bg:={ rngs:=[],loops:=[],joins:=[],blocks:=[] }
theorem lE {a:YB} {b c:Nat} {d:YB} {e f:Nat} {g:YB} {i j:Nat} {k:Int} {l:YB} {m n:Nat} {o p:Int} {w:YC} {R:Value->WP} (h:new w (oC [vS a b c,vS d e f,vS g i j,iI k,vS l m n] 27) λk1 w1=>∃ o1 k2 k3 o2 k4 k5 o3 k6 k7 n1 o4 k8 k9,rA w1 (aM k1) 5 [vS o1 k2 k3,vS o2 k4 k5,vS o3 k6 k7,iI n1,vS o4 k8 k9]/\rE 14 [vG [vS o1 k2 k3,vS o2 k4 k5,vS o3 k6 k7,iI n1,vS o4 k8 k9]] w1 λv1 w2=>∃ o5 k10 k11 o6 k12 k13 o7 k14 k15 n2 o8 k16 k17,v1 = vG [vS o5 k10 k11,vS o6 k12 k13,vS o7 k14 k15,iI n2,vS o8 k16 k17]/\new w2 (oC [vS none 0 0,vS none 0 0,vS none 0 0,iI 0,vS none 0 0] 27) λk18 w3=>fL w3 (aM k18) [vS o5 k10 k11,vS o6 k12 k13,vS o7 k14 k15,iI n2,vS o8 k16 k17] λw4=>∃ o9 k19 k20 o10 k21 k22 o11 k23 k24 n3 o12 k25 k26,rA w4 (aM k18) 5 [vS o9 k19 k20,vS o10 k21 k22,vS o11 k23 k24,iI n3,vS o12 k25 k26]/\rE 23 [vG [vS o9 k19 k20,vS o10 k21 k22,vS o11 k23 k24,iI n3,vS o12 k25 k26],iI o,iI p] w4 λv2 w5=>∃ o13 k27 k28 n4,v2 = vU [vS o13 k27 k28,iI n4]/\∃ o14 k29 k30 o15 k31 k32 o16 k33 k34 n5 o17 k35 k36,rA w5 (aM k1) 5 [vS o14 k29 k30,vS o15 k31 k32,vS o16 k33 k34,iI n5,vS o17 k35 k36]/\rE 24 [vG [vS o14 k29 k30,vS o15 k31 k32,vS o16 k33 k34,iI n5,vS o17 k35 k36],iI o,iI p] w5 λv3 w6=>∃ o18 k37 k38 n6,v3 = vU [vS o18 k37 k38,iI n6]/\br (n4 == n6) (rE 25 [vS o13 k27 k28,vS o18 k37 k38] w6 λv4 w7=>∃ b1,v4 = vB b1/\br b1 (∃ o19 k39 k40 o20 k41 k42 o21 k43 k44 n7 o22 k45 k46,rA w7 (aM k18) 5 [vS o19 k39 k40,vS o20 k41 k42,vS o21 k43 k44,iI n7,vS o22 k45 k46]/\∃ o23 k47 k48 o24 k49 k50 o25 k51 k52 n8 o26 k53 k54,rA w7 (aM k1) 5 [vS o23 k47 k48,vS o24 k49 k50,vS o25 k51 k52,iI n8,vS o26 k53 k54]/\rE 19 [vG [vS o19 k39 k40,vS o20 k41 k42,vS o21 k43 k44,iI n7,vS o22 k45 k46],vG [vS o23 k47 k48,vS o24 k49 k50,vS o25 k51 k52,iI n8,vS o26 k53 k54]] w7 λv5 w8=>∃ b2,v5 = vB b2/\br b2 (rE 20 [] w8 λv6 w9=>∃ b3,v6 = vB b3/\R (vB b3) w9) (R (vB false) w8)) (R (vB false) w7)) (R (vB false) w6)):aA Tryz.prog 5 [(.agg #[(.slice a b c),(.slice d e f),(.slice g i j),(.int .i64 k),(.slice l m n)]),(.int .i64 o),(.int .i64 p)] w R:=rv Tryz.func5 lD (by kernel_rfl) h
abbrev tP:FuncId:=18
def pY:bg:={ rngs:=[],loops:=[(1,[(2,(.one (.int .i64)))]),(4,[(3,(.one (.int .i64)))])],joins:=[],blocks:=[] }
theorem pZ {a:YB} {b c:Nat} {w:YC} {R:Value->WP} (h:∃ (x1:lP [(2,aD)]),∃ (x2:lN [(2,aD)]),x1 0 w/\∀ (I1:Nat->Value) (n1:Int) (w1:YC),x1 n1 w1->br (decide (n1 < (b:Int))) (∃ (x3:lP [(3,aD)]),∃ (x4:lN [(3,aD)]),x3 0 w1/\∀ (I2:Nat->Value) (n2:Int) (w2:YC),x3 n2 w2->idx a b n1 3 λa1=>∃ o1 k1 k2,cL w2 (Addr.add a1 2) (vS o1 k1 k2)/\br (decide (n2 < (k1:Int))) (idx a b n1 3 λa2=>∃ o2 k3 k4,cL w2 (Addr.add a2 2) (vS o2 k3 k4)/\idx o2 k3 n2 2 λa3=>fL w2 a3 [iI (-1),iI (-1)] λw3=>ax (n2 + 1)/\x3 (n2 + 1) w3/\x4 (n2 + 1) w3 < x4 n2 w2) (idx a b n1 3 λa4=>fL w2 a4 [iI (-9),iI 0,vS none 0 0] λw4=>ax (n1 + 1)/\x1 (n1 + 1) w4/\x2 (n1 + 1) w4 < x2 n1 w1)) (R (vU []) w1)):aA Tryz.prog 18 [(.slice a b c)] w R:=rv Tryz.func18 pY (by kernel_rfl) h
abbrev tQ:FuncId:=20
def p8:bg:={ rngs:=[],loops:=[],joins:=[],blocks:=[] }
theorem p9  {w:YC} {R:Value->WP} (h:new w (oC [Value.string (ByteArray.mk (Array.mk [])),iI 0,Value.string (ByteArray.mk (Array.mk [43])),iI 0,Value.string (ByteArray.mk (Array.mk [110])),iI 0] 83) λk1 w1=>new w1 (oC [Value.string (ByteArray.mk (Array.mk [])),Value.string (ByteArray.mk (Array.mk [101]))] 9) λk2 w2=>new w2 (oC [iI 4] 3) λk3 w3=>new w3 (oC [iI 4,iI 1,iI 4] 3) λk4 w4=>new w4 (oC [iI 2] 3) λk5 w5=>new w5 (oC [iI 3,vS (some (aM k3)) 1 1,iI 0,iI 4,vS (some (aM k4)) 3 3,iI 0,iI 4,vS (some (aM k5)) 1 1,iI 0] 81) λk6 w6=>new w6 (oC [vS none 0 0,vS none 0 0,vS none 0 0,iI 0,vS none 0 0] 27) λk7 w7=>fL w7 (aM k7) [vS (some (aM k1)) 3 3,vS (some (aM k2)) 2 2,vS none 0 0,iI 4,vS (some (aM k6)) 3 3] λw8=>∃ o1 k8 k9 o2 k10 k11 o3 k12 k13 n1 o4 k14 k15,rA w8 (aM k7) 5 [vS o1 k8 k9,vS o2 k10 k11,vS o3 k12 k13,iI n1,vS o4 k14 k15]/\rE 15 [vG [vS o1 k8 k9,vS o2 k10 k11,vS o3 k12 k13,iI n1,vS o4 k14 k15]] w8 λv1 w9=>∃ o5 k16 k17 n2,v1 = vU [vS o5 k16 k17,iI n2]/\∃ o6 k18 k19 o7 k20 k21 o8 k22 k23 n3 o9 k24 k25,rA w9 (aM k7) 5 [vS o6 k18 k19,vS o7 k20 k21,vS o8 k22 k23,iI n3,vS o9 k24 k25]/\rE 21 [vG [vS o6 k18 k19,vS o7 k20 k21,vS o8 k22 k23,iI n3,vS o9 k24 k25]] w9 λv2 w10=>∃ o10 k26 k27 n4,v2 = vU [vS o10 k26 k27,iI n4]/\∃ o11 k28 k29 o12 k30 k31 o13 k32 k33 n5 o14 k34 k35,rA w10 (aM k7) 5 [vS o11 k28 k29,vS o12 k30 k31,vS o13 k32 k33,iI n5,vS o14 k34 k35]/\rE 23 [vG [vS o11 k28 k29,vS o12 k30 k31,vS o13 k32 k33,iI n5,vS o14 k34 k35],iI 4,iI 1] w10 λv3 w11=>∃ o15 k36 k37 n6,v3 = vU [vS o15 k36 k37,iI n6]/\br (n2 == 0) (br (n4 == 0) (br (n6 == 0) (br ((k16:Int) == 8) (br ((k26:Int) == 1) (new w11 (oC [iI 1,iI 3,iI 2,iI 1] 62) λk38 w12=>rE 25 [vS o15 k36 k37,vS (some (aM k38)) 2 2] w12 λv4 w13=>∃ b1,v4 = vB b1/\R (vB b1) w13) (R (vB false) w11)) (R (vB false) w11)) (R (vB false) w11)) (R (vB false) w11)) (R (vB false) w11)):aA Tryz.prog 20 [] w R:=rv Tryz.func20 p8 (by kernel_rfl) h
abbrev rC:FuncId:=16
def oJ:bg:={ rngs:=[],loops:=[],joins:=[],blocks:=[] }
theorem oK {a:YB} {b c:Nat} {d:YB} {e f:Nat} {g:YB} {i j:Nat} {k:Int} {l:YB} {m n:Nat} {w:YC} {R:Value->WP} (h:new w (oC [vS a b c,vS d e f,vS g i j,iI k,vS l m n] 27) λk1 w1=>∃ o1 k2 k3 o2 k4 k5 o3 k6 k7 n1 o4 k8 k9,rA w1 (aM k1) 5 [vS o1 k2 k3,vS o2 k4 k5,vS o3 k6 k7,iI n1,vS o4 k8 k9]/\rE 39 [vG [vS o1 k2 k3,vS o2 k4 k5,vS o3 k6 k7,iI n1,vS o4 k8 k9]] w1 λv1 w2=>∃ b1,v1 = vB b1/\br (!b1) (R (vU [vS none 0 0,iI 1]) w2) (∃ o5 k10 k11 o6 k12 k13 o7 k14 k15 n2 o8 k16 k17,rA w2 (aM k1) 5 [vS o5 k10 k11,vS o6 k12 k13,vS o7 k14 k15,iI n2,vS o8 k16 k17]/\rE 43 [vG [vS o5 k10 k11,vS o6 k12 k13,vS o7 k14 k15,iI n2,vS o8 k16 k17]] w2 λv2 w3=>∃ o9 k18 k19 n3 n4 n5,v2 = vU [vG [vS o9 k18 k19,iI n3,iI n4],iI n5]/\new w3 (oC [vS none 0 0,iI 0,iI 0] 45) λk20 w4=>fL w4 (aM k20) [vS o9 k18 k19,iI n3,iI n4] λw5=>br (n5 != 0) (R (vU [vS none 0 0,iI n5]) w5) (∀ w6,drawn w5 w6->∃ (I1:WP),I1 w6/\∃ o10 k21 k22 o11 k23 k24 o12 k25 k26 n6 o13 k27 k28,(∀ w7,I1 w7->rA w7 (aM k1) 5 [vS o10 k21 k22,vS o11 k23 k24,vS o12 k25 k26,iI n6,vS o13 k27 k28])/\∃ o14 k29 k30 n7 n8,(∀ w8,I1 w8->rA w8 (aM k20) 3 [vS o14 k29 k30,iI n7,iI n8])/\∃ o15 k31 k32 o16 k33 k34 o17 k35 k36 n9 o18 k37 k38,(∀ w9,I1 w9->rA w9 (aM k1) 5 [vS o15 k31 k32,vS o16 k33 k34,vS o17 k35 k36,iI n9,vS o18 k37 k38])/\∃ o19 k39 k40 n10 n11,(∀ w10,I1 w10->rA w10 (aM k20) 3 [vS o19 k39 k40,iI n10,iI n11])/\rE 45 [vG [vS o15 k31 k32,vS o16 k33 k34,vS o17 k35 k36,iI n9,vS o18 k37 k38],vG [vS o19 k39 k40,iI n10,iI n11]] w6 λv3 w11=>∃ o20,v3 = vP o20/\I1 w11/\rE 46 [vP o20] w11 λv4 w12=>∃ o21 k41 k42,v4 = vS o21 k41 k42/\I1 w12/\rE 44 [vG [vS o10 k21 k22,vS o11 k23 k24,vS o12 k25 k26,iI n6,vS o13 k27 k28],vG [vS o14 k29 k30,iI n7,iI n8],vS o21 k41 k42] w12 λv5 w13=>∃ o22 k43 k44,v5 = vS o22 k43 k44/\I1 w13/\R (vU [vS o22 k43 k44,iI 0]) w13))):aA Tryz.prog 16 [(.agg #[(.slice a b c),(.slice d e f),(.slice g i j),(.int .i64 k),(.slice l m n)])] w R:=rv Tryz.func16 oJ (by kernel_rfl) h
abbrev tR:FuncId:=17
def p_:bg:={ rngs:=[],loops:=[(4,[(5,(.one (.int .i64)))])],joins:=[],blocks:=[] }
theorem qb {a:YB} {b c:Nat} {d:YB} {e f:Nat} {w:YC} {R:Value->WP} (h:br ((b:Int) != (e:Int)) (R (vB false) w) (∃ (x1:lP [(5,aD)]),∃ (x2:lN [(5,aD)]),x1 0 w/\∀ (I1:Nat->Value) (n1:Int) (w1:YC),x1 n1 w1->br (decide (n1 < (b:Int))) (∀ w2,drawn w1 w2->∃ (I2:WP),I2 w2/\idx a b n1 3 λa1=>∃ n2,(∀ w3,I2 w3->cL w3 a1 (iI n2))/\idx d e n1 3 λa2=>∃ n3,(∀ w4,I2 w4->cL w4 a2 (iI n3))/\br (n2 != n3) (R (vB false) w2) (idx a b n1 3 λa3=>∃ n4,(∀ w5,I2 w5->cL w5 (Addr.add a3 1) (iI n4))/\idx d e n1 3 λa4=>∃ n5,(∀ w6,I2 w6->cL w6 (Addr.add a4 1) (iI n5))/\br (n4 != n5) (R (vB false) w2) (idx a b n1 3 λa5=>∃ o1 k1 k2,(∀ w7,I2 w7->cL w7 (Addr.add a5 2) (vS o1 k1 k2))/\idx d e n1 3 λa6=>∃ o2 k3 k4,(∀ w8,I2 w8->cL w8 (Addr.add a6 2) (vS o2 k3 k4))/\rE 25 [vS o1 k1 k2,vS o2 k3 k4] w2 λv1 w9=>∃ b1,v1 = vB b1/\I2 w9/\br (!b1) (R (vB false) w9) (ax (n1 + 1)/\x1 (n1 + 1) w9/\x2 (n1 + 1) w9 < x2 n1 w1)))) (R (vB true) w1))):aA Tryz.prog 17 [(.slice a b c),(.slice d e f)] w R:=rv Tryz.func17 p_ (by kernel_rfl) h
abbrev qd:FuncId:=22
def ni:bg:={ rngs:=[],loops:=[],joins:=[],blocks:=[] }
theorem nj {a:YB} {b c:Nat} {d:YB} {e f:Nat} {g:YB} {i j:Nat} {k:Int} {l:YB} {m n:Nat} {w:YC} {R:Value->WP} (h:new w (oC [vS a b c,vS d e f,vS g i j,iI k,vS l m n] 27) λk1 w1=>∃ o1 k2 k3 o2 k4 k5 o3 k6 k7 n1 o4 k8 k9,rA w1 (aM k1) 5 [vS o1 k2 k3,vS o2 k4 k5,vS o3 k6 k7,iI n1,vS o4 k8 k9]/\rE 16 [vG [vS o1 k2 k3,vS o2 k4 k5,vS o3 k6 k7,iI n1,vS o4 k8 k9]] w1 λv1 w2=>∃ o5 k10 k11 n2,v1 = vU [vS o5 k10 k11,iI n2]/\rE 29 [vS o5 k10 k11] w2 λv2 w3=>∃ o6 k12 k13,v2 = vS o6 k12 k13/\R (vU [vS o6 k12 k13,iI n2]) w3):aA Tryz.prog 22 [(.agg #[(.slice a b c),(.slice d e f),(.slice g i j),(.int .i64 k),(.slice l m n)])] w R:=rv Tryz.func22 ni (by kernel_rfl) h
abbrev rD:FuncId:=24
def oM:bg:={ rngs:=[],loops:=[(8,[(12,(.one (.int .i64)))])],joins:=[(6,[(45,(.one .bool))])],blocks:=[] }
theorem oN {a:YB} {b c:Nat} {d:YB} {e f:Nat} {g:YB} {i j:Nat} {k:Int} {l:YB} {m n:Nat} {o p:Int} {w:YC} {R:Value->WP} (h:new w (oC [vS a b c,vS d e f,vS g i j,iI k,vS l m n] 27) λk1 w1=>∃ o1 k2 k3 o2 k4 k5 o3 k6 k7 n1 o4 k8 k9,rA w1 (aM k1) 5 [vS o1 k2 k3,vS o2 k4 k5,vS o3 k6 k7,iI n1,vS o4 k8 k9]/\rE 16 [vG [vS o1 k2 k3,vS o2 k4 k5,vS o3 k6 k7,iI n1,vS o4 k8 k9]] w1 λv1 w2=>∃ o5 k10 k11 n2,v1 = vU [vS o5 k10 k11,iI n2]/\br (n2 != 0) (R (vU [vS none 0 0,iI n2]) w2) (∃ o6 k12 k13 o7 k14 k15 o8 k16 k17 n3 o9 k18 k19,rA w2 (aM k1) 5 [vS o6 k12 k13,vS o7 k14 k15,vS o8 k16 k17,iI n3,vS o9 k18 k19]/\rE 43 [vG [vS o6 k12 k13,vS o7 k14 k15,vS o8 k16 k17,iI n3,vS o9 k18 k19]] w2 λv2 w3=>∃ o10 k20 k21 n4 n5 n6,v2 = vU [vG [vS o10 k20 k21,iI n4,iI n5],iI n6]/\new w3 (oC [vS none 0 0,iI 0,iI 0] 45) λk22 w4=>fL w4 (aM k22) [vS o10 k20 k21,iI n4,iI n5] λw5=>∃ (x1:lP [(45,mE)]),br (decide (o < 0)) (x1 true w5) (∃ o11 k23 k24,cL w5 (aM k22) (vS o11 k23 k24)/\br (decide ((k23:Int)<=o)) (x1 true w5) (br (decide (p < 0)) (x1 true w5) (∃ o12 k25 k26,cL w5 (aM k1) (vS o12 k25 k26)/\x1 (decide ((k25:Int)<=p)) w5)))/\∀ (I1:Nat->Value) (b1:Bool) (w6:YC),x1 b1 w6->br b1 (R (vU [vS none 0 0,iI 1]) w6) (∃ (x2:lP [(12,aD)]),∃ (x3:lN [(12,aD)]),x2 0 w6/\∀ (I2:Nat->Value) (n7:Int) (w7:YC),x2 n7 w7->br (decide (n7 < (k10:Int))) (idx o5 k10 n7 3 λa1=>∃ n8,cL w7 a1 (iI n8)/\br (n8 == o) (idx o5 k10 n7 3 λa2=>∃ n9,cL w7 (Addr.add a2 1) (iI n9)/\br (n9 == p) (idx o5 k10 n7 3 λa3=>∃ o13 k27 k28,cL w7 (Addr.add a3 2) (vS o13 k27 k28)/\R (vU [vS o13 k27 k28,iI 0]) w7) (ax (n7 + 1)/\x2 (n7 + 1) w7/\x3 (n7 + 1) w7 < x3 n7 w7)) (ax (n7 + 1)/\x2 (n7 + 1) w7/\x3 (n7 + 1) w7 < x3 n7 w7)) (R (vU [vS none 0 0,iI 0]) w7)))):aA Tryz.prog 24 [(.agg #[(.slice a b c),(.slice d e f),(.slice g i j),(.int .i64 k),(.slice l m n)]),(.int .i64 o),(.int .i64 p)] w R:=rv Tryz.func24 oM (by kernel_rfl) h
abbrev qe:FuncId:=25
def nk:bg:={ rngs:=[],loops:=[(4,[(5,(.one (.int .i64)))])],joins:=[],blocks:=[] }
theorem nm {a:YB} {b c:Nat} {d:YB} {e f:Nat} {w:YC} {R:Value->WP} (h:br ((b:Int) != (e:Int)) (R (vB false) w) (∃ (x1:lP [(5,aD)]),∃ (x2:lN [(5,aD)]),x1 0 w/\∀ (I1:Nat->Value) (n1:Int) (w1:YC),x1 n1 w1->br (decide (n1 < (b:Int))) (∀ w2,drawn w1 w2->∃ (I2:WP),I2 w2/\idx a b n1 2 λa1=>∃ n2 n3,(∀ w3,I2 w3->rA w3 a1 2 [iI n2,iI n3])/\idx d e n1 2 λa2=>∃ n4 n5,(∀ w4,I2 w4->rA w4 a2 2 [iI n4,iI n5])/\∃ v1,(∀ w5,I2 w5->Sem.run Proofs.Tryz.prog (iB BinOp.neq 62 (Operand.tmp 20) (Operand.tmp 24) (vG [iI n2,iI n3]) (vG [iI n4,iI n5])) w5 = Result.ok v1 w5)/\∃ b1,v1 = vB b1/\br b1 (R (vB false) w2) (ax (n1 + 1)/\x1 (n1 + 1) w2/\x2 (n1 + 1) w2 < x2 n1 w1)) (R (vB true) w1))):aA Tryz.prog 25 [(.slice a b c),(.slice d e f)] w R:=rv Tryz.func25 nk (by kernel_rfl) h
abbrev tS:FuncId:=29
def qf:bg:={ rngs:=[],loops:=[(3,[(3,(.one .slice)),(4,(.one (.int .i64)))])],joins:=[],blocks:=[] }
theorem qg {a:YB} {b c:Nat} {w:YC} {R:Value->WP} (h:∃ (x1:lP [(3,fX),(4,aD)]),∃ (x2:lN [(3,fX),(4,aD)]),x1 none 0 0 0 w/\∀ (I1:Nat->Value) (o1:YB) (k1 k2:Nat) (n1:Int) (w1:YC),x1 o1 k1 k2 n1 w1->br (decide (n1 < (b:Int))) (idx a b n1 3 λa1=>∃ o2 k3 k4,cL w1 (Addr.add a1 2) (vS o2 k3 k4)/\br (decide (1 < (k3:Int))) (idx a b n1 3 λa2=>∃ n2 n3 o3 k5 k6,rA w1 a2 3 [iI n2,iI n3,vS o3 k5 k6]/\new w1 (oC [iI n2,iI n3,vS o3 k5 k6] 60) λk7 w2=>rS (ir 29 (Array.mk [vS o1 k1 k2,vS (some (aM k7)) 1 1])) w2 λv1 w3=>∃ o4 k8 k9,v1 = vS o4 k8 k9/\ax (n1 + 1)/\x1 o4 k8 k9 (n1 + 1) w3/\x2 o4 k8 k9 (n1 + 1) w3 < x2 o1 k1 k2 n1 w1) (ax (n1 + 1)/\x1 o1 k1 k2 (n1 + 1) w1/\x2 o1 k1 k2 (n1 + 1) w1 < x2 o1 k1 k2 n1 w1)) (R (vS o1 k1 k2) w1)):aA Tryz.prog 29 [(.slice a b c)] w R:=rv Tryz.func29 qf (by kernel_rfl) h
abbrev yg:FuncId:=44
def va:bg:={ rngs:=[],loops:=[(3,[(8,(.one (.int .i64)))]),(8,[(9,(.one .slice)),(10,(.one (.int .i64)))]),(11,[(9,(.one .slice)),(11,(.one (.int .i64)))])],joins:=[],blocks:=[] }
theorem vb {a:YB} {b c:Nat} {d:YB} {e f:Nat} {g:YB} {i j:Nat} {k:Int} {l:YB} {m n:Nat} {o:YB} {p q:Nat} {s t:Int} {u:YB} {v x:Nat} {w:YC} {R:Value->WP} (h:new w (oC [vS a b c,vS d e f,vS g i j,iI k,vS l m n] 27) λk1 w1=>new w1 (oC [vS o p q,iI s,iI t] 45) λk2 w2=>∃ o1 k3 k4,cL w2 (aM k2) (vS o1 k3 k4)/\wG (k3:Int) (k3:Int) 24/\new w2 (Obj.cells (Array.mk (jB (Int.toNat (k3:Int)) [vS none 0 0])) 48) λk5 w3=>∃ (x1:lP [(8,aD)]),∃ (x2:lN [(8,aD)]),x1 0 w3/\∀ (I1:Nat->Value) (n1:Int) (w4:YC),x1 n1 w4->br (decide (n1 < (v:Int))) (∀ w5,drawn w4 w5->∃ (I2:WP),I2 w5/\idx u v n1 3 λa1=>∃ n2,(∀ w6,I2 w6->cL w6 a1 (iI n2))/\idx u v n1 3 λa2=>∃ n3,(∀ w7,I2 w7->cL w7 a2 (iI n3))/\idx (some (aM k5)) (Int.toNat (k3:Int)) n3 1 λa3=>∃ o2 k6 k7,(∀ w8,I2 w8->cL w8 a3 (vS o2 k6 k7))/\idx u v n1 3 λa4=>∃ n4 n5 o3 k8 k9,(∀ w9,I2 w9->rA w9 a4 3 [iI n4,iI n5,vS o3 k8 k9])/\new w5 (oC [iI n4,iI n5,vS o3 k8 k9] 58) λk10 w10=>I2 w10/\rS (ir 48 (Array.mk [vS o2 k6 k7,vS (some (aM k10)) 1 1])) w10 λv1 w11=>∃ o4 k11 k12,v1 = vS o4 k11 k12/\I2 w11/\idx (some (aM k5)) (Int.toNat (k3:Int)) n2 1 λa5=>st1 w11 a5 (vS o4 k11 k12) λw12=>ax (n1 + 1)/\x1 (n1 + 1) w12/\x2 (n1 + 1) w12 < x2 n1 w4) (∃ (x3:lP [(9,fX),(10,aD)]),∃ (x4:lN [(9,fX),(10,aD)]),x3 none 0 0 0 w4/\∀ (I3:Nat->Value) (o5:YB) (k13 k14:Nat) (n6:Int) (w13:YC),x3 o5 k13 k14 n6 w13->∃ o6 k15 k16,cL w13 (aM k2) (vS o6 k15 k16)/\br (decide (n6 < (k15:Int))) (∃ (x5:lP [(9,fX),(11,aD)]),∃ (x6:lN [(9,fX),(11,aD)]),x5 o5 k13 k14 0 w13/\∀ (I4:Nat->Value) (o7:YB) (k17 k18:Nat) (n7:Int) (w14:YC),x5 o7 k17 k18 n7 w14->∃ o8 k19 k20,cL w14 (aM k1) (vS o8 k19 k20)/\br (decide (n7 < (k19:Int))) (∀ w15,drawn w14 w15->∃ (I5:WP),I5 w15/\∃ o9 k21 k22 o10 k23 k24 o11 k25 k26 n8 o12 k27 k28,(∀ w16,I5 w16->rA w16 (aM k1) 5 [vS o9 k21 k22,vS o10 k23 k24,vS o11 k25 k26,iI n8,vS o12 k27 k28])/\∃ o13 k29 k30 n9 n10,(∀ w17,I5 w17->rA w17 (aM k2) 3 [vS o13 k29 k30,iI n9,iI n10])/\idx (some (aM k5)) (Int.toNat (k3:Int)) n6 1 λa6=>∃ o14 k31 k32,(∀ w18,I5 w18->cL w18 a6 (vS o14 k31 k32))/\rE 79 [vG [vS o9 k21 k22,vS o10 k23 k24,vS o11 k25 k26,iI n8,vS o12 k27 k28],vG [vS o13 k29 k30,iI n9,iI n10],vS o14 k31 k32,iI n6,iI n7] w15 λv2 w19=>∃ o15 k33 k34,v2 = vS o15 k33 k34/\I5 w19/\br (decide (0 < (k33:Int))) (new w19 (oC [iI n6,iI n7,vS o15 k33 k34] 60) λk35 w20=>rS (ir 29 (Array.mk [vS o7 k17 k18,vS (some (aM k35)) 1 1])) w20 λv3 w21=>∃ o16 k36 k37,v3 = vS o16 k36 k37/\ax (n7 + 1)/\x5 o16 k36 k37 (n7 + 1) w21/\x6 o16 k36 k37 (n7 + 1) w21 < x6 o7 k17 k18 n7 w14) (ax (n7 + 1)/\x5 o7 k17 k18 (n7 + 1) w19/\x6 o7 k17 k18 (n7 + 1) w19 < x6 o7 k17 k18 n7 w14)) (ax (n6 + 1)/\x3 o7 k17 k18 (n6 + 1) w14/\x4 o7 k17 k18 (n6 + 1) w14 < x4 o5 k13 k14 n6 w13)) (R (vS o5 k13 k14) w13))):aA Tryz.prog 44 [(.agg #[(.slice a b c),(.slice d e f),(.slice g i j),(.int .i64 k),(.slice l m n)]),(.agg #[(.slice o p q),(.int .i64 s),(.int .i64 t)]),(.slice u v x)] w R:=rv Tryz.func44 va (by kernel_rfl) h
abbrev qh:FuncId:=79
def np:bg:={ rngs:=[],loops:=[(7,[(11,(.one .slice)),(14,(.one (.int .i64)))]),(12,[(11,(.one .slice)),(15,(.one (.int .i64)))]),(15,[(11,(.one .slice)),(16,(.one (.int .i64)))]),(19,[(11,(.one .slice)),(17,(.one (.int .i64)))])],joins:=[(5,[(11,(.one .slice))])],blocks:=[] }
theorem nq {a:YB} {b c:Nat} {d:YB} {e f:Nat} {g:YB} {i j:Nat} {k:Int} {l:YB} {m n:Nat} {o:YB} {p q:Nat} {s t:Int} {u:YB} {v x:Nat} {y z:Int} {w:YC} {R:Value->WP} (h:new w (oC [vS a b c,vS d e f,vS g i j,iI k,vS l m n] 27) λk1 w1=>new w1 (oC [vS o p q,iI s,iI t] 45) λk2 w2=>∃ o1 k3 k4 n1 n2,rA w2 (aM k2) 3 [vS o1 k3 k4,iI n1,iI n2]/\rE 73 [vG [vS o1 k3 k4,iI n1,iI n2],iI y,iI z] w2 λv1 w3=>∃ n3,v1 = iI n3/\∃ (x1:lP [(11,fX)]),br (decide (0 < z)) (br (decide (0<=n3)) (new w3 (oC [iI 1,iI n3] 62) λk5 w4=>rS (ir 38 (Array.mk [vS none 0 0,vS (some (aM k5)) 1 1])) w4 λv2 w5=>∃ o2 k6 k7,v2 = vS o2 k6 k7/\x1 o2 k6 k7 w5) (x1 none 0 0 w3)) (x1 none 0 0 w3)/\∀ (I1:Nat->Value) (o3:YB) (k8 k9:Nat) (w6:YC),x1 o3 k8 k9 w6->∃ o4 k10 k11,cL w6 (aM k2) (vS o4 k10 k11)/\idx o4 k10 y 2 λa1=>∃ o5 k12 k13,cL w6 a1 (vS o5 k12 k13)/\∃ (x2:lP [(11,fX),(14,aD)]),∃ (x3:lN [(11,fX),(14,aD)]),x2 o3 k8 k9 0 w6/\∀ (I2:Nat->Value) (o6:YB) (k14 k15:Nat) (n4:Int) (w7:YC),x2 o6 k14 k15 n4 w7->br (decide (n4 < (k12:Int))) (br (z == 0) (idx o5 k12 n4 2 λa2=>∃ n5,cL w7 a2 (iI n5)/\br (n5 == 0) (idx o5 k12 n4 2 λa3=>∃ n6,cL w7 (Addr.add a3 1) (iI n6)/\br (n6 == 1) (new w7 (oC [iI 3,iI 0] 62) λk16 w8=>rS (ir 38 (Array.mk [vS o6 k14 k15,vS (some (aM k16)) 1 1])) w8 λv3 w9=>∃ o7 k17 k18,v3 = vS o7 k17 k18/\ax (n4 + 1)/\x2 o7 k17 k18 (n4 + 1) w9/\x3 o7 k17 k18 (n4 + 1) w9 < x3 o6 k14 k15 n4 w7) (ax (n4 + 1)/\x2 o6 k14 k15 (n4 + 1) w7/\x3 o6 k14 k15 (n4 + 1) w7 < x3 o6 k14 k15 n4 w7)) (ax (n4 + 1)/\x2 o6 k14 k15 (n4 + 1) w7/\x3 o6 k14 k15 (n4 + 1) w7 < x3 o6 k14 k15 n4 w7)) (ax (n4 + 1)/\x2 o6 k14 k15 (n4 + 1) w7/\x3 o6 k14 k15 (n4 + 1) w7 < x3 o6 k14 k15 n4 w7)) (∃ (x4:lP [(11,fX),(15,aD)]),∃ (x5:lN [(11,fX),(15,aD)]),x4 o6 k14 k15 1 w7/\∀ (I3:Nat->Value) (o8:YB) (k19 k20:Nat) (n7:Int) (w10:YC),x4 o8 k19 k20 n7 w10->∃ o9 k21 k22,cL w10 (Addr.add (aM k1) 4) (vS o9 k21 k22)/\br (decide (n7 < (k21:Int))) (∃ (x6:lP [(11,fX),(16,aD)]),∃ (x7:lN [(11,fX),(16,aD)]),x6 o8 k19 k20 0 w10/\∀ (I4:Nat->Value) (o10:YB) (k23 k24:Nat) (n8:Int) (w11:YC),x6 o10 k23 k24 n8 w11->br (decide (n8 < (v:Int))) (idx u v n8 3 λa4=>∃ n9,cL w11 a4 (iI n9)/\br (n9 != y) (ax (n8 + 1)/\x6 o10 k23 k24 (n8 + 1) w11/\x7 o10 k23 k24 (n8 + 1) w11 < x7 o10 k23 k24 n8 w11) (idx u v n8 3 λa5=>∃ n10,cL w11 (Addr.add a5 1) (iI n10)/\br (n10 != n7) (ax (n8 + 1)/\x6 o10 k23 k24 (n8 + 1) w11/\x7 o10 k23 k24 (n8 + 1) w11 < x7 o10 k23 k24 n8 w11) (∃ (x8:lP [(11,fX),(17,aD)]),∃ (x9:lN [(11,fX),(17,aD)]),x8 o10 k23 k24 0 w11/\∀ (I5:Nat->Value) (o11:YB) (k25 k26:Nat) (n11:Int) (w12:YC),x8 o11 k25 k26 n11 w12->idx u v n8 3 λa6=>∃ o12 k27 k28,cL w12 (Addr.add a6 2) (vS o12 k27 k28)/\br (decide (n11 < (k27:Int))) (idx u v n8 3 λa7=>∃ o13 k29 k30,cL w12 (Addr.add a7 2) (vS o13 k29 k30)/\idx o13 k29 n11 1 λa8=>∃ n12,cL w12 a8 (iI n12)/\br (n12 == z) (new w12 (oC [iI 2,iI n7] 62) λk31 w13=>rS (ir 38 (Array.mk [vS o11 k25 k26,vS (some (aM k31)) 1 1])) w13 λv4 w14=>∃ o14 k32 k33,v4 = vS o14 k32 k33/\ax (n11 + 1)/\x8 o14 k32 k33 (n11 + 1) w14/\x9 o14 k32 k33 (n11 + 1) w14 < x9 o11 k25 k26 n11 w12) (ax (n11 + 1)/\x8 o11 k25 k26 (n11 + 1) w12/\x9 o11 k25 k26 (n11 + 1) w12 < x9 o11 k25 k26 n11 w12)) (ax (n8 + 1)/\x6 o11 k25 k26 (n8 + 1) w12/\x7 o11 k25 k26 (n8 + 1) w12 < x7 o10 k23 k24 n8 w11)))) (ax (n7 + 1)/\x4 o10 k23 k24 (n7 + 1) w11/\x5 o10 k23 k24 (n7 + 1) w11 < x5 o8 k19 k20 n7 w10)) (R (vS o8 k19 k20) w10))):aA Tryz.prog 79 [(.agg #[(.slice a b c),(.slice d e f),(.slice g i j),(.int .i64 k),(.slice l m n)]),(.agg #[(.slice o p q),(.int .i64 s),(.int .i64 t)]),(.slice u v x),(.int .i64 y),(.int .i64 z)] w R:=rv Tryz.func79 np (by kernel_rfl) h
end Go.Proofs.YtndaepmjkbmjmaaGreatDoor
namespace Go.V
def qo:af:=⟨[⟨⟨⟨[]⟩⟩,0⟩,⟨⟨⟨[43]⟩⟩,0⟩,⟨⟨⟨[110]⟩⟩,0⟩],[⟨⟨[]⟩⟩,⟨⟨[101]⟩⟩],[],4,[⟨3,[4],0⟩,⟨4,[4,1,4],0⟩,⟨4,[2],0⟩]⟩
theorem MM:ak qo:=by
 refine ⟨rfl,⟨rfl,by decide,by decide,by decide,by decide,?_,?_,?_,?_,?_⟩,⟨by decide,by decide,?_,by decide,by decide,by decide⟩,⟨3,[4],0⟩,rfl,rfl,rfl,rfl⟩
 ·decide
 ·intro i v h; simp [qo] at h
 ·decide
 ·decide
 ·decide
 ·intro p hp
  simp only [List.drop_succ_cons,List.drop_zero,qo,WM,List.not_mem_nil,or_false] at hp
  unfold kY eM
  rcases hp with rfl | rfl
  ·refine ⟨by decide,?_⟩
   intro s hs; simp at hs
   rcases hs with rfl | rfl | rfl <;> decide
  ·refine ⟨by decide,?_⟩
   intro s hs; simp at hs; subst hs; decide
theorem PJ:ik qo:=by
 refine ⟨by decide,by decide,by decide,by decide,?_,by decide,by decide⟩
 intro t ht
 simp only [qo,WM,List.not_mem_nil,or_false] at ht
 unfold anyI
 rcases ht with rfl | rfl | rfl <;> decide
theorem PK:(b_ qo 5).1.length = 5/\∀ i,i < 5->i < (b_ qo i).1.length:=by decide +kernel
theorem Lz:Ht qo 5:=⟨PK.1,by decide,PK.2⟩
def II:List SQ:=((b_ qo 5).1.zip (b_ qo 5).2).map λp=>(((none,0),p.1),((none,0),p.2))
def M1:List Bool:=[false,false]
theorem Ke:jb qo M1:=by
 have key:∀ s,Ay qo s->False:=λs h=>by
  induction h with
  | mk p hp _ ih =>
   simp only [qo,WM,List.not_mem_nil,or_false] at hp
   rcases hp with rfl | rfl | rfl
   ·exact ih 4 (by simp)
   ·exact ih 4 (by simp)
   ·exact ih 2 (by simp)
 refine ⟨rfl,λi=>⟨λh=>?_,λh=>(key _ h).elim⟩⟩
 match i with
 | 0=>cases h
 | 1=>cases h
 | i + 2=>simp [aO,M1] at h
def VR:List (List Int):=[[0,1],[1]]
def VS:List (List Int):=[[0,1],[0,1]]
def LA (A:Nat->Nat->List bS) (n T least:Nat):List fK:=(List.range n).flatMap λq=>(List.range T).flatMap λt=>if least<=(A q t).length then [⟨(q:Int),(t:Int),A q t⟩] else []
def VT:List bG:=(pJ qo II).map (Pk qo VS)
def Uw (q t:Nat):List bS:=wE II q t ++ Lt II q t ++ Gc VT q t
theorem wx:RN (q8 qo M1 II) (pW qo II) VR 5 = true/\RN (uP qo M1 II) VR VS 5 = true/\(LA Uw 5 3 1).length = 8/\(LA Uw 5 3 2).length = 1/\Uw 4 1 = [⟨1,3⟩,⟨2,1⟩]/\II.length = 5:=by decide +kernel
theorem VU:J5 qo M1 II = VR:=(Lp wx.1).symm
theorem VV:Dc qo M1 II = VS:=by
 unfold Dc
 rw [VU]
 exact (Lp wx.2.1).symm
theorem VW:bq qo M1 II = VT:=by
 unfold bq VT
 rw [VV]
 exact XJ λb _=>Pl _ _ _
theorem U_ (q t:Nat):cP qo M1 II q t = Uw q t:=by unfold cP Uw; rw [VW]
theorem Va (least:Nat):cE qo M1 II least = LA Uw 5 3 least:=by
 unfold cE iq im cellAt LA
 rw [wx.2.2.2.2.2]
 simp only [U_]
 rfl
theorem Kf {ss:List SQ} {a i f:Int} (h:qY qo ss a i f):f = 0/\bz ss = bz II/\ss.map (·.1.2) = II.map (·.1.2):=by
 rcases h with ⟨hn,_⟩ | ⟨_,hbig,_⟩ | ⟨_,hA,_,_,rfl⟩
 ·exact absurd MM hn
 ·exact (Cc Lz hbig).elim
 ·have e5:=Hu hA.dn Lz
  have hl:(b_ qo 5).1.length = (b_ qo 5).2.length:=by decide +kernel
  refine ⟨rfl,?_,?_⟩
  ·rw [hA.es,e5]
   unfold II bz
   rw [X8]
   show _ = ((b_ qo 5).1.zip (b_ qo 5).2).map Prod.snd
   rw [List.map_snd_zip (by omega)]
  ·show bL ss = _
   rw [hA.ks,e5]
   unfold II
   rw [X8]
   show _ = ((b_ qo 5).1.zip (b_ qo 5).2).map Prod.fst
   rw [List.map_fst_zip (by omega)]
theorem Gj {g:af} {nn:List Bool} {ss ss' : List SQ} (h:bz ss = bz ss') (hk:ss.map (·.1.2) = ss'.map (·.1.2)) (q t:Nat):cP g nn ss q t = cP g nn ss' q t:=by
 have e1:wE ss q t = wE ss' q t:=by unfold wE; rw [FO h]
 have e2:Lt ss q t = Lt ss' q t:=by
  have hq:=congrArg (λl=>l[q]?) hk
  simp only [Wx] at hq
  unfold Lt
  cases h1:ss[q]? with
  | none=>cases h2:ss'[q]? with
   | none=>rfl
   | some b=>rw [h1,h2] at hq; cases hq
  | some a=>cases h2:ss'[q]? with
   | none=>rw [h1,h2] at hq; cases hq
   | some b =>
    rw [h1,h2] at hq
    have e:a.1.2 = b.1.2:=Option.some.inj hq
    show (if t = 0/\(⟨0,1⟩ : ag)∈a.1.2 then [(⟨3,0⟩ : bS)] else []) = if t = 0/\(⟨0,1⟩ : ag)∈b.1.2 then [⟨3,0⟩] else []
    rw [e]
 unfold cP
 rw [e1,e2,EA h]
theorem CY {g:af} {nn:List Bool} {ss ss' : List SQ} {least:Nat} (h:bz ss = bz ss') (hk:ss.map (·.1.2) = ss'.map (·.1.2)):cE g nn ss least = cE g nn ss' least:=by
 unfold cE iq im cellAt
 rw [FP h]
 simp only [Gj h hk]
instance:oP fK:={ n:=3,rd:=λh x vs=>∃ (a:YB) (c:Nat),vs = [.int .i64 x.st,.int .i64 x.tm,.slice a x.acts.length c]/\a_ h x.acts a x.acts.length,mono:=λs ⟨a,c,e,r⟩=>⟨a,c,e,r.mono s⟩,len:=λ⟨_,_,e,_⟩=>by rw [e]; rfl }
section
variable {h:Hp} {w:YC} {L:List ay} {o:YB} {l i c:Nat}
theorem Bb {xs:List bS} {a:YB} (hl:xs.length = l) (r:eJ a (ng xs) h):a_ h xs a l:=by
 refine ⟨hl,λi x hx=>?_⟩
 rcases r with e | ⟨ad,rfl,hc⟩
 ·have h1:=congrArg List.length e
  rw [Gd,Xk] at h1
  have:=(Wt.1 hx).1; omega
 ·exact ⟨ad,u_ x,rfl,bQ (n:=2) (λ_=>rfl) xs ad hc i x hx,rfl⟩
theorem Iq {xs:List bS} {a:YB} (r:a_ h xs a l) (hi:i < l):∃ x ad,xs[i]? = some x/\a = some ad/\av h (ad.add (cY i 2)) (u_ x):=by
 obtain ⟨x,ad,vs,hx,ha,hr,e⟩:=r.get hi
 rw [show vs = u_ x from e] at hr
 exact ⟨x,ad,hx,ha,hr⟩
theorem Gk {ds:List rK} (r:eJ o (vg ds) h) (hd:∀ d∈ds,a_ h d.2.2 d.2.1.1 d.2.2.length):a_ h (ds.map rq) o ds.length:=by
 refine ⟨by simp,λi x hi=>?_⟩
 rw [Wx] at hi
 cases hb:ds[i]? with
 | none=>rw [hb] at hi; cases hi
 | some p =>
  rw [hb] at hi
  simp only [Xw,Option.some.injEq] at hi
  subst hi
  rcases r with e | ⟨ad,e,hc⟩
  ·have h1:=congrArg List.length e
   rw [Gh,Xk] at h1
   have:=(Wt.1 hb).1; omega
  ·exact ⟨ad,Lx p,e,bQ (n:=3) (λ_=>rfl) ds ad hc i p hb,p.2.1.1,p.2.1.2,rfl,hd p (Wu hb)⟩
theorem Wp {ds:List rK} {b:rK} (h:St w (aG (oQ ds) :: L)) (hb:b∈ds):a_ (hp w) b.2.2 b.2.1.1 b.2.2.length:=by
 obtain ⟨i,hi⟩:=W3 hb
 have hA:(oQ ds)[i]? = some (dp 2 ng b.2):=by unfold oQ; rw [Wx,hi]; rfl
 have h2:=St.out h hA
 exact Bb rfl (fB 0 h2.l)
theorem T6 {ds:List rK} (h:St w (own 3 o ds.length c (vg ds) :: aG (oQ ds) :: L)):a_ (hp w) (ds.map rq) o ds.length:=Gk (fB 0 h.l) λd hd=>Wp (h.pick 2 [1]) hd
theorem yh {xs:List fK} (r:a_ h xs o l) (hi:i < l):∃ x ad a c,xs[i]? = some x/\o = some ad/\av h (ad.add (cY i 3)) [.int .i64 x.st,.int .i64 x.tm,.slice a x.acts.length c]/\a_ h x.acts a x.acts.length:=by
 obtain ⟨x,ad,vs,hx,ha,hr,a,c',rfl,hx2⟩:=r.get hi
 exact ⟨x,ad,a,c',hx,ha,hr,hx2⟩
end
end Go.V
namespace Go.Proofs.YtndaepmjkbmjmaaGreatDoor
variable {w:YC} {L:List ay} {g:af} {x:GA}
theorem Kg : Ut Tryz.prog mN cZ { name := "Kind", type := cZ, offset := 0, embedded := false, tag := "", pkgPath := "", byteOffset := 0 } { name := "To", type := cZ, offset := 1, embedded := false, tag := "", pkgPath := "", byteOffset := 8 } where
 ht:=by kernel_rfl
 hf:=by kernel_rfl
 hi:=bB
 ht0:=rfl
 ht1:=rfl
 n0:=by decide
 n1:=by decide
 o0:=rfl
 o1:=rfl
 sih:=BS
theorem RX (x y:bS):decide (x = y) = decide (x.kind = y.kind/\x.to = y.to):=by cases x; cases y; simp
theorem Vb (w:YC) (xo yo:Operand) (x y:bS):Sem.run Tryz.prog (iB .neq mN xo yo (.agg ⟨u_ x⟩) (.agg ⟨u_ y⟩)) w = .ok (.bool (!decide (x = y))) w:=by
 unfold iB
 rw [Sem.run_bind,run_eqGuard_agg w _ _ _ _ _ _ BR]
 simp only [Result.andThen_ok]
 rw [run_neq_struct,RX]
 show ((Op.equal mN (.agg #[.int .i64 x.kind,.int .i64 x.to]) (.agg #[.int .i64 y.kind,.int .i64 y.to])).run Tryz.prog w).andThen _ = _
 rw [JK Kg]
 rfl
theorem CZ {α : Type} {xs ys:List α} (hl:xs.length = ys.length) (h:xs.take xs.length = ys.take xs.length):xs = ys:=by
 rw [WT,hl,WT] at h; exact h
theorem zH {a a2:YB} {l l2 c c2:Nat} {xs ys:List bS} (hx:a_ (hp w) xs a l) (hy:a_ (hp w) ys a2 l2) (hb:l<=4611686018427387904):aA Tryz.prog qe [.slice a l c,.slice a2 l2 c2] w λv w'=>v = .bool (decide (xs = ys))/\Gr w w':=by
 have hxl:=hx.1
 have hyl:=hy.1
 refine nm (ae (λh1=>?_) λh1=>?_)
 ·have h1:(l:Int)≠l2:=by simpa using h1
  have:xs≠ys:=λe=>h1 (by rw [<- hxl,<- hyl,e])
  exact ⟨by rw [Xm this],Gr.refl _⟩
 have h1:(l:Int) = l2:=by simpa using h1
 have h1:l2 = l:=by omega
 subst h1
 refine ⟨λz w'=>∃ j:Nat,z = j/\j<=l2/\xs.take j = ys.take j/\hp w' = hp w,λz _=>l2 - z.toNat,⟨0,rfl,WC _,rfl,rfl⟩,?_⟩
 rintro _ _ w1 ⟨j,rfl,hj,hs,e1⟩
 refine ae (λh1=>?_) λh1=>?_
 rotate_left
 ·have h1:j = l2:=by have:=Ws h1; omega
  have:xs = ys:=CZ (by omega) (by rw [hxl,<- h1]; exact hs)
  exact ⟨by rw [W4 this],Gr.of_eq e1⟩
 have h1:j < l2:=by have:=Wr h1; omega
 intro w2 hd
 have e2:hp w2 = hp w:=(aB hd).trans e1
 have sb:∀ u:YC,hp u = hp w->sub (hp w) (hp u):=λu e=>by rw [e]; exact sub.refl _
 obtain ⟨y1,ad1,q1,p1,r1⟩:=Iq hx h1
 obtain ⟨y2,ad2,q2,p2,r2⟩:=Iq hy h1
 refine ⟨λu=>hp u = hp w,e2,aq p1 h1 ⟨_,_,λu e=>r1.at (sb u e) rfl,aq p2 h1 ⟨_,_,λu e=>r2.at (sb u e) rfl,_,λu _=>Vb u _ _ y1 y2,_,rfl,ae (λh2=>?_) λh2=>?_⟩⟩⟩
 ·have h2:y1≠y2:=by simpa using h2
  have:xs≠ys:=λe=>by rw [e,q2] at q1; exact h2 (Option.some.inj q1).symm
  exact ⟨by rw [Xm this],Gr.of_eq e2⟩
 ·have h2:y1 = y2:=by simpa using h2
  subst h2
  exact ⟨⟨by omega,by omega⟩,⟨j + 1,by simp,h1,by rw [Wz,Wz,hs,q1,q2],e2⟩,bx h1⟩
theorem LB {a a2:YB} {l l2 c c2:Nat} {xs ys:List fK} (hx:a_ (hp w) xs a l) (hy:a_ (hp w) ys a2 l2) (hb:l<=4611686018427387904) (hbs:∀ x∈xs,x.acts.length<=4611686018427387904):aA Tryz.prog tR [.slice a l c,.slice a2 l2 c2] w λv w'=>v = .bool (decide (xs = ys))/\Gr w w':=by
 have hxl:=hx.1
 have hyl:=hy.1
 refine qb (ae (λh1=>?_) λh1=>?_)
 ·have h1:(l:Int)≠l2:=by simpa using h1
  have:xs≠ys:=λe=>h1 (by rw [<- hxl,<- hyl,e])
  exact ⟨by rw [Xm this],Gr.refl _⟩
 have h1:(l:Int) = l2:=by simpa using h1
 have h1:l2 = l:=by omega
 subst h1
 refine ⟨λz w'=>∃ j:Nat,z = j/\j<=l2/\xs.take j = ys.take j/\Gr w w',λz _=>l2 - z.toNat,⟨0,rfl,WC _,rfl,Gr.refl _⟩,?_⟩
 rintro _ _ w1 ⟨j,rfl,hj,hs,g1⟩
 refine ae (λh1=>?_) λh1=>?_
 rotate_left
 ·have h1:j = l2:=by have:=Ws h1; omega
  have:xs = ys:=CZ (by omega) (by rw [hxl,<- h1]; exact hs)
  exact ⟨by rw [W4 this],g1⟩
 have h1:j < l2:=by have:=Wr h1; omega
 intro w2 hd
 have g2:Gr w w2:=g1.trans (Gr.drawn hd)
 obtain ⟨y1,ad1,b1,d1,q1,p1,r1,t1⟩:=yh hx h1
 obtain ⟨y2,ad2,b2,d2,q2,p2,r2,t2⟩:=yh hy h1
 have no:y1≠y2->∀ {u:YC},Gr w u->(.bool false:Value) = .bool (decide (xs = ys))/\Gr w u:=λhne u gu=>⟨by rw [Xm λe=>by rw [e,q2] at q1; exact hne (Option.some.inj q1).symm],gu⟩
 refine ⟨λu=>Gr w2 u,Gr.refl _,aq p1 h1 ⟨_,λu s=>r1.cell0 (sub.trans g2 s),aq p2 h1 ⟨_,λu s=>r2.cell0 (sub.trans g2 s),ae (λh2=>no (λe=>by rw [e] at h2; simp at h2) g2) λh2=>?_⟩⟩⟩
 refine aq p1 h1 ⟨_,λu s=>r1.cell (sub.trans g2 s) (j:=1) rfl,aq p2 h1 ⟨_,λu s=>r2.cell (sub.trans g2 s) (j:=1) rfl,ae (λh3=>no (λe=>by rw [e] at h3; simp at h3) g2) λh3=>?_⟩⟩
 refine aq p1 h1 ⟨_,_,_,λu s=>r1.cell (sub.trans g2 s) (j:=2) rfl,aq p2 h1 ⟨_,_,_,λu s=>r2.cell (sub.trans g2 s) (j:=2) rfl,(zH (t1.mono g2) (t2.mono g2) (hbs _ (Wu q1))).mono ?_⟩⟩
 rintro _ w9 ⟨rfl,g9⟩
 have g29:=g2.trans g9
 refine ⟨_,rfl,g9,ae (λh4=>no (λe=>by rw [e] at h4; simp at h4) g29) λh4=>?_⟩
 have h2:y1.st = y2.st:=by simpa using h2
 have h3:y1.tm = y2.tm:=by simpa using h3
 have h4:y1.acts = y2.acts:=by simpa using h4
 have e:y1 = y2:=by cases y1; cases y2; simp at h2 h3 h4; simp [h2,h3,h4]
 subst e
 exact ⟨⟨by omega,by omega⟩,⟨j + 1,by simp,h1,by rw [Wz,Wz,hs,q1,q2],g29⟩,bx h1⟩
theorem PL {H:Hp} {a:YB} {l c:Nat} {xs:List fK} (hx:a_ H xs a l) (hH:sub H (hp w)) (hb:l<=100000):aA Tryz.prog tS [.slice a l c] w λv w'=>∃ (o:YB) (c:Nat) (ds:List rK),v = .slice o ds.length c/\ds.map rq = xs.filter (λx=>decide (1 < x.acts.length))/\(∀ d∈ds,a_ H d.2.2 d.2.1.1 d.2.2.length)/\St w' (own 3 o ds.length c (vg ds) :: all w):=by
 refine qg ⟨λo n c z w'=>∃ (i:Nat) (ds:List rK),z = i/\i<=l/\n = ds.length/\ds.map rq = (xs.take i).filter (λx=>decide (1 < x.acts.length))/\(∀ d∈ds,a_ H d.2.2 d.2.1.1 d.2.2.length)/\St w' (own 3 o n c (vg ds) :: all w),λ_ _ _ z _=>l - z.toNat,⟨0,[],rfl,WC _,rfl,rfl,λd hd=>by simp at hd,az 3 (St.all w)⟩,?_⟩
 rintro _ o1 _ c1 _ w1 ⟨i,ds,rfl,hi,rfl,hds,hdr,h⟩
 have hxl:=hx.1
 have g1:sub H (hp w1):=sub.trans hH (aU 1 h.l)
 have hdl:ds.length<=i:=by
  have e:=congrArg List.length hds
  rw [WE] at e
  have h1:=W6 (λx:fK=>decide (1 < x.acts.length)) (xs.take i)
  rw [WV] at h1
  omega
 refine ae (λh1=>?_) λh1=>?_
 rotate_left
 ·have h1:i = l:=by have:=Ws h1; omega
  rw [h1,WN (by omega)] at hds
  exact ⟨o1,c1,ds,rfl,hds,hdr,h⟩
 have h1:i < l:=by have:=Wr h1; omega
 obtain ⟨y,ad,b,d,hy,ha,r,t⟩:=yh hx h1
 have htk:xs.take (i + 1) = xs.take i ++ [y]:=by rw [Wz,hy]; rfl
 refine aq ha h1 ⟨_,_,_,r.cell g1 (j:=2) rfl,ae (λh2=>?_) λh2=>?_⟩
 ·have h2:1 < y.acts.length:=by have:=Wr h2; omega
  refine aq ha h1 ⟨_,_,_,_,_,r.at g1 rfl,ah h λk7 w2 h=>?_⟩
  refine (aN (us:=vg ds) aQ (rfl:aj Ty _ = .slice _) (rfl:aj Ty _ = .slice _) rfl rfl rfl h rfl (by simp [aV]) (by show (ds.length + 1) * 40<=_; omega) (by omega)).mono ?_
  rintro _ w3 ⟨o4,c4,rfl,h⟩
  refine ⟨_,_,_,rfl,⟨by omega,by omega⟩,⟨i + 1,ds ++ [((y.st,y.tm),((b,d),y.acts))],by simp,h1,by simp,?_,λz hz=>?_,?_⟩,bx h1⟩
  ·rw [WZ,hds,htk,W5,X3 (by simpa using h2)]
   rfl
  ·rcases Wy.1 hz with hz | hz
   ·exact hdr z hz
   ·rw [WW] at hz; subst hz; exact t
  ·rw [Gi]
   exact h.pick 2 [0]
 ·have h2:¬ 1 < y.acts.length:=by have:=Ws h2; omega
  refine ⟨⟨by omega,by omega⟩,⟨i + 1,ds,by simp,h1,rfl,?_,hdr,h⟩,bx h1⟩
  rw [hds,htk,W5,X4 (by simpa using h2)]
  simp
end Go.Proofs.YtndaepmjkbmjmaaGreatDoor
namespace Go.V
theorem C0 {α : Type} {f:α->List Value} {n:Nat} (hf:∀ x,(f x).length = n):∀ (xs:List α) (i:Nat) (y:α),i < xs.length->(xs.flatMap f).take (i * n) ++ f y ++ (xs.flatMap f).drop (i * n + n) = (xs.set i y).flatMap f
 | [],i,y,h=>by simp at h
 | x :: xs,0,y,_=>by
  rw [Xc,List.set_cons_zero,Xc]
  rw [show 0 * n = 0 from Nat.zero_mul n,List.take_zero,Xd,Xx,List.drop_append,XG (by rw [hf]; omega),hf,Xz]
  rfl
 | x :: xs,i + 1,y,h=>by
  have hx:=hf x
  have ih:=C0 hf xs i y (by simpa using h)
  rw [Xc,List.set_cons_succ,Xc,<- ih]
  have e:(i + 1) * n = n + i * n:=by rw [XU,Yv]
  rw [e,List.take_append,List.drop_append,WN (by omega),XG (by omega),hx,Xq,show n + i * n + n - n = i * n + n from by omega]
  simp
theorem T7 {w:YC} {L:List ay} {n c i:Nat} {o:YB} {ds:List rK} {b:rK} (h:St w (own 3 o n c (vg ds) :: L)) (hb:ds[i]? = some b):∃ ad,o = some ad/\av (hp w) (ad.add (cY i 3)) (Lx b):=by
 rcases fB 0 h.l with e | ⟨ad,e,hc⟩
 ·have h1:=congrArg List.length e
  rw [Gh,Xk] at h1
  have:=(Wt.1 hb).1; omega
 ·exact ⟨ad,e,bQ (n:=3) (λ_=>rfl) ds ad hc i b hb⟩
end Go.V
namespace Go.Proofs.YtndaepmjkbmjmaaGreatDoor
variable {w:YC} {L:List ay} {g:af} {x:GA}
theorem C3 {ss ss' : List SQ} {nn nn' : List Bool} {a i f a' i' f' : Int} (hR:qY g ss a i f) (hn:f = 0->jb g nn) (hR' : qY g ss' a' i' f') (hn' : f' = 0->jb g nn'):f' = f/\(∀ l,cE g nn' ss' l = cE g nn ss l)/\(f = 0->∀ q t,cP g nn' ss' q t = cP g nn ss q t)/\ss'.length = ss.length:=by
 obtain ⟨hk,hes,_,_,rfl,hl⟩:=hR.one hR'
 have hk:ss.map (·.1.2) = ss'.map (·.1.2):=hk
 refine ⟨rfl,λl=>?_,λhf q t=>?_,hl.symm⟩
 ·by_cases hf:f = 0
  ·rw [(hn' hf).inj (hn hf)]; exact (CY hes hk).symm
  ·rw [hR.nil hf,hR'.nil hf]; rfl
 ·rw [(hn' hf).inj (hn hf)]; exact (Gj hes hk q t).symm
theorem Gl {ss:List SQ} {nn:List Bool} {a i f:Int} {l:Nat} (hR:qY g ss a i f):(cE g nn ss l).length<=16640:=by
 by_cases hf:f = 0
 ·obtain ⟨hc,hA⟩:=hR.Mv hf
  have h256:=hA.dn.2.1
  obtain ⟨sT,_⟩:=hc.ct
  have h1:=zy (g:=g) (nn:=nn) (ss:=ss) (least:=l) (n:=ss.length)
  have h2:ss.length * g.T<=256 * 65:=Yg (by omega) sT
  unfold cE
  omega
 ·rw [hR.nil hf]; exact WC _
theorem RY {ss:List SQ} {nn:List Bool} {l:Nat} (hb:ik g):∀ c∈cE g nn ss l,c.acts.length<=4611686018427387904:=λc hc=>by
 obtain ⟨q,t,_,_,_,rfl⟩:=zw.1 hc
 have:=CV (g:=g) (nn:=nn) (ss:=ss) (q:=q) (t:=t)
 have:=hb.2.2.2.1
 show (cP g nn ss q t).length<=_
 omega
theorem PM (hg:gR (hp w) g x) (hb:ik g) (hbT:g.terms.length * 24<=140737488355328) (hbN:g.nons.length * 16<=140737488355328):aA Tryz.prog j8 [.agg ⟨x.cells⟩] w λv w'=>∃ y:GA,v = .agg ⟨y.cells⟩/\gR (hp w') g y/\Gr w w':=by
 refine (Tv (x:=x) hg hb hbT hbN).mono ?_
 rintro _ w3 ⟨y,os,rfl,hy,hos,h3⟩
 exact ⟨y,rfl,QY hy hos h3,aU 5 h3.l⟩
theorem PN (hg:gR (hp w) g x) (hb:ik g) (ht:eF (hp w)):aA Tryz.prog tN [.agg ⟨x.cells⟩] w λv w'=>∃ (ss:List SQ) (ask int f:Int) (nn:List Bool) (o:YB) (c:Nat),v = .tuple #[.slice o (cE g nn ss 1).length c,.int .i64 f]/\qY g ss ask int f/\(f = 0->jb g nn)/\a_ (hp w') (cE g nn ss 1) o (cE g nn ss 1).length/\Gr w w':=by
 refine (PH hg hb ht).mono ?_
 rintro _ w' ⟨ss,ask,int,f,nn,o,c,ds,rfl,hR,hn,hds,h⟩
 have r:=T6 h
 have e:ds.length = (cE g nn ss 1).length:=by rw [<- hds]; simp
 rw [hds,e] at r
 exact ⟨ss,ask,int,f,nn,o,c,by rw [e],hR,hn,r,aU 2 h.l⟩
theorem EN (hg:gR (hp w) g x) (hb:ik g) (ht:eF (hp w)):aA Tryz.prog qm [.agg ⟨x.cells⟩] w λv w'=>∃ (ss:List SQ) (ask int f:Int) (nn:List Bool) (o:YB) (c:Nat),v = .tuple #[.slice o (cE g nn ss 2).length c,.int .i64 f]/\qY g ss ask int f/\(f = 0->jb g nn)/\a_ (hp w') (cE g nn ss 2) o (cE g nn ss 2).length/\Gr w w':=by
 refine (EM hg hb ht).mono ?_
 rintro _ w' ⟨ss,ask,int,f,nn,o,c,ds,rfl,hR,hn,hds,h⟩
 have r:=T6 h
 have e:ds.length = (cE g nn ss 2).length:=by rw [<- hds]; simp
 rw [hds,e] at r
 exact ⟨ss,ask,int,f,nn,o,c,by rw [e],hR,hn,r,aU 2 h.l⟩
theorem Ir {q t:Int} (hg:gR (hp w) g x) (hb:ik g) (ht:eF (hp w)):aA Tryz.prog tO [.agg ⟨x.cells⟩,.int .i64 q,.int .i64 t] w λv w'=>∃ (ss:List SQ) (ask int f e:Int) (nn:List Bool) (o:YB) (c:Nat) (acts:List bS),v = .tuple #[.slice o acts.length c,.int .i64 e]/\qY g ss ask int f/\(f = 0->jb g nn)/\ML g nn ss f q t e acts/\a_ (hp w') acts o acts.length/\Gr w w':=by
 refine (PI hg hb ht).mono ?_
 rintro _ w' ⟨ss,ask,int,f,e,nn,o,c,acts,rfl,hR,hn,hA,h⟩
 exact ⟨ss,ask,int,f,e,nn,o,c,acts,rfl,hR,hn,hA,Bb rfl (fB 0 h.l),aU 1 h.l⟩
theorem EO (ht:eF (hp w)):aA Tryz.prog tQ [] w λv w'=>v = .bool true/\Gr w w':=by
 refine p9 ?_
 refine ah (St.all w) λk1 w1 h=>ah h λk2 w2 h=>ah h λk3 w3 h=>ah h λk4 w4 h=>ah h λk5 w5 h=>ah h λk6 w6 h=>ah h λk7 w7 h=>bu h rfl (by intro v hv; simp at hv; rcases hv with rfl | rfl | rfl | rfl | rfl <;> rfl) λw8 h=>?_
 have r7:av (hp w8) ⟨k7,0,none⟩ _:=ai 0 h.l
 have r6:av (hp w8) ⟨k6,0,none⟩ _:=ai 1 h.l
 have r5:av (hp w8) ⟨k5,0,none⟩ _:=ai 2 h.l
 have r4:av (hp w8) ⟨k4,0,none⟩ _:=ai 3 h.l
 have r3:av (hp w8) ⟨k3,0,none⟩ _:=ai 4 h.l
 have r2:av (hp w8) ⟨k2,0,none⟩ _:=ai 5 h.l
 have r1:av (hp w8) ⟨k1,0,none⟩ _:=ai 6 h.l
 have g8:Gr w w8:=aU 7 h.l
 clear h
 have p3:a_ (hp w8) ([4] : List Int) (some ⟨k3,0,none⟩) 1:=dS rfl (.inr ⟨_,rfl,r3⟩)
 have p4:a_ (hp w8) ([4,1,4] : List Int) (some ⟨k4,0,none⟩) 3:=dS rfl (.inr ⟨_,rfl,r4⟩)
 have p5:a_ (hp w8) ([2] : List Int) (some ⟨k5,0,none⟩) 1:=dS rfl (.inr ⟨_,rfl,r5⟩)
 have p0:a_ (hp w8) ([] : List Int) none 0:=dS rfl (.inl rfl)
 obtain ⟨x,hx⟩ : ∃ x:GA,x = ⟨some ⟨k1,0,none⟩,3,3,some ⟨k2,0,none⟩,2,2,none,0,0,4,some ⟨k6,0,none⟩,3,3⟩:=⟨_,rfl⟩
 have hg:gR (hp w8) qo x:=by
  subst hx
  refine ⟨?_,?_,?_,rfl,?_,WO _,WO _,WO _,WO _⟩
  ·refine HL (xs:=qo.terms) r1 λi t hi=>?_
   match i,hi with
   | 0,hi=>cases hi; rfl
   | 1,hi=>cases hi; rfl
   | 2,hi=>cases hi; rfl
   | i + 3,hi=>cases hi
  ·exact fi (xs:=qo.nons) rfl (.inr ⟨_,rfl,r2⟩)
  ·exact p0
  ·refine HL (xs:=qo.prods) r6 λi t hi=>?_
   match i,hi with
   | 0,hi=>cases hi; exact ⟨_,_,_,rfl,by decide,p3⟩
   | 1,hi=>cases hi; exact ⟨_,_,_,rfl,by decide,p4⟩
   | 2,hi=>cases hi; exact ⟨_,_,_,rfl,by decide,p5⟩
   | i + 3,hi=>cases hi
 have B:GB (hp w8) k7 x:=by subst hx; exact KT r7
 have ht8:eF (hp w8):=eJ.mono g8 ht
 clear r1 r2 r3 r4 r5 r6 r7 p0 p3 p4 p5 hx ht
 refine ⟨_,_,_,_,_,_,_,_,_,_,_,_,_,B.row (sub.refl _),(PN hg PJ ht8).mono ?_⟩
 rintro _ w9 ⟨ss,ask,int,f,nn,o,c,rfl,hR,hn,hr,g89⟩
 obtain ⟨rfl,hes,hks⟩:=Kf hR
 have e:=(hn rfl).inj Ke
 subst e
 have e1:(cE qo M1 ss 1).length = 8:=by rw [CY hes hks,Va]; exact wx.2.2.1
 rw [e1]
 refine ⟨_,_,_,_,rfl,_,_,_,_,_,_,_,_,_,_,_,_,_,B.row g89,(EN (hg.mono g89) PJ (eJ.mono g89 ht8)).mono ?_⟩
 rintro _ w10 ⟨ss2,ask2,int2,f2,nn2,o2,c2,rfl,hR2,hn2,hr2,g90⟩
 obtain ⟨rfl,hes2,hks2⟩:=Kf hR2
 have e:=(hn2 rfl).inj Ke
 subst e
 have e2:(cE qo M1 ss2 2).length = 1:=by rw [CY hes2 hks2,Va]; exact wx.2.2.2.1
 rw [e2]
 have g80:=g89.trans g90
 refine ⟨_,_,_,_,rfl,_,_,_,_,_,_,_,_,_,_,_,_,_,B.row g80,(Ir (q:=4) (t:=1) (hg.mono g80) PJ (eJ.mono g80 ht8)).mono ?_⟩
 rintro _ w11 ⟨ss3,ask3,int3,f3,e3,nn3,o3,c3,acts,rfl,hR3,hn3,hA3,hr3,g01⟩
 obtain ⟨rfl,hes3,hks3⟩:=Kf hR3
 have e:=(hn3 rfl).inj Ke
 subst e
 have hl3:ss3.length = 5:=by rw [FP hes3]; exact wx.2.2.2.2.2
 rcases hA3 with ⟨h,_⟩ | ⟨_,h,_⟩ | ⟨_,i,j,hi,hj,_,_,rfl,rfl⟩
 ·exact absurd rfl h
 ·rw [hl3] at h
  have:qo.T = 3:=rfl
  omega
 obtain rfl:i = 4:=by omega
 obtain rfl:j = 1:=by omega
 have e4:cP qo M1 ss3 4 1 = [⟨1,3⟩,⟨2,1⟩]:=by rw [Gj hes3 hks3,U_]; exact wx.2.2.2.2.1
 rw [e4] at hr3 ⊢
 refine ⟨_,_,_,_,rfl,yO rfl (yO rfl (yO rfl (yO rfl (yO rfl (ah (St.all w11) λk38 w12 h=>?_)))))⟩
 have g12:Gr w11 w12:=aU 1 h.l
 have hr4:a_ (hp w12) ([⟨1,3⟩,⟨2,1⟩] : List bS) (some ⟨k38,0,none⟩) 2:=Bb rfl (.inr ⟨_,rfl,ai 0 h.l⟩)
 refine (zH (hr3.mono g12) hr4 (by decide)).mono ?_
 rintro _ w13 ⟨rfl,g13⟩
 exact ⟨_,rfl,rfl,g8.trans (g80.trans (g01.trans (g12.trans g13)))⟩
end Go.Proofs.YtndaepmjkbmjmaaGreatDoor
namespace Go.V
section
variable {g:af} {nn:List Bool} {ss:List SQ}
theorem LC (hc:ak g) (hA:bn g ss) {q m d:Nat} {r:SQ} {p:aH} {s:Int} (hq:ss[q]? = some r) (hy:nZ g r.1.2 ⟨(m:Int),(d:Int)⟩) (hp:g.prods[m]? = some p) (hs:p.right[d]? = some s) (hT:(g.T:Int)<=s):∃ (v j:Nat) (r' : SQ),(bm g ss)[v]? = some ⟨(q:Int),s⟩/\eW ss q s = some (j:Int)/\ss[j]? = some r'/\(⟨(m:Int),((d + 1:Nat):Int)⟩ : ag)∈r'.1.2:=by
 obtain ⟨j,r',h1,h2,h3⟩:=uk hc hA hq hy (fF hp hs) (by omega)
 obtain ⟨v,hv⟩:=Pr (g:=g) h1 hT
 exact ⟨v,j,r',hv,h1,h2,by simpa using h3⟩
end
inductive zI (g:af) (ss:List SQ):Nat->Nat->Nat->Nat->Prop
 | st:zI g ss 0 0 0 0
 | sh (q m d j x:Nat) (p:aH) (s:Int):g.prods[m]? = some p->p.right[d]? = some s->eW ss q s = some (j:Int)->zI g ss q m d x->zI g ss j m (d + 1) x
 | fs (q m d n x:Nat) (p p' : aH) (s:Int) (r:SQ):ss[q]? = some r->nZ g r.1.2 ⟨(m:Int),(d:Int)⟩->g.prods[m]? = some p->p.right[d]? = some s->g.prods[n]? = some p'->p'.left = s->qZ g (p.right.drop (d + 1)) x->zI g ss q n 0 x
 | up (q m d n x:Nat) (p p' : aH) (s:Int):g.prods[m]? = some p->p.right[d]? = some s->g.prods[n]? = some p'->p'.left = s->DC g (p.right.drop (d + 1))->zI g ss q m d x->zI g ss q n 0 x
section
variable {g:af} {nn:List Bool} {ss:List SQ}
theorem zI.VX (hc:ak g) (hA:bn g ss) {m i x:Nat} {p:aH} (hp:g.prods[m]? = some p) (h:zI g ss i m 0 x) (hi:i < ss.length):∀ (d q:Nat),d<=p.right.length->b9 ss (i:Int) (p.right.take d) = (q:Int)->zI g ss q m d x/\q < ss.length
 | 0,q,_,hw=>by
  rw [List.take_zero] at hw
  have hw:(i:Int) = q:=hw
  have:i = q:=by omega
  subst this
  exact ⟨h,hi⟩
 | d + 1,q,hd,hw=>by
  have hs:p.right[d]? = some p.right[d]:=Wv (by omega)
  rw [bA hs,tp (λi s j h=>iP hc hA h) _ _ _ (W7 _) (by omega)] at hw
  obtain ⟨k,hk⟩ : ∃ k,k = b9 ss (i:Int) (p.right.take d):=⟨_,rfl⟩
  rw [<- hk] at hw
  by_cases h0:k = -1
  ·rw [WJ h0] at hw; omega
  ·rw [WB h0] at hw
   have hk0:0<=k:=by
    rcases xI (ss:=ss) (λi s j h=>iP hc hA h) (p.right.take d) i (W7 _) (by omega) with h | h
    ·rw [<- hk] at h; exact absurd h h0
    ·rw [<- hk] at h; exact h.1
   obtain ⟨k',rfl⟩ : ∃ k' : Nat,k = k':=⟨k.toNat,by omega⟩
   obtain ⟨ih,ihl⟩:=zI.VX hc hA hp h hi d k' (by omega) hk.symm
   rw [jn,WQ] at hw
   cases hn:eW ss k' p.right[d] with
   | none=>rw [hn] at hw; simp at hw
   | some j =>
    rw [hn] at hw
    have hw:b9 ss j [] = (q:Int):=hw
    have hj:j = q:=hw
    subst hj
    obtain ⟨_,_,_,_,_,_,hto⟩:=pG hn
    exact ⟨.sh k' m d q x p _ hp hs hn ih,(iP hc hA hn).2 |> λh=>by omega⟩
theorem T8 (hc:ak g) {p:aH} (hp:p∈g.prods) {s:Int} (hs:s∈p.right):s≠g.T:=by
 obtain ⟨_,hsy,hpr,p0,hp0,hl0,hr0,_⟩:=hc
 obtain ⟨n,hn⟩:=W3 hp
 cases n with
 | zero =>
  rw [hp0] at hn; cases hn
  rw [hr0,WW] at hs
  have:=hpr.2.2.2.2.1
  omega
 | succ n =>
  have hm:p∈g.prods.drop 1:=by
   refine Wu (i:=n) ?_
   rw [W8,Yv]; exact hn
  have:=(hpr.2.2.1 p hm).2 s hs
  unfold eM at this
  omega
theorem LD (hc:ak g) {n:Nat} {p p' : aH} {s:Int} (hp:p∈g.prods) (hs:s∈p.right) (hn:g.prods[n]? = some p') (hl:p'.left = s):n≠0:=λh=>by
 subst h
 have h:=T8 hc hp hs
 obtain ⟨_,_,_,p0,hp0,hl0,_⟩:=hc
 rw [hp0] at hn; cases hn
 omega
theorem RZ (hc:ak g) (hA:bn g ss) (hn:jb g nn) {v x:Nat} (h:dx (uP g nn ss) (J5 g nn ss) v x):∀ (i:Nat) t,(bm g ss)[v]? = some t->t.st = i->∀ (n:Nat) p',g.prods[n]? = some p'->p'.left = t.sym->zI g ss i n 0 x:=by
 refine dx.least (Q:=λv x=>∀ (i:Nat) t,(bm g ss)[v]? = some t->t.st = i->∀ (n:Nat) p',g.prods[n]? = some p'->p'.left = t.sym->zI g ss i n 0 x) (λv x hx i t ht hi n p' hn' hl=>?_) (λv u x hu ih i t ht hi n p' hn' hl=>?_) h
 ·rw [J7 (Wt.1 ht).1] at hx
  obtain ⟨x',e,_,hh⟩:=gZ.1 hx
  have:x' = x:=by omega
  subst this
  obtain ⟨i',j,q,r,f1,hq,f3,f4,f5,hr,hrk⟩:=wv hc hA ht
  have:i' = i:=by omega
  subst this
  rcases RQ hc hA hn hh i' j t ht f1 f4 with ⟨rfl,rfl⟩ | h5
  ·have hi:i' = 0:=by have f1:(0:Int) = i':=f1; omega
   subst hi
   obtain ⟨_,_,_,p0,hp0,hl0,hr0,_⟩:=hc
   exact .up 0 0 0 n 0 p0 p' _ hp0 (by rw [hr0]; rfl) hn' hl (λs hs=>by rw [hr0] at hs; simp at hs) .st
  ·obtain ⟨z,hz,hf⟩:=h5.item hc hA r hr
   rw [hrk] at hz
   obtain ⟨y,h1,h2,rfl⟩:=cJ.1 hz
   obtain ⟨p,hp,hs,_⟩:=x_ (y:=y) (by rw [h2]; omega)
   obtain ⟨hT,hN,hP,hP2,_,_⟩:=hc.ct
   have hK:=(fl hA hq).1
   have hfit:=h1.fit ((di (g:=g) (by omega) i').fit _ (Wu hK))
   have hd:(y.dot + 1).toNat = y.dot.toNat + 1:=by have:=hfit.2.1; omega
   unfold rest at hf
   rw [show g.prods[((⟨y.prod,y.dot + 1⟩ : ag).prod).toNat]? = some p from hp] at hf
   have hf:qZ g (p.right.drop (y.dot + 1).toNat) x':=hf
   rw [hd] at hf
   rw [h2] at hs
   refine .fs i' y.prod.toNat y.dot.toNat n x' p p' _ q hq ?_ hp hs hn' hl hf
   have e:(⟨(y.prod.toNat:Int),(y.dot.toNat:Int)⟩ : ag) = y:=by
    have a1:=hfit.1; have a2:=hfit.2.1
    cases y; simp at *; omega
   rw [e]; exact h1
 ·obtain ⟨h1,h2,h3⟩:=Pq.1 hu
  have hu' : (bm g ss)[u]? = some (bm g ss)[u]:=Wv h2
  unfold xL at h3
  rw [hu'] at h3
  simp only [XL] at h3
  obtain ⟨m,hm,h3⟩:=h3
  rw [WL] at h3
  obtain ⟨_,h3⟩:=h3
  cases hp:g.prods[m]? with
  | none=>rw [hp] at h3; cases h3
  | some p =>
   rw [hp] at h3
   simp only [WL,XL,WH] at h3
   obtain ⟨h4,k,hk,h5,h6⟩:=h3
   have hk:=WY.1 hk
   rw [ht] at h5
   have h5:=Option.some.inj h5
   subst h5
   obtain ⟨i0,j0,q0,_,f1,hq0,_⟩:=wv hc hA hu'
   have hs:p.right[k]? = some (p.right.getD k 0):=by rw [Ww,Wv hk]; rfl
   have hi:b9 ss (bm g ss)[u].st (p.right.take k) = (i:Int):=hi
   rw [f1] at hi
   have hb:=ih i0 _ hu' f1 m p hp h4
   have:=(hb.VX hc hA hp (Wt.1 hq0).1 k i (by omega) hi).1
   exact .up i m k n x p p' _ hp hs hn' hl ((Ig hc hn).1 h6) this
structure VY (g:af) (nn:List Bool) (ss:List SQ) (q m d x:Nat):Prop where
 it:∃ r,ss[q]? = some r/\nZ g r.1.2 ⟨(m:Int),(d:Int)⟩
 pr:∃ p,g.prods[m]? = some p/\d<=p.right.length/\(m = 0->x = 0/\b9 ss 0 (p.right.take d) = (q:Int)) /\
  (m≠0->∃ (i v:Nat),(bm g ss)[v]? = some ⟨(i:Int),p.left⟩/\b9 ss (i:Int) (p.right.take d) = (q:Int)/\dx (uP g nn ss) (J5 g nn ss) v x)
theorem zI.inv (hc:ak g) (hA:bn g ss) (hn:jb g nn) {q m d x:Nat} (h:zI g ss q m d x):VY g nn ss q m d x:=by
 have hc':=hc
 obtain ⟨_,_,hpr,p0,hp0,hl0,hr0,_⟩:=hc'
 have hst:=hpr.2.2.2.2.1
 have hpos:=hA.pos
 induction h with
 | st =>
  obtain ⟨r,hr⟩ : ∃ r,ss[0]? = some r:=⟨_,Wv hpos⟩
  have hK:=(fl hA hr).1
  have e:r.1.2 = [⟨0,0⟩]:=by
   have:(b_ g 0).1[0]? = some [⟨0,0⟩]:=rfl
   rw [this] at hK
   exact (Option.some.inj hK).symm
  exact ⟨⟨r,hr,.base (by rw [e]; simp)⟩,p0,hp0,WC _,λ_=>⟨rfl,rfl⟩,λh=>absurd rfl h⟩
 | sh q m d j x p s hp hs hj _ ih =>
  obtain ⟨⟨r,hr,hcl⟩,p',hp',hd,h0,h1⟩:=ih
  rw [hp] at hp'; cases hp'
  have hdl:=(Wt.1 hs).1
  have hsy:=hc.sym (Wu hp) (Wu hs)
  obtain ⟨j',r',e1,e2,e3⟩:=uk hc hA hr hcl (fF hp hs) (by omega)
  rw [hj] at e1
  have:j = j':=by have:=Option.some.inj e1; omega
  subst this
  have step:∀ i:Nat,i < ss.length->b9 ss (i:Int) (p.right.take d) = (q:Int)->b9 ss (i:Int) (p.right.take (d + 1)) = (j:Int):=λi hi hw=>by
   rw [bA hs,tp (λi s j h=>iP hc hA h) _ _ _ (W7 _) (by omega),hw,WB (by omega),jn,WQ,hj]
   rfl
  refine ⟨⟨r',e2,.base (by simpa using e3)⟩,p,hp,hdl,λhm=>⟨(h0 hm).1,?_⟩,λhm=>?_⟩
  ·have:=step 0 hpos (h0 hm).2
   exact this
  ·obtain ⟨i,v,q1,q2,q3⟩:=h1 hm
   obtain ⟨i',_,q',_,f1,hq',_⟩:=wv hc hA q1
   have:i = i':=by have f1:(i:Int) = i':=f1; omega
   subst this
   exact ⟨i,v,q1,step i (Wt.1 hq').1 q2,q3⟩
 | fs q m d n x p p' s r hr hcl hp hs hn' hl hf =>
  have hsT:(g.T:Int)<=s:=by rw [<- hl]; exact hc.left (Wu hn')
  obtain ⟨v,j,r',hv,f1,f2,f3⟩:=LC hc hA hr hcl hp hs hsT
  have hn0:=LD hc (Wu hp) (Wu hs) hn' hl
  refine ⟨⟨r,hr,.step hcl (by rw [fF hp hs]; omega) hn' (by rw [fF hp hs]; exact hl)⟩,p',hn',WC _,λh=>absurd h hn0,λ_=>⟨q,v,by rw [hl]; exact hv,rfl,dx.iff.2 (.inl ?_)⟩⟩
  have hh:=(DI.T3 hc hA hp f2 (.base f3) hf).has hc hA hn v q _ hv rfl f1
  have hlt:=U6 hc hA hh
  obtain ⟨sT,_⟩:=hc.ct
  rw [J7 (Wt.1 hv).1]
  exact gZ.2 ⟨x,rfl,by omega,hh⟩
 | up q m d n x p p' s hp hs hn' hl hnu _ ih =>
  obtain ⟨⟨r,hr,hcl⟩,p2,hp2,hd,h0,h1⟩:=ih
  rw [hp] at hp2; cases hp2
  have hsT:(g.T:Int)<=s:=by rw [<- hl]; exact hc.left (Wu hn')
  obtain ⟨v,j,r',hv,f1,f2,f3⟩:=LC hc hA hr hcl hp hs hsT
  have hn0:=LD hc (Wu hp) (Wu hs) hn' hl
  refine ⟨⟨r,hr,.step hcl (by rw [fF hp hs]; omega) hn' (by rw [fF hp hs]; exact hl)⟩,p',hn',WC _,λh=>absurd h hn0,λ_=>⟨q,v,by rw [hl]; exact hv,rfl,?_⟩⟩
  by_cases hm:m = 0
  ·subst hm
   obtain ⟨rfl,hw⟩:=h0 rfl
   rw [hp0] at hp; cases hp
   have hdl:=(Wt.1 hs).1
   rw [hr0] at hdl
   have hd0:d = 0:=by simp at hdl; omega
   subst hd0
   have hq:(0:Int) = q:=hw
   have hq:q = 0:=by omega
   subst hq
   rw [hr0] at hs
   have hs:g.start = s:=Option.some.inj hs
   subst hs
   obtain ⟨sT,_⟩:=hc.ct
   have hd:dx (q8 g nn ss) (pW g ss) v 0:=dx.iff.2 (.inl ((Ga hc hA hv rfl f1).2 (.inl ⟨rfl,rfl⟩)))
   refine dx.iff.2 (.inl ?_)
   rw [J7 (Wt.1 hv).1]
   exact gZ.2 ⟨0,rfl,by omega,hd⟩
  ·obtain ⟨i,u,hu,hw,hh⟩:=h1 hm
   refine dx.iff.2 (.inr ⟨u,Pq.2 ⟨(Wt.1 hv).1,(Wt.1 hu).1,?_⟩,hh⟩)
   unfold xL
   rw [hu]
   simp only [XL,WY]
   refine ⟨m,(Wt.1 hp).1,?_⟩
   rw [W4 hm,X9,hp]
   simp only [decide_true,X9,XL,WY,WL,WH]
   refine ⟨d,(Wt.1 hs).1,?_,(Ig hc hn).2 hnu⟩
   rw [hv,hw,Ww,hs]
   rfl
theorem PO (hc:ak g) (hA:bn g ss) (hn:jb g nn) {q m:Nat} {p:aH} (hp:g.prods[m]? = some p) (hm:m≠0) {z:Int}:z∈(dV g (Dc g nn ss) ⟨(q:Int),(m:Int),bX (bm g ss).length (dw g ss q m)⟩).tm↔∃ x:Nat,z = x/\x < g.T/\zI g ss q m p.right.length x:=by
 rw [Ih]
 refine exists_congr λx=>and_congr_right λ_=>and_congr_right λhx=>?_
 constructor
 ·rintro ⟨t,ht,hf⟩
  obtain ⟨u,rfl,hu,hb⟩:=cK.1 ht
  have ht:(bm g ss)[u]? = some (bm g ss)[u]:=Wv hu
  obtain ⟨hmm,p',hp',hw⟩:=(jq ht).1 hb
  rw [hp] at hp'; cases hp'
  obtain ⟨_,p2,hp2,hl⟩:=iT.1 hmm
  rw [hp] at hp2; cases hp2
  rw [WQ,Ps hu] at hf
  obtain ⟨x',e,_,hh⟩:=gZ.1 hf
  have:x' = x:=by omega
  subst this
  obtain ⟨i,_,q0,_,f1,hq0,_⟩:=wv hc hA ht
  have h0:=RZ hc hA hn hh i _ ht f1 m p hp hl
  rw [f1] at hw
  exact (h0.VX hc hA hp (Wt.1 hq0).1 p.right.length q (WO _) (by rw [WT]; exact hw)).1
 ·intro h
  obtain ⟨_,p',hp',_,_,h1⟩:=h.inv hc hA hn
  rw [hp] at hp'; cases hp'
  obtain ⟨i,v,q1,q2,q3⟩:=h1 hm
  rw [WT] at q2
  have hv:=(Wt.1 q1).1
  obtain ⟨sT,_⟩:=hc.ct
  refine ⟨(v:Int),cK.2 ⟨v,rfl,hv,(jq q1).2 ⟨iT.2 ⟨by omega,p,hp,rfl⟩,p,hp,q2⟩⟩,?_⟩
  rw [WQ,Ps hv]
  exact gZ.2 ⟨x,rfl,by omega,q3⟩
end
abbrev dY:=Nat->Nat->List Bool
def bM (g:af) (ss:List SQ) (q:Nat):List ag:=match ss[q]? with
 | some r=>cls g r.1.2
 | none=>[]
def ib (g:af) (ss:List SQ) (q i:Nat):Option ag:=(bM g ss q)[i]?
def MN (g:af) (ss:List SQ) (q:Nat):List (Nat × Nat):=(List.range (bM g ss q).length).map λi=>(q,i)
def DK (g:af) (ss:List SQ) (n:Nat):List (Nat × Nat):=(List.range n).flatMap (MN g ss)
abbrev fJ (g:af) (ss:List SQ):List (Nat × Nat):=DK g ss ss.length
def De (F:dY) (q i:Nat) (v:List Bool):dY:=λq' i'=>if q' = q/\i' = i then v else F q' i'
def nr (D:List (Nat × Nat)) (F:dY):Nat:=(D.map λx=>aY (F x.1 x.2)).sum
section
variable {g:af} {nn:List Bool} {ss:List SQ} {F F' F0:dY} {q i:Nat} {v:List Bool} {D:List (Nat × Nat)}
theorem gC:De F q i v q i = v:=by unfold De; rw [WJ ⟨rfl,rfl⟩]
theorem nt {q' i' : Nat} (h:¬ (q' = q/\i' = i)):De F q i v q' i' = F q' i':=by unfold De; rw [WB h]
theorem Is:De F q i (F q i) = F:=by
 funext q' i'; unfold De
 by_cases h:q' = q/\i' = i
 ·rw [WJ h,h.1,h.2]
 ·rw [WB h]
theorem EP {n:Nat}:DK g ss (n + 1) = DK g ss n ++ MN g ss n:=by unfold DK; rw [XD,Xe]; simp
theorem C4 {x:Nat × Nat}:x∈MN g ss q↔x.1 = q/\x.2 < (bM g ss q).length:=by
 unfold MN
 rw [WS]
 constructor
 ·rintro ⟨i,hi,rfl⟩; exact ⟨rfl,WY.1 hi⟩
 ·rintro ⟨rfl,h⟩; exact ⟨x.2,WY.2 h,rfl⟩
theorem iY {n:Nat} {x:Nat × Nat}:x∈DK g ss n↔x.1 < n/\x.2 < (bM g ss x.1).length:=by
 unfold DK
 rw [XS]
 constructor
 ·rintro ⟨q,hq,h⟩
  obtain ⟨rfl,h2⟩:=C4.1 h
  exact ⟨WY.1 hq,h2⟩
 ·rintro ⟨h1,h2⟩; exact ⟨x.1,WY.2 h1,C4.2 ⟨rfl,h2⟩⟩
theorem Gm:∀ n,(DK g ss n).Nodup
 | 0=>by simp [DK]
 | n + 1=>by
  rw [EP,Xb]
  refine ⟨Gm n,?_,λa ha b hb e=>?_⟩
  ·unfold MN
   rw [Xi,Xn]
   exact List.Pairwise.imp (λh e=>h (by cases e; rfl)) (Xi.1 List.nodup_range)
  ·have h1:=iY.1 ha
   have h2:=C4.1 hb
   rw [e] at h1; omega
theorem Bc {y:ag} (h:ib g ss q i = some y):q < ss.length/\i < (bM g ss q).length:=by
 refine ⟨?_,(Wt.1 h).1⟩
 refine Nat.lt_of_not_le λhle=>?_
 unfold ib bM at h
 rw [WR hle] at h
 simp at h
theorem iZ {y:ag} (h:ib g ss q i = some y):(q,i)∈fJ g ss:=iY.2 (Bc h)
theorem LF {r:SQ} (hr:ss[q]? = some r):bM g ss q = cls g r.1.2:=by unfold bM; rw [hr]
theorem yi {r:SQ} {y:ag} (hr:ss[q]? = some r) (h:nZ g r.1.2 y):∃ i,ib g ss q i = some y:=by
 obtain ⟨i,hi⟩:=W3 (iN.2 h)
 exact ⟨i,by unfold ib; rw [LF hr]; exact hi⟩
theorem R0 {r:SQ} {y:ag} (hr:ss[q]? = some r) (h:ib g ss q i = some y):nZ g r.1.2 y:=by
 unfold ib at h
 rw [LF hr] at h
 exact iN.1 (Wu h)
theorem Vc:(bM g ss q).Nodup:=by
 unfold bM
 split
 ·have h:∀ {I:List ag},iz (cls g I):=xv
  exact Xi.2 (h.imp λ{a b} h e=>by subst e; unfold ag.lt at h; omega)
 ·simp
theorem yj {i' : Nat} {y:ag} (h:ib g ss q i = some y) (h' : ib g ss q i' = some y):i = i' :=
 (List.getElem?_inj (Wt.1 h).1 Vc).1 (by show ib g ss q i = ib g ss q i'; rw [h,h'])
theorem LG {F:dY} {q i:Nat} {v:List Bool}:∀ {D:List (Nat × Nat)},D.Nodup->(q,i)∈D->nr D (De F q i v) + aY (F q i) = nr D F + aY v
 | [],_,h=>by cases h
 | x :: D,hn,h=>by
  obtain ⟨h1,h2⟩:=Xp.1 hn
  have e:∀ F:dY,nr (x :: D) F = aY (F x.1 x.2) + nr D F:=λF=>by unfold nr; rw [Xf,Yz]
  rw [e,e]
  by_cases hx:x = (q,i)
  ·subst hx
   have:nr D (De F q i v) = nr D F:=by
    unfold nr
    congr 1
    refine XJ λy hy=>?_
    rw [nt λhh=>h1 (by rw [<- hh.1,<- hh.2]; exact hy)]
   rw [this]
   show aY (De F q i v q i) + _ + _ = aY (F q i) + _ + _
   rw [gC]; omega
  ·rw [nt λhh=>hx (by rw [<- hh.1,<- hh.2])]
   have:=LG (F:=F) (v:=v) h2 ((WM.1 h).resolve_left (X2 hx))
   omega
theorem LH {B:Nat}:∀ {D:List (Nat × Nat)},(∀ x∈D,aY (F x.1 x.2)<=B)->nr D F<=D.length * B
 | [],_=>by simp [nr]
 | x :: D,h=>by
  have e:nr (x :: D) F = aY (F x.1 x.2) + nr D F:=by unfold nr; rw [Xf,Yz]
  rw [e,Xj,XU]
  have:=LH (D:=D) λy hy=>h y (by simp [hy])
  have:=h x (by simp)
  omega
theorem MO {bs cs:List Bool} (hl:cs.length = bs.length) (hs:∀ k,aO bs k = true->aO cs k = true):aY bs<=aY cs:=by
 unfold aY; rw [hl]; exact (zb hs _).1
structure lF (D:List (Nat × Nat)) (F0 F:dY) (b:Bool):Prop where
 le:nr D F0<=nr D F
 yes:b = true->nr D F0 < nr D F
 no:b = false->F = F0
theorem lF.start:lF D F F false:=⟨WO _,λh=>(by cases h),λ_=>rfl⟩
theorem lF.trans {b b' : Bool} (h:lF D F0 F b) (h' : lF D F F' b'):lF D F0 F' (b || b'):=by
 have h1:=h.le
 have h2:=h'.le
 refine ⟨by omega,λhb=>?_,λhb=>?_⟩
 ·rcases Xt _ _ ▸ hb with hb | hb
  ·have:=h.yes hb; omega
  ·have:=h'.yes hb; omega
 ·rw [Yu] at hb
  rw [h'.no hb.2,h.no hb.1]
theorem lF.one {T:Nat} {l:List Bool} (hD:D.Nodup) (hm:(q,i)∈D) (hF:(F q i).length = T) (hl:l.length = T):lF D F (De F q i (vZ T (F q i) l)) (decide (vZ T (F q i) l≠F q i)):=by
 have h1:=LG (F:=F) (v:=vZ T (F q i) l) hD hm
 have h2:aY (F q i)<=aY (vZ T (F q i) l):=MO (by rw [iV,hF]) λk hk=>(zf hF hl k).2 (.inl hk)
 refine ⟨by omega,λhb=>?_,λhb=>?_⟩
 ·have hb:=Wr hb
  have:aY (vZ T (F q i) l)≠aY (F q i):=λe=>hb (CA (by rw [iV,hF]) (λk hk=>(zf hF hl k).2 (.inl hk)) e)
  omega
 ·have hb:=Ws hb
  have:vZ T (F q i) l = F q i:=Xv hb
  rw [this,Is]
structure z8 (g:af) (ss:List SQ) (F:dY):Prop where
 ln:∀ q i,(q,i)∈fJ g ss->(F q i).length = g.T
 sd:∀ q i y t,ib g ss q i = some y->aO (F q i) t = true->zI g ss q y.prod.toNat y.dot.toNat t
 st:∀ i,ib g ss 0 i = some ⟨0,0⟩->aO (F 0 i) 0 = true
theorem z8.up (h:z8 g ss F) {y:ag} {l:List Bool} (hy:ib g ss q i = some y) (hl:l.length = g.T) (hs:∀ t,aO l t = true->zI g ss q y.prod.toNat y.dot.toNat t):z8 g ss (De F q i (vZ g.T (F q i) l)):=by
 have hF:=h.ln q i (iZ hy)
 refine ⟨λq' i' hm=>?_,λq' i' y' t hy' ht=>?_,λi' hi'=>?_⟩
 ·by_cases e:q' = q/\i' = i
  ·rw [e.1,e.2,gC,iV]
  ·rw [nt e]; exact h.ln q' i' hm
 ·by_cases e:q' = q/\i' = i
  ·obtain ⟨rfl,rfl⟩:=e
   rw [gC] at ht
   rw [hy] at hy'; cases hy'
   rcases (zf hF hl t).1 ht with ht | ht
   ·exact h.sd _ _ _ _ hy ht
   ·exact hs t ht
  ·rw [nt e] at ht; exact h.sd _ _ _ _ hy' ht
 ·by_cases e:0 = q/\i' = i
  ·obtain ⟨rfl,rfl⟩:=e
   rw [gC]
   exact (zf hF hl 0).2 (.inl (h.st _ hi'))
  ·rw [nt e]; exact h.st _ hi'
theorem z8.sum (h:z8 g ss F):nr (fJ g ss) F<=(fJ g ss).length * g.T:=LH λx hx=>by
 have:=fy (F x.1 x.2)
 rw [h.ln x.1 x.2 hx] at this
 exact this
def V9 (g:af) (ss:List SQ) (F:dY) (q i:Nat) (y:ag) (s:Int):Prop:=∀ q' i' : Nat,eW ss q s = some (q' : Int)->ib g ss q' i' = some ⟨y.prod,y.dot + 1⟩->∀ t,aO (F q i) t = true->aO (F q' i') t = true
def VZ (g:af) (ss:List SQ) (F:dY) (q:Nat) (s:Int) (l:List Bool) (k:Nat):Prop:=∀ (n:Nat) p' i',n < k->g.prods[n]? = some p'->p'.left = s->ib g ss q i' = some ⟨(n:Int),0⟩->∀ t,aO l t = true->aO (F q i') t = true
def Qj (g:af) (F:dY) (q i:Nat) (r:List Int) (l:List Bool):Prop:=l.length = g.T/\∀ t,aO l t = true↔t < g.T/\(qZ g r t\/(DC g r/\aO (F q i) t = true))
def PQ (g:af) (ss:List SQ) (F:dY) (q i:Nat):Prop:=∀ y,ib g ss q i = some y->0<=cO g y->V9 g ss F q i y (cO g y)/\((g.T:Int)<=cO g y->∀ p,g.prods[y.prod.toNat]? = some p->∀ l,Qj g F q i (p.right.drop (y.dot.toNat + 1)) l->VZ g ss F q (cO g y) l g.prods.length)
open Classical in
theorem Qj.ex (F:dY) (q i:Nat) (r:List Int):∃ l,Qj g F q i r l:=by
 refine ⟨xa g.T λt=>decide (t < g.T) && decide (qZ g r t\/(DC g r/\aO (F q i) t = true)),kV _ _,λt=>?_⟩
 rw [xb λk hk=>by simp; omega]
 simp
theorem T9 (hc:ak g) (hA:bn g ss) (hn:jb g nn) (hI:z8 g ss F) (hC:∀ q i,(q,i)∈fJ g ss->PQ g ss F q i) {q m d x:Nat} (h:zI g ss q m d x) (hx:x < g.T):∃ i,ib g ss q i = some ⟨(m:Int),(d:Int)⟩/\aO (F q i) x = true:=by
 induction h with
 | st =>
  obtain ⟨⟨r,hr,hcl⟩,_⟩:=(zI.st (g:=g) (ss:=ss)).inv hc hA hn
  obtain ⟨i,hi⟩:=yi hr hcl
  exact ⟨i,hi,hI.st i hi⟩
 | sh q m d j x p s hp hs hj h0 ih =>
  obtain ⟨i,hi,ht⟩:=ih hx
  obtain ⟨⟨r,hr,hcl⟩,_⟩:=(zI.sh q m d j x p s hp hs hj h0).inv hc hA hn
  obtain ⟨i',hi'⟩:=yi hr hcl
  have ha:cO g ⟨(m:Int),(d:Int)⟩ = s:=fF hp hs
  have hsy:=hc.sym (Wu hp) (Wu hs)
  have h1:=(hC q i (iZ hi) _ hi (by rw [ha]; omega)).1
  rw [ha] at h1
  exact ⟨i',hi',h1 j i' hj (by simpa using hi') x ht⟩
 | fs q m d n x p p' s r hr hcl hp hs hn' hl hf =>
  obtain ⟨i,hi⟩:=yi hr hcl
  obtain ⟨⟨r',hr',hcl'⟩,_⟩:=(zI.fs q m d n x p p' s r hr hcl hp hs hn' hl hf).inv hc hA hn
  obtain ⟨i',hi'⟩:=yi hr' hcl'
  have ha:cO g ⟨(m:Int),(d:Int)⟩ = s:=fF hp hs
  have hT:(g.T:Int)<=s:=by rw [<- hl]; exact hc.left (Wu hn')
  obtain ⟨l,hl2⟩:=Qj.ex (g:=g) F q i (p.right.drop (d + 1))
  have h1:=(hC q i (iZ hi) _ hi (by rw [ha]; omega)).2 (by rw [ha]; exact hT) p (by show g.prods[(m:Int).toNat]? = _; rw [WQ]; exact hp) l (by simpa using hl2)
  rw [ha] at h1
  exact ⟨i',hi',h1 n p' i' (Wt.1 hn').1 hn' hl (by simpa using hi') x ((hl2.2 x).2 ⟨hx,.inl hf⟩)⟩
 | up q m d n x p p' s hp hs hn' hl hnu h0 ih =>
  obtain ⟨i,hi,ht⟩:=ih hx
  obtain ⟨⟨r',hr',hcl'⟩,_⟩:=(zI.up q m d n x p p' s hp hs hn' hl hnu h0).inv hc hA hn
  obtain ⟨i',hi'⟩:=yi hr' hcl'
  have ha:cO g ⟨(m:Int),(d:Int)⟩ = s:=fF hp hs
  have hT:(g.T:Int)<=s:=by rw [<- hl]; exact hc.left (Wu hn')
  obtain ⟨l,hl2⟩:=Qj.ex (g:=g) F q i (p.right.drop (d + 1))
  have h1:=(hC q i (iZ hi) _ hi (by rw [ha]; omega)).2 (by rw [ha]; exact hT) p (by show g.prods[(m:Int).toNat]? = _; rw [WQ]; exact hp) l (by simpa using hl2)
  rw [ha] at h1
  exact ⟨i',hi',h1 n p' i' (Wt.1 hn').1 hn' hl (by simpa using hi') x ((hl2.2 x).2 ⟨hx,.inr ⟨hnu,ht⟩⟩)⟩
end
end Go.V
namespace Go.Proofs.YtndaepmjkbmjmaaGreatDoor
abbrev vc:FuncId:=45
def rG:bg:={ rngs:=[],loops:=[(3,[(6,(.one (.int .i64)))]),(8,[(8,(.one .slice)),(9,(.one (.int .i64)))]),(17,[(11,(.one .bool))]),(20,[(11,(.one .bool)),(12,(.one (.int .i64)))]),(23,[(11,(.one .bool)),(13,(.one (.int .i64)))])],joins:=[],blocks:=[] }
theorem rJ {a:YB} {b c:Nat} {d:YB} {e f:Nat} {g:YB} {i j:Nat} {k:Int} {l:YB} {m n:Nat} {o:YB} {p q:Nat} {s t:Int} {w:YC} {R:Value->WP} (h:new w (oC [vS a b c,vS d e f,vS g i j,iI k,vS l m n] 27) λk1 w1=>new w1 (oC [vS o p q,iI s,iI t] 45) λk2 w2=>∀ w3,drawn w2 w3->∃ (I1:WP),I1 w3/\∃ o1 k3 k4 o2 k5 k6 o3 k7 k8 n1 o4 k9 k10,(∀ w4,I1 w4->V.rowAt w4 (aM k1) 0 5 = some [vS o1 k3 k4,vS o2 k5 k6,vS o3 k7 k8,iI n1,vS o4 k9 k10])/\∃ o5 k11 k12 n2 n3,(∀ w5,I1 w5->V.rowAt w5 (aM k2) 0 3 = some [vS o5 k11 k12,iI n2,iI n3])/\∃ o6 k13 k14 o7 k15 k16 o8 k17 k18 n4 o9 k19 k20,(∀ w6,I1 w6->V.rowAt w6 (aM k1) 0 5 = some [vS o6 k13 k14,vS o7 k15 k16,vS o8 k17 k18,iI n4,vS o9 k19 k20])/\rE 80 [vG [vS o6 k13 k14,vS o7 k15 k16,vS o8 k17 k18,iI n4,vS o9 k19 k20]] w3 λv1 w7=>∃ o10,v1 = vP o10/\I1 w7/\new w7 (oC [vS o1 k3 k4,vS o2 k5 k6,vS o3 k7 k8,iI n1,vS o4 k9 k10,vS o5 k11 k12,iI n2,iI n3,vS none 0 0,vS none 0 0,vP o10] 147) λk21 w8=>I1 w8/\∃ (x1:lP [(6,aD)]),∃ (x2:lN [(6,aD)]),x1 0 w8/\∀ (I2:Nat->Value) (n5:Int) (w9:YC),x1 n5 w9->∃ o11 k22 k23,World.cell? w9 (aM k2) = some (vS o11 k22 k23)/\br (decide (n5 < (k22:Int))) (∀ w10,drawn w9 w10->∃ (I3:WP),I3 w10/\∃ o12 k24 k25 o13 k26 k27 o14 k28 k29 n6 o15 k30 k31,(∀ w11,I3 w11->V.rowAt w11 (aM k1) 0 5 = some [vS o12 k24 k25,vS o13 k26 k27,vS o14 k28 k29,iI n6,vS o15 k30 k31])/\∃ o16 k32 k33,(∀ w12,I3 w12->World.cell? w12 (aM k2) = some (vS o16 k32 k33))/\idx o16 k32 n5 2 λa1=>∃ o17 k34 k35,(∀ w13,I3 w13->World.cell? w13 a1 = some (vS o17 k34 k35))/\rE 76 [vG [vS o12 k24 k25,vS o13 k26 k27,vS o14 k28 k29,iI n6,vS o15 k30 k31],vS o17 k34 k35] w10 λv2 w14=>∃ o18 k36 k37,v2 = vS o18 k36 k37/\I3 w14/\∃ (x3:lP [(8,fX),(9,aD)]),∃ (x4:lN [(8,fX),(9,aD)]),x3 none 0 0 0 w14/\∀ (I4:Nat->Value) (o19:YB) (k38 k39:Nat) (n7:Int) (w15:YC),x3 o19 k38 k39 n7 w15->br (decide (n7 < (k36:Int))) (∃ o20 k40 k41,World.cell? w15 (aM k1) = some (vS o20 k40 k41)/\wG (k40:Int) (k40:Int) 1/\new w15 (Obj.cells (Array.mk (jB (Int.toNat (k40:Int)) [vB false])) 4) λk42 w16=>new w16 (oC [vS (some (aM k42)) (Int.toNat (k40:Int)) (Int.toNat (k40:Int))] 149) λk43 w17=>rS (ir 148 (Array.mk [vS o19 k38 k39,vS (some (aM k43)) 1 1])) w17 λv3 w18=>∃ o21 k44 k45,v3 = vS o21 k44 k45/\ax (n7 + 1)/\x3 o21 k44 k45 (n7 + 1) w18/\x4 o21 k44 k45 (n7 + 1) w18 < x4 o19 k38 k39 n7 w15) (∃ o22 k46 k47,World.cell? w15 (Addr.add (aM k21) 8) = some (vS o22 k46 k47)/\new w15 (oC [vS o18 k36 k37] 51) λk48 w19=>rS (ir 144 (Array.mk [vS o22 k46 k47,vS (some (aM k48)) 1 1])) w19 λv4 w20=>∃ o23 k49 k50,v4 = vS o23 k49 k50/\st1 w20 (Addr.add (aM k21) 8) (vS o23 k49 k50) λw21=>∃ o24 k51 k52,World.cell? w21 (Addr.add (aM k21) 9) = some (vS o24 k51 k52)/\new w21 (oC [vS o19 k38 k39] 148) λk53 w22=>rS (ir 145 (Array.mk [vS o24 k51 k52,vS (some (aM k53)) 1 1])) w22 λv5 w23=>∃ o25 k54 k55,v5 = vS o25 k54 k55/\st1 w23 (Addr.add (aM k21) 9) (vS o25 k54 k55) λw24=>ax (n5 + 1)/\x1 (n5 + 1) w24/\x2 (n5 + 1) w24 < x2 n5 w9)) (∃ o26 k56 k57,World.cell? w9 (aM k1) = some (vS o26 k56 k57)/\wG (k56:Int) (k56:Int) 1/\new w9 (Obj.cells (Array.mk (jB (Int.toNat (k56:Int)) [vB false])) 4) λk58 w25=>idx (some (aM k58)) (Int.toNat (k56:Int)) 0 1 λa2=>st1 w25 a2 (vB true) λw26=>rE 81 [vP (some (aM k21)),iI 0,vG [iI 0,iI 0],vS (some (aM k58)) (Int.toNat (k56:Int)) (Int.toNat (k56:Int))] w26 λv6 w27=>∃ b1,v6 = vB b1/\∃ (x5:lP [(11,mE)]),∃ (x6:lN [(11,mE)]),x5 true w27/\∀ (I5:Nat->Value) (b2:Bool) (w28:YC),x5 b2 w28->br b2 (∃ (x7:lP [(11,mE),(12,aD)]),∃ (x8:lN [(11,mE),(12,aD)]),x7 false 0 w28/\∀ (I6:Nat->Value) (b3:Bool) (n8:Int) (w29:YC),x7 b3 n8 w29->∃ o27 k59 k60,World.cell? w29 (Addr.add (aM k21) 8) = some (vS o27 k59 k60)/\br (decide (n8 < (k59:Int))) (∃ (x9:lP [(11,mE),(13,aD)]),∃ (x10:lN [(11,mE),(13,aD)]),x9 b3 0 w29/\∀ (I7:Nat->Value) (b4:Bool) (n9:Int) (w30:YC),x9 b4 n9 w30->∃ o28 k61 k62,World.cell? w30 (Addr.add (aM k21) 8) = some (vS o28 k61 k62)/\idx o28 k61 n8 1 λa3=>∃ o29 k63 k64,World.cell? w30 a3 = some (vS o29 k63 k64)/\br (decide (n9 < (k63:Int))) (rE 82 [vP (some (aM k21)),iI n8,iI n9] w30 λv7 w31=>∃ b5,v7 = vB b5/\br b4 (ax (n9 + 1)/\x9 true (n9 + 1) w31/\x10 true (n9 + 1) w31 < x10 b4 n9 w30) (ax (n9 + 1)/\x9 b5 (n9 + 1) w31/\x10 b5 (n9 + 1) w31 < x10 b4 n9 w30)) (ax (n8 + 1)/\x7 b4 (n8 + 1) w30/\x8 b4 (n8 + 1) w30 < x8 b3 n8 w29)) (x5 b3 w29/\x6 b3 w29 < x6 b2 w28)) (R (vP (some (aM k21))) w28))):aA Tryz.prog 45 [(.agg #[(.slice a b c),(.slice d e f),(.slice g i j),(.int .i64 k),(.slice l m n)]),(.agg #[(.slice o p q),(.int .i64 s),(.int .i64 t)])] w R:=rv Tryz.func45 rG (by kernel_rfl) h
abbrev lG:FuncId:=46
def j6:bg:={ rngs:=[],loops:=[(3,[(3,(.one .slice)),(4,(.one (.int .i64)))]),(6,[(3,(.one .slice)),(5,(.one (.int .i64)))])],joins:=[],blocks:=[] }
theorem j7 {a:YB} {w:YC} {R:Value->WP} (h:∃ (x1:lP [(3,fX),(4,aD)]),∃ (x2:lN [(3,fX),(4,aD)]),x1 none 0 0 0 w/\∀ (I1:Nat->Value) (o1:YB) (k1 k2:Nat) (n1:Int) (w1:YC),x1 o1 k1 k2 n1 w1->nn a λa1=>∃ o2 k3 k4,World.cell? w1 (Addr.add a1 8) = some (vS o2 k3 k4)/\br (decide (n1 < (k3:Int))) (∃ (x3:lP [(3,fX),(5,aD)]),∃ (x4:lN [(3,fX),(5,aD)]),x3 o1 k1 k2 0 w1/\∀ (I2:Nat->Value) (o3:YB) (k5 k6:Nat) (n2:Int) (w2:YC),x3 o3 k5 k6 n2 w2->nn a λa2=>∃ o4 k7 k8,World.cell? w2 (Addr.add a2 8) = some (vS o4 k7 k8)/\idx o4 k7 n1 1 λa3=>∃ o5 k9 k10,World.cell? w2 a3 = some (vS o5 k9 k10)/\br (decide (n2 < (k9:Int))) (nn a λa4=>∃ o6 k11 k12,World.cell? w2 (Addr.add a4 8) = some (vS o6 k11 k12)/\idx o6 k11 n1 1 λa5=>∃ o7 k13 k14,World.cell? w2 a5 = some (vS o7 k13 k14)/\idx o7 k13 n2 2 λa6=>∃ n3 n4,V.rowAt w2 a6 0 2 = some [iI n3,iI n4]/\new w2 (oC [iI 0,iI 0] 104) λk15 w3=>fL w3 (aM k15) [iI n3,iI n4] λw4=>∀ w5,drawn w4 w5->∃ (I3:WP),I3 w5/\∃ n5,(∀ w6,I3 w6->World.cell? w6 (aM k15) = some (iI n5))/\br (decide (0 < n5)) (nn a λa7=>∃ o8 k16 k17 o9 k18 k19 o10 k20 k21 n6 o11 k22 k23,(∀ w7,I3 w7->V.rowAt w7 a7 0 5 = some [vS o8 k16 k17,vS o9 k18 k19,vS o10 k20 k21,iI n6,vS o11 k22 k23])/\∃ n7 n8,(∀ w8,I3 w8->V.rowAt w8 (aM k15) 0 2 = some [iI n7,iI n8])/\rE 83 [vG [vS o8 k16 k17,vS o9 k18 k19,vS o10 k20 k21,iI n6,vS o11 k22 k23],vG [iI n7,iI n8]] w5 λv1 w9=>∃ n9,v1 = iI n9/\I3 w9/\br (decide (n9 < 0)) (∀ w10,drawn w9 w10->∃ (I4:WP),I4 w10/\∃ n10,(∀ w11,I4 w11->World.cell? w11 (aM k15) = some (iI n10))/\nn a λa8=>∃ o12 k24 k25,(∀ w12,I4 w12->World.cell? w12 (Addr.add a8 9) = some (vS o12 k24 k25))/\idx o12 k24 n1 1 λa9=>∃ o13 k26 k27,(∀ w13,I4 w13->World.cell? w13 a9 = some (vS o13 k26 k27))/\idx o13 k26 n2 1 λa10=>∃ o14 k28 k29,(∀ w14,I4 w14->World.cell? w14 a10 = some (vS o14 k28 k29))/\rE 84 [vS o14 k28 k29] w10 λv2 w15=>∃ o15 k30 k31,v2 = vS o15 k30 k31/\I4 w15/\new w15 (oC [iI n1,iI n10,vS o15 k30 k31] 58) λk32 w16=>I4 w16/\rS (ir 48 (Array.mk [vS o3 k5 k6,vS (some (aM k32)) 1 1])) w16 λv3 w17=>∃ o16 k33 k34,v3 = vS o16 k33 k34/\I4 w17/\ax (n2 + 1)/\x3 o16 k33 k34 (n2 + 1) w17/\x4 o16 k33 k34 (n2 + 1) w17 < x4 o3 k5 k6 n2 w2) (ax (n2 + 1)/\x3 o3 k5 k6 (n2 + 1) w9/\x4 o3 k5 k6 (n2 + 1) w9 < x4 o3 k5 k6 n2 w2)) (ax (n2 + 1)/\x3 o3 k5 k6 (n2 + 1) w5/\x4 o3 k5 k6 (n2 + 1) w5 < x4 o3 k5 k6 n2 w2)) (ax (n1 + 1)/\x1 o3 k5 k6 (n1 + 1) w2/\x2 o3 k5 k6 (n1 + 1) w2 < x2 o1 k1 k2 n1 w1)) (R (vS o1 k1 k2) w1)):aA Tryz.prog 46 [(.pointer a)] w R:=rv Tryz.func46 j6 (by kernel_rfl) h
abbrev nu:FuncId:=81
def lH:bg:={ rngs:=[],loops:=[(3,[(9,(.one .bool)),(10,(.one (.int .i64)))]),(8,[(9,(.one .bool)),(12,(.one (.int .i64)))])],joins:=[],blocks:=[] }
theorem lJ {a:YB} {b c d:Int} {e:YB} {f g:Nat} {w:YC} {R:Value->WP} (h:new w (oC [iI c,iI d] 104) λk1 w1=>∃ (x1:lP [(9,mE),(10,aD)]),∃ (x2:lN [(9,mE),(10,aD)]),x1 false 0 w1/\∀ (I1:Nat->Value) (b1:Bool) (n1:Int) (w2:YC),x1 b1 n1 w2->nn a λa1=>∃ o1 k2 k3,World.cell? w2 (Addr.add a1 8) = some (vS o1 k2 k3)/\idx o1 k2 b 1 λa2=>∃ o2 k4 k5,World.cell? w2 a2 = some (vS o2 k4 k5)/\br (decide (n1 < (k4:Int))) (∀ w3,drawn w2 w3->∃ (I2:WP),I2 w3/\nn a λa3=>∃ o3 k6 k7,(∀ w4,I2 w4->World.cell? w4 (Addr.add a3 8) = some (vS o3 k6 k7))/\idx o3 k6 b 1 λa4=>∃ o4 k8 k9,(∀ w5,I2 w5->World.cell? w5 a4 = some (vS o4 k8 k9))/\idx o4 k8 n1 2 λa5=>∃ n2 n3,(∀ w6,I2 w6->V.rowAt w6 a5 0 2 = some [iI n2,iI n3])/\∃ n4 n5,(∀ w7,I2 w7->V.rowAt w7 (aM k1) 0 2 = some [iI n4,iI n5])/\∃ v1,(∀ w8,I2 w8->Sem.run Proofs.Tryz.prog (iB BinOp.neq 104 (Operand.tmp 34) (Operand.tmp 35) (vG [iI n2,iI n3]) (vG [iI n4,iI n5])) w8 = Result.ok v1 w8)/\∃ b2,v1 = vB b2/\br b2 (ax (n1 + 1)/\x1 b1 (n1 + 1) w3/\x2 b1 (n1 + 1) w3 < x2 b1 n1 w2) (nn a λa6=>∃ o5 k10 k11,World.cell? w3 (Addr.add a6 9) = some (vS o5 k10 k11)/\idx o5 k10 b 1 λa7=>∃ o6 k12 k13,World.cell? w3 a7 = some (vS o6 k12 k13)/\idx o6 k12 n1 1 λa8=>∃ o7 k14 k15,World.cell? w3 a8 = some (vS o7 k14 k15)/\∃ (x3:lP [(9,mE),(12,aD)]),∃ (x4:lN [(9,mE),(12,aD)]),x3 b1 0 w3/\∀ (I3:Nat->Value) (b3:Bool) (n6:Int) (w9:YC),x3 b3 n6 w9->br (decide (n6 < (f:Int))) (idx e f n6 1 λa9=>∃ b4,World.cell? w9 a9 = some (vB b4)/\br b4 (idx o7 k14 n6 1 λa10=>∃ b5,World.cell? w9 a10 = some (vB b5)/\br (!b5) (idx o7 k14 n6 1 λa11=>st1 w9 a11 (vB true) λw10=>ax (n6 + 1)/\x3 true (n6 + 1) w10/\x4 true (n6 + 1) w10 < x4 b3 n6 w9) (ax (n6 + 1)/\x3 b3 (n6 + 1) w9/\x4 b3 (n6 + 1) w9 < x4 b3 n6 w9)) (ax (n6 + 1)/\x3 b3 (n6 + 1) w9/\x4 b3 (n6 + 1) w9 < x4 b3 n6 w9)) (ax (n1 + 1)/\x1 b3 (n1 + 1) w9/\x2 b3 (n1 + 1) w9 < x2 b1 n1 w2))) (R (vB b1) w2)):aA Tryz.prog 81 [(.pointer a),(.int .i64 b),(.agg #[(.int .i64 c),(.int .i64 d)]),(.slice e f g)] w R:=rv Tryz.func81 lH (by kernel_rfl) h
abbrev mh:FuncId:=82
def kG:bg:={ rngs:=[],loops:=[(12,[(14,(.one (.int .i64)))]),(16,[(10,(.one .bool)),(15,(.one (.int .i64)))])],joins:=[],blocks:=[] }
theorem kH {a:YB} {b c:Int} {w:YC} {R:Value->WP} (h:nn a λa1=>∃ o1 k1 k2,World.cell? w (Addr.add a1 8) = some (vS o1 k1 k2)/\idx o1 k1 b 1 λa2=>∃ o2 k3 k4,World.cell? w a2 = some (vS o2 k3 k4)/\idx o2 k3 c 2 λa3=>∃ n1 n2,V.rowAt w a3 0 2 = some [iI n1,iI n2]/\new w (oC [iI 0,iI 0] 104) λk5 w1=>fL w1 (aM k5) [iI n1,iI n2] λw2=>nn a λa4=>∃ o3 k6 k7,World.cell? w2 (Addr.add a4 9) = some (vS o3 k6 k7)/\idx o3 k6 b 1 λa5=>∃ o4 k8 k9,World.cell? w2 a5 = some (vS o4 k8 k9)/\idx o4 k8 c 1 λa6=>∃ o5 k10 k11,World.cell? w2 a6 = some (vS o5 k10 k11)/\∀ w3,drawn w2 w3->∃ (I1:WP),I1 w3/\nn a λa7=>∃ o6 k12 k13 o7 k14 k15 o8 k16 k17 n3 o9 k18 k19,(∀ w4,I1 w4->V.rowAt w4 a7 0 5 = some [vS o6 k12 k13,vS o7 k14 k15,vS o8 k16 k17,iI n3,vS o9 k18 k19])/\∃ n4 n5,(∀ w5,I1 w5->V.rowAt w5 (aM k5) 0 2 = some [iI n4,iI n5])/\rE 83 [vG [vS o6 k12 k13,vS o7 k14 k15,vS o8 k16 k17,iI n3,vS o9 k18 k19],vG [iI n4,iI n5]] w3 λv1 w6=>∃ n6,v1 = iI n6/\I1 w6/\br (decide (n6 < 0)) (R (vB false) w6) (∀ w7,drawn w6 w7->∃ (I2:WP),I2 w7/\nn a λa8=>∃ o10 k20 k21 n7 n8,(∀ w8,I2 w8->V.rowAt w8 (Addr.add a8 5) 0 3 = some [vS o10 k20 k21,iI n7,iI n8])/\∃ n9,(∀ w9,I2 w9->World.cell? w9 (aM k5) = some (iI n9))/\∃ n10,(∀ w10,I2 w10->World.cell? w10 (Addr.add (aM k5) 1) = some (iI n10))/\ax (n10 + 1)/\rE 73 [vG [vS o10 k20 k21,iI n7,iI n8],iI b,iI n6] w7 λv2 w11=>∃ n11,v2 = iI n11/\I2 w11/\rE 81 [vP a,iI n11,vG [iI n9,iI (n10 + 1)],vS o5 k10 k11] w11 λv3 w12=>∃ b1,v3 = vB b1/\I2 w12/\nn a λa9=>∃ o11 k22 k23 o12 k24 k25 o13 k26 k27 n12 o14 k28 k29,V.rowAt w12 a9 0 5 = some [vS o11 k22 k23,vS o12 k24 k25,vS o13 k26 k27,iI n12,vS o14 k28 k29]/\rE 134 [vG [vS o11 k22 k23,vS o12 k24 k25,vS o13 k26 k27,iI n12,vS o14 k28 k29],iI n6] w12 λv4 w13=>∃ b2,v4 = vB b2/\br (!b2) (R (vB b1) w13) (∀ w14,drawn w13 w14->∃ (I3:WP),I3 w14/\nn a λa10=>∃ o15,(∀ w15,I3 w15->World.cell? w15 (Addr.add a10 10) = some (vP o15))/\nn a λa11=>∃ o16 k30 k31,(∀ w16,I3 w16->World.cell? w16 (Addr.add a11 4) = some (vS o16 k30 k31))/\∃ n13,(∀ w17,I3 w17->World.cell? w17 (aM k5) = some (iI n13))/\idx o16 k30 n13 3 λa12=>∃ o17 k32 k33,(∀ w18,I3 w18->World.cell? w18 (Addr.add a12 1) = some (vS o17 k32 k33))/\∃ n14,(∀ w19,I3 w19->World.cell? w19 (Addr.add (aM k5) 1) = some (iI n14))/\ax (n14 + 1)/\uw o17 k32 k33 (some (n14 + 1)) none none 1 λ(o18:YB) (k34 k35:Nat)=>rE 135 [vP o15,vS o18 k34 k35] w14 λv5 w20=>∃ o19 k36 k37 b3,v5 = vU [vS o19 k36 k37,vB b3]/\I3 w20/\∃ (x1:lP [(14,aD)]),∃ (x2:lN [(14,aD)]),x1 0 w20/\∀ (I4:Nat->Value) (n15:Int) (w21:YC),x1 n15 w21->br (decide (n15 < (k10:Int))) (idx o19 k36 n15 1 λa13=>∃ b4,World.cell? w21 a13 = some (vB b4)/\br b4 (idx o19 k36 n15 1 λa14=>st1 w21 a14 (vB true) λw22=>ax (n15 + 1)/\x1 (n15 + 1) w22/\x2 (n15 + 1) w22 < x2 n15 w21) (br b3 (idx o5 k10 n15 1 λa15=>∃ b5,World.cell? w21 a15 = some (vB b5)/\idx o19 k36 n15 1 λa16=>st1 w21 a16 (vB b5) λw23=>ax (n15 + 1)/\x1 (n15 + 1) w23/\x2 (n15 + 1) w23 < x2 n15 w21) (idx o19 k36 n15 1 λa17=>st1 w21 a17 (vB false) λw24=>ax (n15 + 1)/\x1 (n15 + 1) w24/\x2 (n15 + 1) w24 < x2 n15 w21))) (∃ (x3:lP [(10,mE),(15,aD)]),∃ (x4:lN [(10,mE),(15,aD)]),x3 b1 0 w21/\∀ (I5:Nat->Value) (b6:Bool) (n16:Int) (w25:YC),x3 b6 n16 w25->nn a λa18=>∃ o20 k38 k39,World.cell? w25 (Addr.add a18 4) = some (vS o20 k38 k39)/\br (decide (n16 < (k38:Int))) (nn a λa19=>∃ o21 k40 k41,World.cell? w25 (Addr.add a19 4) = some (vS o21 k40 k41)/\idx o21 k40 n16 3 λa20=>∃ n17,World.cell? w25 a20 = some (iI n17)/\br (n17 == n6) (rE 81 [vP a,iI b,vG [iI n16,iI 0],vS o19 k36 k37] w25 λv6 w26=>∃ b7,v6 = vB b7/\br b6 (ax (n16 + 1)/\x3 true (n16 + 1) w26/\x4 true (n16 + 1) w26 < x4 b6 n16 w25) (ax (n16 + 1)/\x3 b7 (n16 + 1) w26/\x4 b7 (n16 + 1) w26 < x4 b6 n16 w25)) (ax (n16 + 1)/\x3 b6 (n16 + 1) w25/\x4 b6 (n16 + 1) w25 < x4 b6 n16 w25)) (R (vB b6) w25))))):aA Tryz.prog 82 [(.pointer a),(.int .i64 b),(.int .i64 c)] w R:=rv Tryz.func82 kG (by kernel_rfl) h
end Go.Proofs.YtndaepmjkbmjmaaGreatDoor
namespace Go.V
structure PR where
 x:GA
 oA:YB
 cA:Nat
 ask:Int
 int:Int
 oI:YB
 cI:Nat
 oT:YB
 cT:Nat
 bp:Nat
 kh:Nat
 B:Nat->Nat->Nat
def PR.row (d:PR) (n:Nat):List Value:=d.x.cells ++ [.slice d.oA n d.cA,.int .i64 d.ask,.int .i64 d.int,.slice d.oI n d.cI,.slice d.oT n d.cT,.pointer (some ⟨d.bp,0,none⟩)]
structure SI (H:Hp) (g:af) (ns:List Bool) (ss:List SQ) (d:PR):Prop where
 gr:gR H g d.x
 r:av H (aM d.kh) (d.row ss.length)
 a:xE H ss d.oA
 i:∀ q,q < ss.length->∃ ad a c,d.oI = some ad/\av H (ad.add q) [.slice a (bM g ss q).length c]/\a_ H (bM g ss q) a (bM g ss q).length
 t:∀ q,q < ss.length->∃ ad a c,d.oT = some ad/\av H (ad.add q) [.slice a (bM g ss q).length c]/\∀ i,i < (bM g ss q).length->∃ ad2,a = some ad2/\av H (ad2.add i) [.slice (some (aM (d.B q i))) g.T g.T]
 b:∃ k4 o c ps vs,JX H g d.x d.bp k4 o c ns ps vs/\JO g (ri g.T ns) vs/\ps.length = vs.length
theorem SI.mono {H H' : Hp} {g:af} {ns:List Bool} {ss:List SQ} {d:PR} (s:sub H H') (h:SI H g ns ss d):SI H' g ns ss d:=by
 refine ⟨h.gr.mono s,h.r.mono s,h.a.mono s,λq hq=>?_,λq hq=>?_,?_⟩
 ·obtain ⟨ad,a,c,e,r,t⟩:=h.i q hq
  exact ⟨ad,a,c,e,r.mono s,t.mono s⟩
 ·obtain ⟨ad,a,c,e,r,t⟩:=h.t q hq
  refine ⟨ad,a,c,e,r.mono s,λi hi=>?_⟩
  obtain ⟨ad2,e2,r2⟩:=t i hi
  exact ⟨ad2,e2,r2.mono s⟩
 ·obtain ⟨k4,o,c,ps,vs,t,al,hl⟩:=h.b
  exact ⟨k4,o,c,ps,vs,t.mono s,al,hl⟩
def qp (g:af) (ss:List SQ) (d:PR) (F:dY):List ay:=(fJ g ss).map λp=>aK (d.B p.1 p.2) (bv (F p.1 p.2))
section
variable {w:YC} {L:List ay} {g:af} {ss:List SQ} {d:PR} {F:dY} {q i:Nat} {v:List Bool}
theorem R3 {n:Nat} (hn:(fJ g ss)[n]? = some (q,i)):(qp g ss d F).set n (aK (d.B q i) (bv v)) = qp g ss d (De F q i v):=by
 refine Xs λm=>?_
 unfold qp
 rw [XA,WE,Wx,Wx]
 have hlt:=(Wt.1 hn).1
 by_cases hm:n = m
 ·subst hm
  rw [WJ rfl,WJ hlt,hn]
  show some (aK (d.B q i) (bv v)) = some (aK (d.B q i) (bv (De F q i v q i)))
  rw [gC]
 ·rw [WB hm]
  cases hp:(fJ g ss)[m]? with
  | none=>rfl
  | some p =>
   have hne:¬ (p.1 = q/\p.2 = i):=λe=>hm (by
    have e2:p = (q,i):=by rw [<- e.1,<- e.2]
    rw [e2] at hp
    exact (List.getElem?_inj hlt (Gm _)).1 (by rw [hn,hp]))
   show some (aK (d.B p.1 p.2) (bv (F p.1 p.2))) = some (aK (d.B p.1 p.2) (bv (De F q i v p.1 p.2)))
   rw [nt hne]
theorem PS (hm:(q,i)∈fJ g ss) (h:St w (aG (qp g ss d F) :: L)):∃ M,St w (aK (d.B q i) (bv (F q i)) :: aG M :: L)/\∀ {w' : YC} {L' : List ay} {v:List Bool},St w' (aK (d.B q i) (bv v) :: aG M :: L')->St w' (aG (qp g ss d (De F q i v)) :: L'):=by
 obtain ⟨n,hn⟩:=W3 hm
 have hA:(qp g ss d F)[n]? = some (aK (d.B q i) (bv (F q i))):=by unfold qp; rw [Wx,hn]; rfl
 refine ⟨_,St.out h hA,λ{w' L' v} h'=>?_⟩
 have:=St.back h' hA
 rwa [R3 hn] at this
theorem Gn (hm:(q,i)∈fJ g ss) (h:St w (aG (qp g ss d F) :: L)):av (hp w) (aM (d.B q i)) (bv (F q i)):=by
 obtain ⟨M,h1,_⟩:=PS hm h
 exact ai 0 h1.l
end
def Gp (g:af) (ss:List SQ) (F:dY) (q:Nat) (y:ag) (l:List Bool) (n:Nat) (F' : dY) (b:Bool):Prop :=
 (∃ i,i < n/\ib g ss q i = some y/\F' = De F q i (vZ g.T (F q i) l)/\b = decide (vZ g.T (F q i) l≠F q i))\/((∀ i,i < n->ib g ss q i≠some y)/\F' = F/\b = false)
theorem mA (n:Nat) (bs cs:List Bool) (k:Nat):aO (vZ n bs cs) k = (decide (k < n) && (aO bs k || aO cs k)):=by
 unfold vZ
 rw [xb λk hk=>by simp; omega]
theorem lK (l:List Bool) (k j:Nat):aO (l.take k) j = (decide (j < k) && aO l j):=by
 unfold aO
 rw [Ww,Ww,XB]
 by_cases h:j < k <;> simp [h]
theorem or_zero {T:Nat} {bs l:List Bool} (hb:bs.length = T):vZ T bs (l.take 0) = bs:=by
 refine gF (by rw [iV,hb]) λk=>?_
 rw [mA,lK]
 by_cases h:k < T
 ·simp [h]
 ·have:aO bs k = false:=by unfold aO; rw [Ww,WR (by omega)]; rfl
  simp [h,this]
theorem Bd {T k:Nat} {bs l:List Bool} {b:Bool} (hk:l[k]? = some b) (h:b = false\/aO (vZ T bs (l.take k)) k = true):vZ T bs (l.take (k + 1)) = vZ T bs (l.take k):=by
 refine gF (by rw [iV,iV]) λj=>?_
 have hl:=ju hk
 rw [mA,mA,lK,lK]
 by_cases hj:j = k
 ·subst hj
  rcases h with h | h
  ·rw [hl,h]; simp
  ·rw [mA,lK] at h
   simp at h
   simp [h]
 ·have:(decide (j < k + 1)) = decide (j < k):=by congr 1; exact propext ⟨λh=>by omega,λh=>by omega⟩
  rw [this]
theorem T_ {T k:Nat} {bs l:List Bool} (hb:bs.length = T) (hkT:k < T) (hk:l[k]? = some true):vZ T bs (l.take (k + 1)) = (vZ T bs (l.take k)).set k true:=by
 refine gF (by rw [W1,iV,iV]) λj=>?_
 have hl:=ju hk
 rw [Fl (by rw [iV]; exact hkT),mA,mA,lK,lK]
 by_cases hj:j = k
 ·subst hj
  rw [WJ rfl,hl]; simp [hkT]
 ·rw [WB hj]
  have:(decide (j < k + 1)) = decide (j < k):=by congr 1; exact propext ⟨λh=>by omega,λh=>by omega⟩
  rw [this]
theorem Ua {T k:Nat} {bs l:List Bool} (hb:bs.length = T) (hkT:k < T) (hk:l[k]? = some true) (h:aO (vZ T bs (l.take k)) k = false):vZ T bs (l.take (k + 1))≠bs:=λe=>by
 have h1:aO (vZ T bs (l.take (k + 1))) k = true:=by
  rw [mA,lK,ju hk]; simp [hkT]
 rw [e] at h1
 rw [mA,h1] at h
 simp [hkT] at h
end Go.V
namespace Go.Proofs.YtndaepmjkbmjmaaGreatDoor
variable {w:YC} {g:af} {ns:List Bool} {ss:List SQ} {d:PR} {F:dY} {q:Nat} {y:ag} {H:Hp}
theorem Gq {oL:YB} {cL:Nat} {l:List Bool} (hI:SI H g ns ss d) (hq:q < ss.length) (hF:∀ i,(q,i)∈fJ g ss->(F q i).length = g.T) (hl:l.length = g.T) (hT:g.T<=65) (hcl:(bM g ss q).length<=4611686018427387904) (h:St w [aG (qp g ss d F),has H])
  (hr:∀ (F' : dY) (u:YC) (H' : Hp),sub H H'->(∀ q' i',¬ (q' = q/\ib g ss q i' = some y)->F' q' i' = F q' i')->St u [aG (qp g ss d F'),has H']->a_ (hp u) l oL g.T) :
  aA Tryz.prog nu [.pointer (some (aM d.kh)),.int .i64 (q:Int),.agg #[.int .i64 y.prod,.int .i64 y.dot],.slice oL g.T cL] w λv w'=>∃ (b:Bool) (F' : dY),v = .bool b/\Gp g ss F q y l (bM g ss q).length F' b/\St w' [aG (qp g ss d F'),has H]:=by
 refine lJ (ah h λk1 w1 h=>?_)
 obtain ⟨H1,hl1,hs1,h⟩:=St.freeze (h.pick 3 [1,0,2])
 have rk:av H1 (aM k1) [.int .i64 y.prod,.int .i64 y.dot]:=ai 0 hl1
 have g1:sub H H1:=aU 1 hl1
 clear hl1 hs1
 have hI:=hI.mono g1
 have hr:=λF' u hc hu=>hr F' u H1 g1 hc hu
 obtain ⟨adI,aI,cI,eI,rI,rIt⟩:=hI.i q hq
 obtain ⟨adT,aT,cT,eT,rT,rTt⟩:=hI.t q hq
 obtain ⟨n,hn⟩ : ∃ n,n = (bM g ss q).length:=⟨_,rfl⟩
 have hit:∀ {j:Nat} {z:ag},(bM g ss q)[j]? = some z->ib g ss q j = some z:=λh=>h
 rw [<- hn] at rI rIt rT rTt hcl ⊢
 have hpm:∀ {j:Nat},j < n->(q,j)∈fJ g ss:=λh=>iY.2 ⟨hq,by rw [<- hn]; exact h⟩
 refine ⟨λb z w'=>∃ (j:Nat) (F' : dY),z = j/\j<=n/\Gp g ss F q y l j F' b/\St w' [aG (qp g ss d F'),has H1],λ_ z _=>n - z.toNat,⟨0,F,rfl,WC _,.inr ⟨λi hi=>by omega,rfl,rfl⟩,h⟩,?_⟩
 clear h
 rintro _ b _ w2 ⟨j,F1,rfl,hj,hP,h⟩
 have s2:sub H1 (hp w2):=aU 1 h.l
 refine ⟨_,_,_,hI.r.cell s2 (j:=8) rfl,aw eI hq ⟨_,_,_,rI.cell0 s2,ae (λh1=>?_) λh1=>?_⟩⟩
 rotate_left
 ·have h1:j = n:=by have:=Ws h1; omega
  subst h1
  exact ⟨b,F1,rfl,hP,St.qk h (bC g1)⟩
 have h1:j < n:=by have:=Wr h1; omega
 obtain ⟨z,zad,hz,hza,rz⟩:=ot rIt h1
 have hzi:=hit hz
 intro w3 hd
 have hM:=h.drawn hd
 have s3:sub H1 (hp w3):=aU 1 hM.l
 refine ⟨λu=>sub H1 (hp u),s3,_,_,_,λu s=>hI.r.cell s (j:=8) rfl,aw eI hq ⟨_,_,_,λu s=>rI.cell0 s,aq hza h1 ⟨_,_,λu s=>rz.at s rfl,_,_,λu s=>rk.at s rfl,_,λu _=>JF u _ _ z y,_,rfl,ae (λh2=>?_) λh2=>?_⟩⟩⟩
 ·have h2:z≠y:=by simpa using h2
  refine ⟨⟨by omega,by omega⟩,⟨j + 1,F1,by simp,h1,?_,hM⟩,bx h1⟩
  rcases hP with ⟨i,hi,e1,e2,e3⟩ | ⟨e1,e2,e3⟩
  ·exact .inl ⟨i,by omega,e1,e2,e3⟩
  ·refine .inr ⟨λi hi he=>?_,e2,e3⟩
   by_cases hij:i = j
   ·subst hij; rw [hzi] at he; exact h2 (Option.some.inj he)
   ·exact e1 i (by omega) he
 have h2:z = y:=by simpa using h2
 subst h2
 obtain ⟨e1,e2,e3⟩ : (∀ i,i < j->ib g ss q i≠some z)/\F1 = F/\b = false:=by
  rcases hP with ⟨i,hi,e1,_⟩ | e
  ·exact absurd (yj e1 hzi) (by omega)
  ·exact e
 subst e2; subst e3
 obtain ⟨ad2,eT2,rT2⟩:=rTt j h1
 have hmj:=hpm h1
 have hFl:=hF j hmj
 have cond:∀ acc q' i',¬ (q' = q/\ib g ss q i' = some z)->De F1 q j acc q' i' = F1 q' i':=λacc q' i' hne=>nt λe=>hne ⟨e.1,by rw [e.2]; exact hzi⟩
 refine ⟨_,_,_,hI.r.cell s3 (j:=9) rfl,aw eT hq ⟨_,_,_,rT.cell0 s3,aw eT2 h1 ⟨_,_,_,rT2.cell0 s3,?_⟩⟩⟩
 refine ⟨λb z' w'=>∃ k:Nat,z' = k/\k<=g.T/\b = decide (vZ g.T (F1 q j) (l.take k)≠F1 q j)/\St w' [aG (qp g ss d (De F1 q j (vZ g.T (F1 q j) (l.take k)))),has H1],λ_ z _=>g.T - z.toNat,⟨0,rfl,WC _,by rw [or_zero hFl]; simp,by rw [or_zero hFl,Is]; exact hM⟩,?_⟩
 clear h
 rintro _ _ _ w9 ⟨k,rfl,hk,rfl,h⟩
 refine ae (λh3=>?_) λh3=>?_
 rotate_left
 ·have h3:k = g.T:=by have:=Ws h3; omega
  rw [h3,WN (by omega)] at h ⊢
  exact ⟨⟨by omega,by omega⟩,⟨j + 1,_,by simp,h1,.inl ⟨j,by omega,hzi,rfl,rfl⟩,h⟩,bx h1⟩
 have h3:k < g.T:=by have:=Wr h3; omega
 obtain ⟨bb,bad,hbb,hba,rb⟩:=(hr _ _ (cond _) h).cF h3
 obtain ⟨M,h4,back⟩:=PS hmj h
 rw [gC] at h4
 obtain ⟨acc,hacc⟩ : ∃ acc,acc = vZ g.T (F1 q j) (l.take k):=⟨_,rfl⟩
 have hal:acc.length = g.T:=by rw [hacc]; exact iV _ _ _
 have ha:acc[k]? = some (aO acc k):=by
  unfold aO
  rw [Ww,Wv (by omega)]; rfl
 have hav:(bv acc)[k]? = some (.bool (aO acc k)):=by unfold bv; rw [Wx,ha]; rfl
 refine aw hba h3 ⟨_,rb _ (sub.refl _),ae (λh5=>?_) λh5=>?_⟩
 rotate_left
 ·refine ⟨⟨by omega,by omega⟩,⟨k + 1,by simp,h3,?_,?_⟩,bx h3⟩
  ·rw [Bd hbb (.inl h5)]
  ·rw [Bd hbb (.inl h5)]; exact h
 have h5:bb = true:=h5
 subst h5
 rw [<- hacc] at h4
 refine aw rfl h3 ⟨aO acc k,?_,ae (λh6=>?_) λh6=>?_⟩
 ·rw [aL,h4.cell]; exact hav
 ·have h6:aO acc k = false:=by simpa using h6
  refine aw rfl h3 ?_
  rw [aL]
  refine bj h4 (by rw [mM]; omega) λw10 h10=>?_
  rw [AW,hacc,<- T_ hFl h3 hbb] at h10
  have h11:=back h10
  refine ⟨⟨by omega,by omega⟩,⟨k + 1,by simp,h3,?_,?_⟩,bx h3⟩
  ·rw [W4 (Ua hFl h3 hbb (by rw [<- hacc]; exact h6))]
  ·rwa [show De (De F1 q j (vZ g.T (F1 q j) (l.take k))) q j (vZ g.T (F1 q j) (l.take (k + 1))) = De F1 q j (vZ g.T (F1 q j) (l.take (k + 1))) from by
    funext q' i'; unfold De; by_cases e:q' = q/\i' = j <;> simp [e]] at h11
 ·have h6:aO acc k = true:=by simpa using h6
  rw [hacc] at h6
  refine ⟨⟨by omega,by omega⟩,⟨k + 1,by simp,h3,?_,?_⟩,bx h3⟩
  ·rw [Bd hbb (.inr h6)]
  ·rw [Bd hbb (.inr h6)]; exact h
end Go.Proofs.YtndaepmjkbmjmaaGreatDoor
namespace Go.V
section
variable {g:af} {ns:List Bool} {ss:List SQ} {F F' : dY} {q i:Nat} {y:ag} {l:List Bool}
theorem SJ (hc:ak g) (hA:bn g ss) (hy:ib g ss q i = some y):∃ (r:SQ) (m d:Nat) (p:aH),ss[q]? = some r/\nZ g r.1.2 y/\y = ⟨(m:Int),(d:Int)⟩/\g.prods[m]? = some p/\d<=p.right.length/\jZ g y /\
  (0<=cO g y->p.right[d]? = some (cO g y)/\d < p.right.length/\cO g y < (g.T:Int) + g.N/\∃ q' : Nat,eW ss q (cO g y) = some (q' : Int)/\q' < ss.length):=by
 obtain ⟨hq,_⟩:=Bc hy
 have hr:ss[q]? = some ss[q]:=Wv hq
 obtain ⟨_,_,_,hP2,_,_⟩:=hc.ct
 have hKf:xz g ss[q].1.2:=(di (g:=g) (by omega) q).fit _ (Wu (fl hA hr).1)
 have hcl:=R0 hr hy
 have hf:=hcl.fit hKf
 obtain ⟨f0,f1,p,hp,hd⟩:=id hf
 obtain ⟨m,d,rfl⟩ : ∃ m d:Nat,y = ⟨(m:Int),(d:Int)⟩:=⟨y.prod.toNat,y.dot.toNat,by cases y; simp at f0 f1 ⊢; omega⟩
 have hp:g.prods[m]? = some p:=by simpa using hp
 have hd:d<=p.right.length:=by have:(d:Int)<=p.right.length:=hd; omega
 refine ⟨_,m,d,p,hr,hcl,rfl,hp,hd,hf,λh0=>?_⟩
 have ea:cO g ⟨(m:Int),(d:Int)⟩ = p.right.getD d (-1):=by rw [jM (p:=p) (by simpa using hp)]; simp
 have hlt:d < p.right.length:=by
  refine Nat.lt_of_not_le λhle=>?_
  rw [ea,Ww,WR hle] at h0
  simp at h0
 have es:p.right[d]? = some (cO g ⟨(m:Int),(d:Int)⟩):=by rw [ea,Ww,Wv hlt]; rfl
 have hsy:=hc.sym (Wu hp) (Wu es)
 obtain ⟨n,hn⟩ : ∃ n:Nat,cO g ⟨(m:Int),(d:Int)⟩ = n:=⟨_,(Int.toNat_of_nonneg h0).symm⟩
 have hk:=lz hA hr (n:=n) (by omega)
 rw [W4 (List.ne_nil_of_mem (cJ.2 ⟨_,hcl,hn,rfl⟩))] at hk
 obtain ⟨j,hj⟩:=Ye.1 hk
 obtain ⟨j0,j1⟩:=iP hc hA hj
 refine ⟨es,hlt,by omega,j.toNat,?_,by omega⟩
 rw [hn,hj,Int.toNat_of_nonneg j0]
theorem Gp.hv {b:Bool} (h:Gp g ss F q y l (bM g ss q).length F' b) (hV:z8 g ss F) (hl:l.length = g.T) (hs:∀ t,aO l t = true->zI g ss q y.prod.toNat y.dot.toNat t):z8 g ss F'/\lF (fJ g ss) F F' b:=by
 rcases h with ⟨i,_,e1,rfl,rfl⟩ | ⟨_,rfl,rfl⟩
 ·exact ⟨hV.up e1 hl hs,.one (Gm _) (iZ e1) (hV.ln _ _ (iZ e1)) hl⟩
 ·exact ⟨hV,.start⟩
theorem Gp.all {b:Bool} (h:Gp g ss F q y l (bM g ss q).length F' b) (hV:z8 g ss F) (hl:l.length = g.T) (hb:F' = F) {i' : Nat} (hi:ib g ss q i' = some y) {t:Nat} (ht:aO l t = true):aO (F q i') t = true:=by
 rcases h with ⟨i,_,e1,e2,_⟩ | ⟨e1,_,_⟩
 ·have:=yj e1 hi
  subst this
  have e3:vZ g.T (F q i) l = F q i:=by
   have:=congrFun (congrFun (e2.symm.trans hb) q) i
   rwa [gC] at this
  rw [<- e3]
  exact (zf (hV.ln _ _ (iZ e1)) hl t).2 (.inr ht)
 ·exact absurd hi (e1 i' (Bc hi).2)
theorem Gp.ne {b:Bool} (h:Gp g ss F q y l (bM g ss q).length F' b) {q' i' : Nat} (hne:¬ (q' = q/\ib g ss q i' = some y)):F' q' i' = F q' i':=by
 rcases h with ⟨i,_,e1,rfl,_⟩ | ⟨_,rfl,_⟩
 ·exact nt λe=>hne ⟨e.1,by rw [e.2]; exact e1⟩
 ·rfl
theorem Qj.one {r:List Int} {l l' : List Bool} (h:Qj g F q i r l) (h' : Qj g F q i r l'):l = l':=gF (h.1.trans h'.1.symm) λt=>by rw [Xh,h.2,h'.2]
def Qk (bs:List Bool) (b:Bool) (t:List Bool) (k:Nat):List Bool:=xa bs.length λj=>aO bs j || (decide (j < k) && (b && aO t j))
theorem jz {bs t:List Bool} {b:Bool} {k:Nat}:(Qk bs b t k).length = bs.length:=kV _ _
theorem PT {n:Nat} {m:Nat->Bool} {j:Nat} (hj:j < n):aO (xa n m) j = m j:=by
 unfold aO xa
 rw [Ww,Wx,XV hj]; rfl
theorem C5 {bs t:List Bool} {b:Bool} {k j:Nat} (hj:j < bs.length):aO (Qk bs b t k) j = (aO bs j || (decide (j < k) && (b && aO t j))):=PT hj
theorem C6 {bs:List Bool} {j:Nat} (hj:bs.length<=j):aO bs j = false:=by
 unfold aO; rw [Ww,WR hj]; rfl
theorem PU {bs t:List Bool} {b:Bool}:Qk bs b t 0 = bs:=gF jz λj=>by
 by_cases hj:j < bs.length
 ·rw [C5 hj]; simp
 ·rw [C6 (by rw [jz]; omega),C6 (by omega)]
theorem PV {bs t:List Bool} {b:Bool} {k:Nat} (hk:k < bs.length):Qk bs b t (k + 1) = (Qk bs b t k).set k (aO bs k || (b && aO t k)):=gF (by rw [W1,jz,jz]) λj=>by
 rw [Fl (by rw [jz]; exact hk)]
 by_cases hj:j < bs.length
 ·rw [C5 hj,C5 hj]
  by_cases h:j = k
  ·subst h; simp
  ·rw [WB h]
   have:(decide (j < k + 1)) = decide (j < k):=by congr 1; exact propext ⟨λh=>by omega,λh=>by omega⟩
   rw [this]
 ·rw [C6 (by rw [jz]; omega),WB (by omega),C6 (by rw [jz]; omega)]
end
end Go.V
namespace Go.Proofs.YtndaepmjkbmjmaaGreatDoor
variable {w:YC} {g:af} {ns:List Bool} {ss:List SQ} {d:PR} {F:dY} {q i:Nat} {H:Hp}
theorem FZ {bs:List Bool} {k:Nat} (hk:k < bs.length):(bv bs)[k]? = some (.bool (aO bs k)):=by
 unfold bv aO
 rw [Wx,Ww,Wv hk]; rfl
theorem PW (hc:ak g) (hA:bn g ss) (hb:ik g) (hn:jb g ns) (hI:SI H g ns ss d) (hV:z8 g ss F) (hm:(q,i)∈fJ g ss) (hcl:∀ q,(bM g ss q).length<=4611686018427387904) (h:St w [aG (qp g ss d F),has H]) :
  aA Tryz.prog mh [.pointer (some (aM d.kh)),.int .i64 (q:Int),.int .i64 (i:Int)] w λv w'=>∃ (b:Bool) (F' : dY),v = .bool b/\z8 g ss F'/\lF (fJ g ss) F F' b/\(b = false->F' = F/\PQ g ss F q i)/\St w' [aG (qp g ss d F'),has H]:=by
 have hq:q < ss.length:=(iY.1 hm).1
 have hi:i < (bM g ss q).length:=(iY.1 hm).2
 obtain ⟨y,hy⟩ : ∃ y,ib g ss q i = some y:=⟨_,Wv hi⟩
 obtain ⟨r,m,dt,p,hr,hcm,rfl,hpr,hdp,hfit,haf⟩:=SJ hc hA hy
 obtain ⟨sT,sN,sP,sP2,_,_⟩:=hc.ct
 have hkl:=hA.yX hc
 have hke:∀ q∈ss,q.2.2.length<=130:=λq hq=>(hkl q hq).2
 have h256:=hA.dn.2.1
 have hpm:=Wu hpr
 have b7:=hb.2.2.2.2.2.2 p hpm
 have hFl:=hV.ln q i hm
 refine kH ?_
 have s0:sub H (hp w):=aU 1 h.l
 obtain ⟨adI,aI,cI,eI,rI,rIt⟩:=hI.i q hq
 obtain ⟨z,zad,hz,hza,rz⟩:=ot rIt hi
 obtain rfl:z = ⟨(m:Int),(dt:Int)⟩:=Option.some.inj (hz.symm.trans hy)
 refine ⟨_,_,_,hI.r.cell s0 (j:=8) rfl,aw eI hq ⟨_,_,_,rI.cell0 s0,aq hza hi ⟨_,_,rz.at s0 rfl,ah h λk5 w1 h1=>bu h1 rfl (by simp [aV]) λw2 h2=>?_⟩⟩⟩
 obtain ⟨H1,hl1,hs1,h3⟩:=St.freeze (h2.pick 3 [1,0,2])
 have rk:av H1 (aM k5) [.int .i64 (m:Int),.int .i64 (dt:Int)]:=ai 0 hl1
 have g1:sub H H1:=aU 1 hl1
 clear hl1 hs1 h2 h
 have hI:=hI.mono g1
 obtain ⟨adT,aT,cT,eT,rT,rTt⟩:=hI.t q hq
 obtain ⟨ad2,eT2,rT2⟩:=rTt i hi
 have s2:sub H1 (hp w2):=aU 1 h3.l
 refine ⟨_,_,_,hI.r.cell s2 (j:=9) rfl,aw eT hq ⟨_,_,_,rT.cell0 s2,aw eT2 hi ⟨_,_,_,rT2.cell0 s2,λw3 hd3=>?_⟩⟩⟩
 have h4:=h3.drawn hd3
 have s3:sub H1 (hp w3):=aU 1 h4.l
 have rg:av H1 (aM d.kh) d.x.cells:=av.take (vs:=[.slice d.oA ss.length d.cA,.int .i64 d.ask,.int .i64 d.int,.slice d.oI ss.length d.cI,.slice d.oT ss.length d.cT,.pointer (some ⟨d.bp,0,none⟩)]) hI.r
 have ra:av H1 ((aM d.kh).add 5) [.slice d.oA ss.length d.cA,.int .i64 d.ask,.int .i64 d.int]:=av.take (vs:=[.slice d.oI ss.length d.cI,.slice d.oT ss.length d.cT,.pointer (some ⟨d.bp,0,none⟩)]) (EE hI.r 5)
 refine ⟨λu=>sub H1 (hp u),s3,_,_,_,_,_,_,_,_,_,_,_,_,_,λu s=>rg.at s rfl,_,_,λu s=>rk.at s rfl,(A0 (y:=⟨(m:Int),(dt:Int)⟩) (hI.gr.mono s3) hfit).mono ?_⟩
 rintro _ w6 ⟨rfl,g36⟩
 have h5:=h4.gr g36
 have s6:sub H1 (hp w6):=aU 1 h5.l
 clear h3 h4
 refine ⟨_,rfl,s6,ae (λh1=>?_) λh1=>?_⟩
 ·have h1:cO g ⟨(m:Int),(dt:Int)⟩ < 0:=Wr h1
  refine ⟨false,F,rfl,hV,.start,λ_=>⟨rfl,λy' hy' h0=>?_⟩,St.qk h5 (bC g1)⟩
  rw [hy] at hy'; cases hy'; omega
 have h0:0<=cO g ⟨(m:Int),(dt:Int)⟩:=by have:=Ws h1; omega
 obtain ⟨hs,hdl,hsN,q',hnx,hq'⟩:=haf h0
 obtain ⟨s,es⟩ : ∃ s,s = cO g ⟨(m:Int),(dt:Int)⟩:=⟨_,rfl⟩
 rw [<- es] at hs hsN hnx h0 ⊢
 clear haf h1
 intro w7 hd7
 have h7:=h5.drawn hd7
 have s7:sub H1 (hp w7):=aU 1 h7.l
 clear h5
 refine ⟨λu=>sub H1 (hp u),s7,_,_,_,_,_,λu s=>ra.at s rfl,_,λu s=>rk.cell0 s,_,λu s=>rk.cell s (j:=1) rfl,⟨by omega,by omega⟩,(OE hA (hI.a.mono s7) hq hke h256).mono ?_⟩
 rintro _ w11 ⟨rfl,g711⟩
 have h11:=h7.gr g711
 have s11:sub H1 (hp w11):=aU 1 h11.l
 clear h7
 have enx:tk ss q s = (q' : Int):=by unfold tk; rw [hnx]; rfl
 rw [enx]
 have hnot:¬ (q = q'/\ib g ss q' i = some ⟨(m:Int),(dt:Int) + 1⟩):=λhh=>by
  have h2:=hh.2
  rw [<- hh.1,hy] at h2
  have h3:=congrArg ag.dot (Option.some.inj h2)
  have h3:(dt:Int) = (dt:Int) + 1:=h3
  omega
 refine ⟨_,rfl,s11,(Gq (F:=F) (q:=q') (y:=⟨(m:Int),(dt:Int) + 1⟩) (l:=F q i) hI hq' (λi' h'=>hV.ln _ _ h') hFl sT (hcl q') h11 (λF' u H' _ hF' hu=>?_)).mono ?_⟩
 ·have e:=hF' q i hnot
  have rr:=Gn hm hu
  rw [e] at rr
  exact kU hFl (.inr ⟨_,rfl,rr⟩)
 rintro _ w12 ⟨b1,F1,rfl,hP1,h12⟩
 have s12:sub H1 (hp w12):=aU 1 h12.l
 clear h11
 obtain ⟨hV1,hG1⟩:=hP1.hv hV hFl λt ht=>by
  have:=zI.sh q m dt q' t p s hpr hs hnx (by simpa using hV.sd q i _ t hy ht)
  show zI g ss q' (m:Int).toNat ((dt:Int) + 1).toNat t
  rw [WQ,show ((dt:Int) + 1).toNat = dt + 1 by omega]
  exact this
 have hF1:F1 q i = F q i:=hP1.ne hnot
 have shH:F1 = F->V9 g ss F q i ⟨(m:Int),(dt:Int)⟩ s:=λe q2 i2 hq2 hi2 t ht=>by
  rw [hnx] at hq2
  have:q' = q2:=by have:=Option.some.inj hq2; omega
  subst this
  exact hP1.all hV hFl e hi2 ht
 refine ⟨_,rfl,s12,_,_,_,_,_,_,_,_,_,_,_,_,_,rg.at s12 rfl,(RO (s:=s) (hI.gr.mono s12) hb).mono ?_⟩
 rintro _ w13 ⟨rfl,g1213⟩
 have h13:=h12.gr g1213
 clear h12
 refine ⟨_,rfl,ae (λh2=>?_) λh2=>?_⟩
 ·have hnT:¬ (g.T:Int)<=s:=λhT=>by
   rw [W4 hT,W4 hsN] at h2
   cases h2
  refine ⟨b1,F1,rfl,hV1,hG1,λhb=>⟨hG1.no hb,λy' hy' _=>?_⟩,St.qk h13 (bC g1)⟩
  rw [hy] at hy'
  cases hy'
  rw [<- es]
  exact ⟨shH (hG1.no hb),λhT=>absurd hT hnT⟩
 have hsT:(g.T:Int)<=s:=by
  refine Int.not_lt.1 λhlt=>?_
  rw [Xm (by omega:¬ (g.T:Int)<=s)] at h2
  cases h2
 intro w14 hd14
 have h14:=h13.drawn hd14
 have s14:sub H1 (hp w14):=aU 1 h14.l
 clear h13 h2
 obtain ⟨k4,o,c,ps,vs,tb,al,hpsl⟩:=hI.b
 obtain ⟨p',pad,pvs,hp1,hpa,hp2,ra',rl,rc,rfl,hrc,hp3⟩:=hI.gr.p.get (i:=m) (by have:=hI.gr.p.1; have:=(Wt.1 hpr).1; omega)
 rw [hpr] at hp1; cases hp1
 have rl1:=hp3.1
 have hmlt:=(Wt.1 hpr).1
 have hpl:=hI.gr.p.1
 refine ⟨λu=>sub H1 (hp u),s14,_,λu s=>hI.r.cell s (j:=10) rfl,_,_,_,λu s=>rg.cell s (j:=4) rfl,_,λu s=>rk.cell0 s,aq hpa (by omega) ⟨_,_,_,λu s=>hp2.cell s (j:=1) rfl,_,λu s=>rk.cell s (j:=1) rfl,⟨by omega,by omega⟩,?_⟩⟩
 show uw ra' rl rc (some ((dt:Int) + 1)) none none 1 _
 rw [show (dt:Int) + 1 = ((dt + 1:Nat):Int) by simp]
 have hSy:VJ g (p.right.drop (dt + 1)):=λz hz=>by have:=hc.sym hpm (XH hz); omega
 refine dG (by omega) hrc ((VM (hI.gr.mono s14) (.inr hc) (tb.mono s14) hn al hpsl ((hp3.drop (k:=dt + 1) (m:=rc) (by omega) hrc).mono s14) hSy (by omega)).mono ?_)
 rintro _ w20 ⟨k3,bs,b3,rfl,hBs,hb3,hof⟩
 have h20:=St.qk hof h14.l
 have s20:sub H1 (hp w20):=aU 2 h20.l
 clear hof h14
 have hbl:=hBs.1
 refine ⟨_,_,_,_,rfl,s20,λz w'=>∃ k:Nat,z = k/\k<=g.T/\St w' (aK k3 (bv (Qk bs b3 (F q i) k)) :: [aG (qp g ss d F1),has H1]),λz _=>g.T - z.toNat,⟨0,rfl,WC _,by rw [PU]; exact h20⟩,?_⟩
 clear h20
 rintro _ _ w21 ⟨k,rfl,hk,h21⟩
 refine ae (λh1=>?_) λh1=>?_
 ·have h1:k < g.T:=by have:=Wr h1; omega
  have hak:aO (Qk bs b3 (F q i) k) k = aO bs k:=by rw [C5 (by omega)]; simp
  have hget:(bv (Qk bs b3 (F q i) k))[k]? = some (.bool (aO bs k)):=by rw [FZ (by rw [jz]; omega),hak]
  have put:∀ v:Bool,v = (aO bs k || (b3 && aO (F q i) k))->st1 w21 ((aM k3).add k) (.bool v) λw22=>ax ((k:Int) + 1)/\(∃ k' : Nat,(k:Int) + 1 = k'/\k'<=g.T/\St w22 (aK k3 (bv (Qk bs b3 (F q i) k')) :: [aG (qp g ss d F1),has H1]))/\g.T - ((k:Int) + 1).toNat < g.T - (k:Int).toNat:=λv hv=>by
   rw [aL]
   refine bj h21 (by rw [mM,jz]; omega) λw22 h22=>?_
   rw [AW,hv,<- PV (by omega)] at h22
   exact ⟨⟨by omega,by omega⟩,⟨k + 1,by simp,h1,h22⟩,bx h1⟩
  refine aw rfl h1 ⟨aO bs k,by rw [aL,h21.cell]; exact hget,ae (λh5=>aw rfl h1 (put true (by rw [h5]; rfl))) λh5=>ae (λh6=>?_) λh6=>aw rfl h1 (put false (by rw [h5,h6]; rfl))⟩
  have rr:=Gn hm (h21.pick 3 [1,0,2])
  rw [hF1] at rr
  refine aw rfl h1 ⟨aO (F q i) k,rr.cell (sub.refl _) (FZ (by omega)),aw rfl h1 (put _ (by rw [h5,h6]; rfl))⟩
 have h1:k = g.T:=by have:=Ws h1; omega
 subst h1
 obtain ⟨l,el⟩ : ∃ l,l = Qk bs b3 (F q i) g.T:=⟨_,rfl⟩
 have hll:l.length = g.T:=by rw [el,jz,hbl]
 have hLs:Qj g F q i (p.right.drop (dt + 1)) l:=by
  refine ⟨hll,λt=>?_⟩
  by_cases ht:t < g.T
  ·rw [el,C5 (by omega),<- hBs.2,<- hb3]
   simp [ht]
  ·rw [C6 (by omega)]; simp [ht]
 rw [<- el] at h21
 obtain ⟨H2,hl2,hs2,h22⟩:=St.freeze (h21.pick 3 [1,0,2])
 have rl3:av H2 (aM k3) (bv l):=ai 0 hl2
 have g2:sub H1 H2:=aU 1 hl2
 clear hl2 hs2 h21
 have hI2:=hI.mono g2
 have rg2:=rg.mono g2
 have lh:∀ (n:Nat) p',g.prods[n]? = some p'->p'.left = s->∀ t,aO l t = true->zI g ss q n 0 t:=λn p' hn' hl' t ht=>by
  rcases ((hLs.2 t).1 ht).2 with h | ⟨h,h'⟩
  ·exact .fs q m dt n t p p' s r hr hcm hpr hs hn' hl' h
  ·exact .up q m dt n t p p' s hpr hs hn' hl' h (by simpa using hV.sd q i _ t hy h')
 refine ⟨λb z w'=>∃ (k:Nat) (F2:dY),z = k/\k<=g.prods.length/\z8 g ss F2/\lF (fJ g ss) F F2 b/\(b = false->F1 = F/\F2 = F/\VZ g ss F q s l k)/\St w' [aG (qp g ss d F2),has H2],λ_ z _=>g.prods.length - z.toNat,⟨0,F1,rfl,WC _,hV1,hG1,λhb=>⟨hG1.no hb,hG1.no hb,λn p' i' hn'=>by omega⟩,h22⟩,?_⟩
 clear h22
 rintro _ b6 _ w25 ⟨k,F2,rfl,hk,hV2,hG2,hN2,h25⟩
 have s25:sub H2 (hp w25):=aU 1 h25.l
 refine ⟨_,_,_,rg2.cell s25 (j:=4) rfl,ae (λh1=>?_) λh1=>?_⟩
 rotate_left
 ·have h1:k = g.prods.length:=by have:=Ws h1; omega
  subst h1
  refine ⟨b6,F2,rfl,hV2,hG2,λhb=>⟨(hN2 hb).2.1,λy' hy' _=>?_⟩,St.qk h25 (bC (sub.trans g1 g2))⟩
  rw [hy] at hy'
  cases hy'
  rw [<- es]
  refine ⟨shH (hN2 hb).1,λ_ p' hp' l' hl'=>?_⟩
  have hp' : g.prods[m]? = some p':=by simpa using hp'
  rw [hpr] at hp'
  cases hp'
  have e:l' = l:=Qj.one (by simpa using hl') hLs
  rw [e]
  exact (hN2 hb).2.2
 have h1:k < g.prods.length:=by have:=Wr h1; omega
 obtain ⟨p2,pad2,pvs2,hq1,hqa,hq2,ra2,rl2,rc2,rfl,hrc2,hq3⟩:=hI2.gr.p.get (i:=k) (by omega)
 refine ⟨_,_,_,rg2.cell s25 (j:=4) rfl,aq hqa (by omega) ⟨_,hq2.cell0 s25,ae (λh2=>?_) λh2=>?_⟩⟩
 rotate_left
 ·have h2:p2.left≠s:=by simpa using h2
  refine ⟨⟨by omega,by omega⟩,⟨k + 1,F2,by simp,h1,hV2,hG2,λhb=>⟨(hN2 hb).1,(hN2 hb).2.1,λn p' i' hnk hn' hl' hi' t ht=>?_⟩,h25⟩,bx h1⟩
  by_cases e:n = k
  ·subst e; rw [hq1] at hn'; cases hn'; exact absurd hl' h2
  ·exact (hN2 hb).2.2 n p' i' (by omega) hn' hl' hi' t ht
 have h2:p2.left = s:=by simpa using h2
 refine (Gq (F:=F2) (q:=q) (y:=⟨(k:Int),0⟩) (l:=l) hI2 hq (λi' h'=>hV2.ln _ _ h') hll sT (hcl q) h25 (λF' u H' g' _ hu=>kU hll (.inr ⟨_,rfl,rl3.mono (sub.trans g' (aU 1 hu.l))⟩))).mono ?_
 rintro _ w26 ⟨b7',F3,rfl,hP3,h26⟩
 obtain ⟨hV3,hG3⟩:=hP3.hv hV2 hll λt ht=>by simpa using lh k p2 hq1 h2 t ht
 have next:∀ b:Bool,b = (b6 || b7')->ax ((k:Int) + 1)/\(∃ (k' : Nat) (F2:dY),(k:Int) + 1 = k'/\k'<=g.prods.length/\z8 g ss F2/\lF (fJ g ss) F F2 b/\(b = false->F1 = F/\F2 = F/\VZ g ss F q s l k')/\St w26 [aG (qp g ss d F2),has H2])/\g.prods.length - ((k:Int) + 1).toNat < g.prods.length - (k:Int).toNat:=λb hbb=>by
  refine ⟨⟨by omega,by omega⟩,⟨k + 1,F3,by simp,h1,hV3,by rw [hbb]; exact hG2.trans hG3,λhb=>?_,h26⟩,bx h1⟩
  rw [hbb,Yu] at hb
  obtain ⟨e1,e2,e3⟩:=hN2 hb.1
  have e4:=hG3.no hb.2
  refine ⟨e1,by rw [e4,e2],λn p' i' hnk hn' hl' hi' t ht=>?_⟩
  by_cases e:n = k
  ·subst e
   have:=hP3.all hV2 hll e4 hi' ht
   rwa [e2] at this
  ·exact e3 n p' i' (by omega) hn' hl' hi' t ht
 exact ⟨_,rfl,ae (λh3=>next true (by rw [h3]; rfl)) λh3=>next b7' (by rw [h3]; rfl)⟩
end Go.Proofs.YtndaepmjkbmjmaaGreatDoor
