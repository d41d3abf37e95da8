/- Texts of this claim, one behind the other. -/
import Derived.Test.YtndaepmjkbmjmaaGreatDoorG5
import Derived.Test.YtndaepmjkbmjmaaGreatDoorG4
import Derived.Test.YtndaepmjkbmjmaaGreatDoorG3
import Derived.Lib.AppendZerosOnto
import Derived.Lib.Overlaps
import Derived.Test.YtndaepmjkbmjmaaGreatDoorG1
set_option linter.unusedVariables false
set_option linter.unusedSectionVars false
set_option maxRecDepth 100000
set_option maxHeartbeats 16000000
namespace Go.V
end Go.V
namespace Go.Proofs.YtndaepmjkbmjmaaGreatDoor
end Go.Proofs.YtndaepmjkbmjmaaGreatDoor
open Go.V Go.Proofs.YtndaepmjkbmjmaaGreatDoor
namespace Go.Proofs.YtndaepmjkbmjmaaGreatDoor
section
variable {g:af} {nn:List Bool} {ss:List SQ}
theorem TR {v:Nat} {t:av} (ht:(bD g ss)[v]? = some t):(qZ g ss).getD v [] = iY g ss t:=by
 unfold qZ; rw [YX,YW,ht]; rfl
theorem Q2 {n:Nat} {f:Nat->Nat->Bool} {v m:Nat}:m∈En ((List.range n).map λi=>cq n (f i)) v↔v < n/\m < n/\f v m = true:=by
 unfold En;rw [YX]
 by_cases hv:v < n
 ·rw [YW,Z8 hv];simp only [ZY,Option.getD_some,Zh]
  constructor
  ·rintro ⟨z,O,rfl⟩;obtain ⟨k,rfl,G,u⟩:=df.1 O;exact ⟨hv,G,u⟩
  ·rintro ⟨_,G,u⟩;exact ⟨(m:Int),df.2 ⟨m,rfl,G,u⟩,rfl⟩
 ·rw [Zf (by simp; omega)];simp;omega
theorem Q3 {v m:Nat}:m∈En (sZ g nn ss) v↔v < (bD g ss).length/\m < (bD g ss).length/\jr g nn ss v m = true:=Q2
theorem Q4 {v m:Nat}:m∈En (vW g nn ss) v↔v < (bD g ss).length/\m < (bD g ss).length/\zc g nn ss v m = true:=Q2
theorem xP {v:Nat} {t:av} (hc:ak g) (hA:bw g ss) (ht:(bD g ss)[v]? = some t):∃ (i j:Nat) (q r:SQ),t.st = i/\ss[i]? = some q/\(g.T:Int)<=t.sym/\fy ss i t.sym = some (j:Int)/\1<=j/\ss[j]? = some r/\r.1.2 = aO g q.1.2 t.sym:=by
 obtain ⟨i,q,k,e,hi,G,R,O,rfl⟩:=jq (YV ht);obtain ⟨_,_,j,r,U,u,V,z,_⟩:=fh hc hA G R;exact ⟨i,j,q,r,rfl,G,O,by rw [<- U]; exact pR hA G R,u,V,z⟩
theorem Q5 {i:Nat} {s j:Int} (h:fy ss i s = some j) (hs:(g.T:Int)<=s):∃ v:Nat,(bD g ss)[v]? = some ⟨(i:Int),s⟩:=by
 obtain ⟨q,k,e,z,u,rfl,_⟩:=qN h;exact ⟨_,Hu z u hs⟩
theorem HJ (hc:ak g) (hA:bw g ss) {v i j x:Nat} {t:av} (ht:(bD g ss)[v]? = some t) (hi:t.st = i) (hj:fy ss i t.sym = some (j:Int)):(x:Int)∈(qZ g ss).getD v []↔(t = ⟨0,g.start⟩/\x = 0)\/(x < g.T/\(fy ss j (x:Int)).isSome):=by
 have V:=hc.b9;obtain ⟨R,U,q,r,Z,X,Y,O,h5,z,_⟩:=xP hc hA ht;have:R = i:=ω
 subst this;rw [hj] at O;have:j = U:=by have:=Option.some.inj O; omega
 subst this;rw [TR ht,DT (j:=j) (q:=r) (by rw [hi]; exact hj) z,YY,Qr hA z,Zh]
 refine or_congr ?_ ?_
 ·unfold lK
  by_cases e:t = ⟨0,g.start⟩
  ·rw [Y5 e]; simp [e]
  ·rw [YZ e]; simp [e]
 ·constructor
  ·rintro ⟨y,W,e⟩;have:y = x:=by have e:(y:Int) = x:=e; omega
   subst this;obtain ⟨u,G⟩:=ZA.1 W;have u:=Zo.1 u;exact ⟨u,by rw [mz hA z ω]; exact G⟩
  ·rintro ⟨u,G⟩;rw [mz hA z ω] at G;exact ⟨x,ZA.2 ⟨Zo.2 u,G⟩,rfl⟩
theorem Ff.has (hc:ak g) (hA:bw g ss) (hn:j6 g nn) {j x:Nat} (h:Ff g ss j x):∀ (v i:Nat) t,(bD g ss)[v]? = some t->t.st = i->fy ss i t.sym = some (j:Int)->dN (sZ g nn ss) (qZ g ss) v x:=by
 induction h with
 | now j x hx hs=>exact λv i t ht hi z=>dN.iff.2 (.inl ((HJ hc hA ht hi z).2 (.inr ⟨hx,hs⟩)))
 | via j k x s hs hnu hk hr ih =>
  intro v i t ht hi z;obtain ⟨u,G⟩:=Q5 (g:=g) hk hs;refine dN.iff.2 (.inr ⟨u,Q3.2 ⟨(YT.1 ht).1,(YT.1 G).1,?_⟩,ih u j _ G rfl hk⟩);unfold jr;rw [ht,G];simp only [Zd,Y7];rw [hi];exact ⟨z,(zq hn hs).2 hnu⟩
theorem V9 {v u:Nat} {t:av} (ht:(bD g ss)[v]? = some t) (h:u∈En (sZ g nn ss) v):∃ t',(bD g ss)[u]? = some t'/\fy ss t.st.toNat t.sym = some t'.st/\vV g nn t'.sym = true:=by
 obtain ⟨_,O,z⟩:=Q3.1 h;have G:(bD g ss)[u]? = some (bD g ss)[u]:=YU O;unfold jr at z;rw [ht,G] at z;simp only [Zd,Y7] at z;exact ⟨_,G,z⟩
theorem TS (hc:ak g) (hA:bw g ss) (hn:j6 g nn) {v x:Nat} (h:dN (sZ g nn ss) (qZ g ss) v x):∀ (i j:Nat) t,(bD g ss)[v]? = some t->t.st = i->fy ss i t.sym = some (j:Int)->(t = ⟨0,g.start⟩/\x = 0)\/Ff g ss j x:=by
 refine dN.least (Q:=λv x=>∀ (i j:Nat) t,(bD g ss)[v]? = some t->t.st = i->fy ss i t.sym = some (j:Int)->(t = ⟨0,g.start⟩/\x = 0)\/Ff g ss j x) (λv x hx i j t ht hi O=>?_) (λv u x hu ih i j t ht hi O=>?_) h
 ·rcases (HJ hc hA ht hi O).1 hx with h | ⟨G,U⟩
  ·exact .inl h
  ·exact .inr (.now j x G U)
 ·obtain ⟨X,z,G,U⟩:=V9 ht hu;obtain ⟨R,Z,_,_,V,_,W,Y,_⟩:=xP hc hA z;rw [hi,Za,O] at G;have e5:R = j:=by have:=Option.some.inj G; omega
  subst e5
  rcases ih R Z X z V Y with ⟨rfl,_⟩ | h3
  ·obtain ⟨i',j',_,_,f1,_,_,f4,f5,_⟩:=xP hc hA ht;have:i' = i:=ω
   subst this;rw [O] at f4;have:=Option.some.inj f4;have V:(0:Int) = R:=V;omega
  ·exact .inr (.via R Z x X.sym W ((zq hn W).1 U) Y h3)
theorem LH {v:Nat} (hv:v < (bD g ss).length):(LF g nn ss).getD v [] = oE (sZ g nn ss) (qZ g ss) v:=by
 unfold LF; rw [YX,zp (by rw [Ed]; exact hv)]; rfl
theorem Q6 {v:Nat} (hv:v < (bD g ss).length):(EJ g nn ss).getD v [] = oE (vW g nn ss) (LF g nn ss) v:=by
 unfold EJ; rw [YX,zp (by rw [Ee]; exact hv)]; rfl
theorem Q7 {α : Type} {l:List (List α)} {v:Nat} (h:¬ v < l.length):l.getD v [] = []:=by
 rw [YX,Zf ω]; rfl
end
section
variable {g:af} {nn:List Bool} {ss:List SQ} {w w' : aa4} {v:Value} {a i f:Int}
theorem Xn (hc:ak g) (hA:bw g ss) {v x:Nat} (h:dN (sZ g nn ss) (qZ g ss) v x):x < g.T:=by
 refine dN.least (Q:=λ_ x=>x < g.T) (λv x u=>?_) (λ_ _ _ _ h=>h) h
 by_cases hv:v < (qZ g ss).length
 ·rw [YX,YU hv] at u;have:=(M0 hc hA (List.getElem_mem hv)).2.2 _ u;omega
 ·rw [Q7 hv] at u; simp at u
theorem J0 {fs:List (List Int)} {b:js} {z:Int}:z∈(eZ g fs b).tm↔∃ x:Nat,z = x/\x < g.T/\∃ t∈b.tr,(x:Int)∈fs.getD t.toNat []:=by
 unfold eZ;rw [df];simp
theorem Gh {fs:List (List Int)} {b:js}:jH (eZ g fs b).tm:=pX _ _
theorem J1 {fs:List (List Int)} {b:js}:(eZ g fs b).tm.length<=g.T:=kF _ _
end
section
variable {n k i j:Nat} {f f0:Nat->List Int} {L:List az} {A:az} {w w' w0:aa4}
theorem TT {l:List Int} (h:jH l):l.Nodup:=ZH.2 (h.imp λh e=>ω)
theorem LI {l:List Int} {B:Nat} (h:jH l) (hb:∀ z∈l,0<=z/\z < B):l.length<=B:=by
 have e:l = cq B λk=>decide ((k:Int)∈l):=by
  refine zb h (pX _ _) λz=>?_;rw [df]
  constructor
  ·intro u;have:=hb z u;exact ⟨z.toNat,ω,ω,by rw [Y7,show ((z.toNat:Nat):Int) = z by omega]; exact u⟩
  ·rintro ⟨k,rfl,_,G⟩;exact YR G
 rw [e];exact kF _ _
end
section
variable {α : Type} {k:α->Int} {l m:List α}
abbrev kH (k:α->Int) (l:List α):Prop:=l.Pairwise λx y=>k x<=k y
theorem gh:kH k (l ++ m)↔kH k l/\kH k m/\∀ x∈l,∀ y∈m,k x<=k y:=aaZ
theorem Q8 (h:kH k l) {z:α} (hz:l.getLast? = some z):∀ x∈l,k x<=k z:=λx u=>by
 obtain ⟨i,hi⟩:=Zr u
 rw [aaX] at hz
 have R:=(YT.1 hi).1
 by_cases e:i = l.length - 1
 ·subst e; rw [hi] at hz; cases hz; omega
 ·obtain ⟨G,rfl⟩:=YT.1 hi
  obtain ⟨O,rfl⟩:=YT.1 hz
  exact aaW.1 h i _ G O ω
theorem Q9 (h:kH k l) {z:α} (hz:l.head? = some z):∀ x∈l,k z<=k x:=λx u=>by
 cases l with
 | nil=>cases u
 | cons a l =>
  cases hz
  rcases Ze.1 u with rfl | u
  ·omega
  ·exact (ZU.1 h).1 x u
theorem vo (hl:kH k l) (hm:kH k m) (h:∀ x y,l.getLast? = some x->m.head? = some y->k x<=k y):∀ x∈l,∀ y∈m,k x<=k y:=λx u y O=>by
 obtain ⟨a,G⟩ : ∃ a,l.getLast? = some a:=⟨_,List.getLast?_eq_some_getLast (List.ne_nil_of_mem u)⟩
 obtain ⟨b,z⟩ : ∃ b,m.head? = some b:=⟨_,List.head?_eq_some_head (List.ne_nil_of_mem O)⟩
 have V:=Q8 hl G x u
 have R:=Q9 hm z y O
 have U:=h a b G z
 omega
theorem LK {L1 L2 R1 R2 S1 S2:List α} (hL:kH k (L1 ++ L2)) (hR:kH k (R1 ++ R2)) (h1:∀ x y,L1.getLast? = some x->R2.head? = some y->k x<=k y) (h2:∀ x y,R1.getLast? = some x->L2.head? = some y->k x<=k y)
  (p1:S1.Perm (L1 ++ R1)) (s1:kH k S1) (p2:S2.Perm (L2 ++ R2)) (s2:kH k S2):kH k (S1 ++ S2)/\(S1 ++ S2).Perm ((L1 ++ L2) ++ (R1 ++ R2)):=by
 obtain ⟨V,a2,G⟩:=gh.1 hL;obtain ⟨U,R,O⟩:=gh.1 hR;have c1:=vo V R h1;have c2:=vo U a2 h2
 refine ⟨gh.2 ⟨s1,s2,λx u y z=>?_⟩,?_⟩
 ·rcases YY.1 (p1.mem_iff.1 u) with u | u <;> rcases YY.1 (p2.mem_iff.1 z) with z | z
  ·exact G x u y z
  ·exact c1 x u y z
  ·exact c2 x u y z
  ·exact O x u y z
 ·refine (p1.append p2).trans ?_;rw [Y6,Y6];refine aaC _ ?_;rw [<- Y6,<- Y6];exact List.Perm.append_right _ List.perm_append_comm
theorem HK {R1 R2:List α} {x:α} (hR:kH k (R1 ++ R2)) (h1:∀ y,R1.getLast? = some y->k y<=k x) (h2:∀ y,R2.head? = some y->k x<=k y):kH k (R1 ++ x :: R2):=by
 obtain ⟨U,V,W⟩:=gh.1 hR
 refine gh.2 ⟨U,ZU.2 ⟨λy u=>?_,V⟩,λy u z R=>?_⟩
 ·exact vo (l:=[x]) (List.pairwise_singleton _ _) V (λa b O G=>by cases O; exact h2 b G) x σ y u
 ·rcases Ze.1 R with rfl | R
  ·exact vo U (m:=[z]) (List.pairwise_singleton _ _) (λa b O G=>by cases G; exact h1 a O) y u z σ
  ·exact W y u z R
theorem zt {P M Q:List α} {x y:α} {i j:Nat} (hi:i = P.length) (hj:j = P.length + 1 + M.length):((P ++ x :: (M ++ y :: Q)).set i y).set j x = P ++ y :: (M ++ x :: Q):=by
 subst hi hj;rw [aae _ _ (Zc _),Z0,aaU,aae _ _ ω,show P.length + 1 + M.length - P.length = M.length + 1 by omega,List.set_cons_succ,aae _ _ (Zc _),Z0,aaU]
theorem nN {P Q:List α} {x:α} {i:Nat} (hi:i = P.length):(P ++ x :: Q)[i]? = some x:=by
 subst hi; rw [Y_ (Zc _),Z0]; rfl
end
structure aJ where
 kind:Int
 to:Int
deriving DecidableEq
instance:Inhabited aJ:=⟨⟨0,0⟩⟩
structure fq where
 st:Int
 tm:Int
deriving DecidableEq
structure bX where
 st:Int
 tm:Int
 acts:List aJ
deriving DecidableEq
instance:Inhabited bX:=⟨⟨0,0,[]⟩⟩
section
variable {g:af} {nn:List Bool} {ss ss' : List SQ} {α : Type}
def wo (ss:List SQ) (q t:Nat):List aJ:=match fy ss q (t:Int) with
 | some j=>[⟨1,j⟩]
 | none=>[]
def J2 (ss:List SQ) (q t:Nat):List aJ:=match ss[q]? with
 | some r=>if t = 0/\(⟨0,1⟩ : ai)∈r.1.2 then [⟨3,0⟩] else []
 | none=>[]
def EK (ls:List bK) (q t:Nat):List aJ:=(ls.filter λl=>decide (l.st = (q:Int)) && decide ((t:Int)∈l.tm)).map λl=>⟨2,l.prod⟩
noncomputable def cM (g:af) (nn:List Bool) (ss:List SQ) (q t:Nat):List aJ:=wo ss q t ++ J2 ss q t ++ EK (bz g nn ss) q t
noncomputable def cellAt (g:af) (nn:List Bool) (ss:List SQ) (least q t:Nat):List bX:=if least<=(cM g nn ss q t).length then [⟨(q:Int),(t:Int),cM g nn ss q t⟩] else []
noncomputable def jy (g:af) (nn:List Bool) (ss:List SQ) (least q n:Nat):List bX:=(List.range n).flatMap (cellAt g nn ss least q)
noncomputable def h_ (g:af) (nn:List Bool) (ss:List SQ) (least n:Nat):List bX:=(List.range n).flatMap λq=>jy g nn ss least q g.T
noncomputable def gn (g:af) (nn:List Bool) (ss:List SQ) (least:Nat):List bX:=h_ g nn ss least ss.length
theorem jX {least q n:Nat}:jy g nn ss least q (n + 1) = jy g nn ss least q n ++ cellAt g nn ss least q n:=by unfold jy; rw [Z1,ZB]; simp
theorem q8 {least n:Nat}:h_ g nn ss least (n + 1) = h_ g nn ss least n ++ jy g nn ss least n g.T:=by unfold h_; rw [Z1,ZB]; simp
abbrev AN:=List (fq × aJ)
def nO (g:af) (q:Nat) (es:List aS):AN:=(es.filter λe=>decide (e.sym < (g.T:Int))).map λe=>(⟨(q:Int),e.sym⟩,⟨1,e.to⟩)
def uU (q:Nat) (K:List ai):AN:=if (⟨0,1⟩ : ai)∈K then [(⟨(q:Int),0⟩,⟨3,0⟩)] else []
def zu (g:af) (ss:List SQ) (q:Nat):AN:=match ss[q]? with
 | some r=>nO g q r.2.2 ++ uU q r.1.2
 | none=>[]
def mC (g:af) (ss:List SQ) (n:Nat):AN:=(List.range n).flatMap (zu g ss)
def uV (l:bK) (n:Nat):AN:=(l.tm.take n).map λt=>(⟨l.st,t⟩,⟨2,l.prod⟩)
def qd (ls:List bK) (n:Nat):AN:=(ls.take n).flatMap λl=>uV l l.tm.length
theorem Eh {n:Nat}:mC g ss (n + 1) = mC g ss n ++ zu g ss n:=by unfold mC; rw [Z1,ZB]; simp
theorem Ei {q:Nat} {es:List aS} {e:aS}:nO g q (es ++ [e]) = if e.sym < (g.T:Int) then nO g q es ++ [(⟨(q:Int),e.sym⟩,⟨1,e.to⟩)] else nO g q es:=by
 unfold nO;rw [Zs,Zg];by_cases h:e.sym < (g.T:Int) <;> simp [h]
theorem LL {l:bK} {n:Nat} {t:Int} (h:l.tm[n]? = some t):uV l (n + 1) = uV l n ++ [(⟨l.st,t⟩,⟨2,l.prod⟩)]:=by
 unfold uV; rw [Y2,h]; simp
theorem Ej {ls:List bK} {n:Nat} {l:bK} (h:ls[n]? = some l):qd ls (n + 1) = qd ls n ++ uV l l.tm.length:=by
 unfold qd; rw [Y2,h,ZB]; simp
def EL (ps:AN) (p:fq):List aJ:=(ps.filter λx=>decide (x.1 = p)).map (·.2)
theorem CF {ps qs:AN} {p:fq}:EL (ps ++ qs) p = EL ps p ++ EL qs p:=by unfold EL; rw [Zs,Zg]
theorem Ek {ps:AN} {p:fq} (h:∀ x∈ps,x.1≠p):EL ps p = []:=by
 unfold EL; rw [aaj.2 λx u=>by simpa using h x u]; rfl
theorem J3 {β : Type} {l:List β} {f:β->AN} {p:fq}:EL (l.flatMap f) p = l.flatMap λx=>EL (f x) p:=by
 induction l with
 | nil=>rfl
 | cons a l ih=>rw [Zw,Zw,CF,ih]
theorem J4 {f:Nat->List α} {q:Nat} (h:∀ i,i≠q->f i = []):∀ n,q < n->(List.range n).flatMap f = f q
 | 0,hq=>ω
 | n + 1,hq=>by
  rw [Z1,ZB]
  by_cases e:q = n
  ·subst e
   have:(List.range q).flatMap f = []:=List.flatMap_eq_nil_iff.2 λi hi=>h i (by have:=Zo.1 hi; omega)
   rw [this]; simp
  ·rw [J4 h n ω]
   simp [h n (aaw e)]
theorem Q_ {q:Nat} {r:SQ} {s:Int} (hr:ss[q]? = some r):fy ss q s = (r.2.2.find? λe=>decide (e.sym = s)).map (·.to):=mu hr s
theorem Gi:∀ {es:List aS} {s:Int},(es.map (·.sym)).Nodup->(es.filter λe=>decide (e.sym = s)) = (es.find? λe=>decide (e.sym = s)).toList
 | [],s,_=>rfl
 | e :: es,s,h=>by
  rw [ZF,ZR] at h
  by_cases he:e.sym = s
  ·rw [aal (by simpa using he),List.find?_cons_of_pos (by simpa using he)]
   have:(es.filter λe=>decide (e.sym = s)) = []:=aaj.2 λx hx=>by
    simp only [Y7]
    intro e2
    exact h.1 (by rw [he,<- e2]; exact aaO hx)
   rw [this]; rfl
  ·rw [aam (by simpa using he),List.find?_cons_of_neg (by simpa using he)]
   exact Gi h.2
theorem YH (hA:bw g ss) {q t:Nat} {r:SQ} (hr:ss[q]? = some r) (ht:t < g.T):EL (nO g q r.2.2) ⟨(q:Int),(t:Int)⟩ = wo ss q t:=by
 unfold wo;rw [Q_ hr];have u:=Ai hA hr;unfold EL nO;rw [List.filter_map,List.filter_filter,aay]
 have e:(r.2.2.filter λe=>(((λx:fq × aJ=>decide (x.1 = ⟨(q:Int),(t:Int)⟩)) ∘ λe:aS=>((⟨(q:Int),e.sym⟩ : fq),(⟨1,e.to⟩ : aJ))) e) && decide (e.sym < (g.T:Int))) = r.2.2.filter λe=>decide (e.sym = (t:Int)):=by
  refine Z5 λe _=>?_
  show (decide ((⟨(q:Int),e.sym⟩ : fq) = ⟨(q:Int),(t:Int)⟩) && _) = _
  by_cases h:e.sym = (t:Int)
  ·rw [h,Zp rfl,Zp ω,Zp rfl]; rfl
  ·rw [Zu (by simp [h]),Zu h]; rfl
 rw [e,Gi u];cases r.2.2.find? λe=>decide (e.sym = (t:Int)) with
 | none=>rfl
 | some e=>rfl
theorem YI (hA:bw g ss) {q t:Nat} {r:SQ} (hr:ss[q]? = some r) (ht:t < g.T):EL (zu g ss q) ⟨(q:Int),(t:Int)⟩ = wo ss q t ++ J2 ss q t:=by
 unfold zu J2;rw [hr]
 show EL (nO g q r.2.2 ++ uU q r.1.2) _ = _
 rw [CF,YH hA hr ht];congr 1
 show _ = if t = 0/\(⟨0,1⟩ : ai)∈r.1.2 then [(⟨3,0⟩ : aJ)] else []
 unfold uU
 by_cases h:(⟨0,1⟩ : ai)∈r.1.2
 ·rw [Y5 h]
  by_cases G:t = 0
  ·subst G; rw [Y5 ⟨rfl,h⟩]; simp [EL]
  ·rw [YZ (λu=>G u.1)]; exact Ek λx z=>by simp at z; subst z; simp; omega
 ·rw [YZ h,YZ (λu=>h u.2)]; rfl
theorem Ra {q:Nat} {x:fq × aJ} (h:x∈zu g ss q):x.1.st = (q:Int):=by
 unfold zu at h
 split at h
 ·rcases YY.1 h with h | h
  ·unfold nO at h;obtain ⟨e,_,rfl⟩:=Zh.1 h;rfl
  ·unfold uU at h
   split at h
   ·simp at h; subst h; rfl
   ·simp at h
 ·simp at h
theorem YJ (hA:bw g ss) {q t:Nat} (hq:q < ss.length) (ht:t < g.T):EL (mC g ss ss.length) ⟨(q:Int),(t:Int)⟩ = wo ss q t ++ J2 ss q t:=by
 unfold mC;rw [J3,J4 (q:=q) (λi hi=>Ek λx u e=>hi (by have:=Ra u; rw [e] at this; simp at this; omega)) _ hq];exact YI hA (YU hq) ht
theorem YK {l:bK} {q t:Nat} (hr:jH l.tm):EL (uV l l.tm.length) ⟨(q:Int),(t:Int)⟩ = if l.st = (q:Int)/\(t:Int)∈l.tm then [⟨2,l.prod⟩] else []:=by
 unfold EL uV;rw [Zi,List.filter_map,aay]
 by_cases h:l.st = (q:Int)/\(t:Int)∈l.tm
 ·rw [Y5 h]
  have e:(l.tm.filter ((λx:fq × aJ=>decide (x.1 = ⟨(q:Int),(t:Int)⟩)) ∘ λt=>((⟨l.st,t⟩ : fq),(⟨2,l.prod⟩ : aJ)))) = [(t:Int)]:=by
   have key:∀ {l:List Int},l.Nodup->(t:Int)∈l->(l.filter λx=>decide (x = (t:Int))) = [(t:Int)]:=by
    intro l
    induction l with
    | nil=>intro _ h; cases h
    | cons a l ih =>
     intro U R;obtain ⟨O,G⟩:=ZR.1 U
     by_cases z:a = (t:Int)
     ·subst z;rw [aal σ,aaj.2 λx u=>by simp; intro e; exact O (e ▸ u)]
     ·rw [aam (by simpa using z)];exact ih G ((Ze.1 R).resolve_left (aaw z))
   rw [<- key (TT hr) h.2];refine Z5 λx _=>?_
   show decide ((⟨l.st,x⟩ : fq) = ⟨(q:Int),(t:Int)⟩) = _
   rw [h.1]; simp
  rw [e]; rfl
 ·rw [YZ h,aaj.2 λx u=>?_]; rfl
  show ¬ decide ((⟨l.st,x⟩ : fq) = ⟨(q:Int),(t:Int)⟩) = true
  simp only [fq.mk.injEq,Y7];rintro ⟨O,G⟩;exact h ⟨O,G ▸ u⟩
theorem YL {ls:List bK} {q t:Nat} (hr:∀ l∈ls,jH l.tm):EL (qd ls ls.length) ⟨(q:Int),(t:Int)⟩ = EK ls q t:=by
 unfold qd EK;rw [Zi,J3]
 induction ls with
 | nil=>rfl
 | cons l ls ih =>
  rw [Zw,YK (hr l σ),ih λl u=>hr l (by simp [u])]
  by_cases h:l.st = (q:Int)/\(t:Int)∈l.tm
  ·rw [Y5 h,aal (by simp [h.1,h.2])]; rfl
  ·rw [YZ h,aam (by simpa using h)]; rfl
theorem J5 {k:α->Int}:∀ {l m:List α},l.Perm m->(l.Pairwise λx y=>k x < k y)->(m.Pairwise λx y=>k x < k y)->l = m
 | [],m,p,_,_=>(p.symm.eq_nil).symm
 | a :: l,[],p,_,_=>absurd p.eq_nil σ
 | a :: l,b :: m,p,hl,hm=>by
  obtain ⟨h1,h2⟩:=ZU.1 hl
  obtain ⟨h3,h4⟩:=ZU.1 hm
  have e:a = b:=by
   rcases Ze.1 (p.mem_iff.1 (List.mem_cons_self)) with h | h
   ·exact h
   ·rcases Ze.1 (p.mem_iff.2 (List.mem_cons_self)) with h' | h'
    ·exact h'.symm
    ·have:=h3 a h; have:=h1 b h'; omega
  subst e
  rw [J5 ((List.perm_cons a).1 p) h2 h4]
theorem AO (q:Nat):((bz g nn ss).filter λl=>decide (l.st = (q:Int))).Pairwise λx y=>x.prod < y.prod:=by
 have key:∀ n,((B5 g ss n).filter λb=>decide (b.st = (q:Int))) = if q < n then dH g ss q g.prods.length else []:=by
  intro n
  induction n with
  | zero=>rw [YZ ω]; rfl
  | succ n ih =>
   rw [vn,Zs,ih];have z:∀ b∈dH g ss n g.prods.length,b.st = (n:Int):=λb u=>by obtain ⟨m,_,_,rfl⟩:=qb.1 u; rfl
   by_cases e:q = n
   ·subst e;rw [YZ ω,Y5 ω,Zz,List.filter_eq_self.2 λb u=>by simpa using z b u]
   ·have:((dH g ss n g.prods.length).filter λb=>decide (b.st = (q:Int))) = []:=aaj.2 λb u=>by rw [z b u]; simp; omega
    rw [this,Zm]
    by_cases h:q < n
    ·rw [Y5 h,Y5 ω]
    ·rw [YZ h,YZ ω]
 have O:=key ss.length
 have e:((bz g nn ss).filter λl=>decide (l.st = (q:Int))) = (((qQ g ss).filter λb=>decide (b.st = (q:Int)))).map (eZ g (EJ g nn ss)):=by
  unfold bz;rw [List.filter_map]; rfl
 rw [e,ZO]
 show List.Pairwise _ ((B5 g ss ss.length).filter _)
 rw [O]
 by_cases h:q < ss.length
 ·rw [Y5 h];have G:=xO (g:=g) (ss:=ss) q g.prods.length;unfold jH at G;rw [ZO] at G;exact G
 ·rw [YZ h]; exact .nil
theorem TU {ls:List bK} (p:ls.Perm (bz g nn ss)) (h:kH (·.prod) ls) (q t:Nat):EK ls q t = EK (bz g nn ss) q t:=by
 have e:∀ m:List bK,EK m q t = ((m.filter λl=>decide (l.st = (q:Int))).filter λl=>decide ((t:Int)∈l.tm)).map λl=>⟨2,l.prod⟩:=λm=>by
  unfold EK;rw [List.filter_filter];congr 1;refine Z5 λl _=>?_;rw [Bool.and_comm]
 rw [e,e];congr 2;have hp:=p.filter λl=>decide (l.st = (q:Int));have u:=AO (g:=g) (nn:=nn) (ss:=ss) q;refine J5 (k:=(·.prod)) hp ?_ u;have G:(ls.filter λl=>decide (l.st = (q:Int))).Pairwise λx y=>x.prod<=y.prod:=List.Pairwise.filter _ h
 have z:((ls.filter λl=>decide (l.st = (q:Int))).map (·.prod)).Nodup:=by
  refine (hp.map (·.prod)).nodup_iff.2 ?_;rw [ZH,ZO];exact u.imp λh e=>ω
 rw [ZH,ZO] at z;exact G.imp₂ (λ_ _ a b=>ω) z
theorem Xo (hA:bw g ss) {ls:List bK} (p:ls.Perm (bz g nn ss)) (h:kH (·.prod) ls) {q t:Nat} (hq:q < ss.length) (ht:t < g.T):EL (mC g ss ss.length ++ qd ls ls.length) ⟨(q:Int),(t:Int)⟩ = cM g nn ss q t:=by
 rw [CF,YJ hA hq ht,YL,TU p h]
 ·rfl
 ·intro l u;obtain ⟨b,_,rfl⟩:=Zh.1 (p.mem_iff.1 u);exact Gh
end
section
variable {g:af} {nn:List Bool} {ss:List SQ} {least:Nat}
theorem El {q t:Nat} {c:bX}:c∈cellAt g nn ss least q t↔least<=(cM g nn ss q t).length/\c = ⟨(q:Int),(t:Int),cM g nn ss q t⟩:=by
 unfold cellAt
 split
 ·rename_i h; simp [h]
 ·rename_i h; simp [h]
theorem vp {q n:Nat} {c:bX}:c∈jy g nn ss least q n↔∃ t,t < n/\least<=(cM g nn ss q t).length/\c = ⟨(q:Int),(t:Int),cM g nn ss q t⟩:=by
 unfold jy;rw [aaa];exact exists_congr λt=>by rw [Zo,El]
theorem lY {n:Nat} {c:bX}:c∈h_ g nn ss least n↔∃ q t,q < n/\t < g.T/\least<=(cM g nn ss q t).length/\c = ⟨(q:Int),(t:Int),cM g nn ss q t⟩:=by
 unfold h_;rw [aaa]
 constructor
 ·rintro ⟨q,O,h⟩;obtain ⟨t,G,u,z⟩:=vp.1 h;exact ⟨q,t,Zo.1 O,G,u,z⟩
 ·rintro ⟨q,t,O,G,u,z⟩;exact ⟨q,Zo.2 O,vp.2 ⟨t,G,u,z⟩⟩
def bX.lt (a b:bX):Prop:=a.st < b.st\/a.st = b.st/\a.tm < b.tm
theorem Gj {q:Nat}:∀ n,(jy g nn ss least q n).Pairwise bX.lt
 | 0=>by simp [jy]
 | n + 1=>by
  rw [jX,aaZ]
  refine ⟨Gj n,?_,λa ha b hb=>?_⟩
  ·unfold cellAt; split <;> simp
  ·obtain ⟨t,h1,_,rfl⟩:=vp.1 ha
   obtain ⟨_,rfl⟩:=El.1 hb
   exact .inr ⟨rfl,by show (t:Int) < n; omega⟩
theorem AP:∀ n,(h_ g nn ss least n).Pairwise bX.lt
 | 0=>by simp [h_]
 | n + 1=>by
  rw [q8,aaZ]
  refine ⟨AP n,Gj _,λa ha b hb=>?_⟩
  obtain ⟨q,t,h1,_,_,rfl⟩:=lY.1 ha
  obtain ⟨t',_,_,rfl⟩:=vp.1 hb
  exact .inl (by show (q:Int) < n; omega)
theorem AQ {q n:Nat}:(jy g nn ss least q n).length<=n:=by
 induction n with
 | zero=>simp [jy]
 | succ n ih =>
  rw [jX,Y0];have:(cellAt g nn ss least q n).length<=1:=by unfold cellAt; split <;> simp
  omega
theorem AR {n:Nat}:(h_ g nn ss least n).length<=n * g.T:=by
 induction n with
 | zero=>simp [h_]
 | succ n ih =>
  rw [q8,Y0,aao];have:=AQ (g:=g) (nn:=nn) (ss:=ss) (least:=least) (q:=n) (n:=g.T);omega
theorem J6 {n i j:Nat} {a b:bX} (ha:(h_ g nn ss least n)[i]? = some a) (hb:(h_ g nn ss least n)[j]? = some b) (h1:a.st = b.st) (h2:a.tm = b.tm):i = j:=by
 have u:=aaW.1 (AP (g:=g) (nn:=nn) (ss:=ss) (least:=least) n);obtain ⟨hi,rfl⟩:=YT.1 ha;obtain ⟨z,rfl⟩:=YT.1 hb
 rcases Nat.lt_trichotomy i j with h | h | h
 ·have:=u i j hi z h; unfold bX.lt at this; omega
 ·exact h
 ·have:=u j i z hi h; unfold bX.lt at this; omega
theorem HL (q t:Nat):(wo ss q t).length<=1:=by unfold wo; split <;> simp
theorem HM (q t:Nat):(J2 ss q t).length<=1:=by unfold J2; split; split <;> simp; simp
theorem M6 {q t:Nat}:(EK (bz g nn ss) q t).Pairwise λx y=>x.to < y.to:=by
 have e:EK (bz g nn ss) q t = (((bz g nn ss).filter λl=>decide (l.st = (q:Int))).filter λl=>decide ((t:Int)∈l.tm)).map λl=>⟨2,l.prod⟩:=by
  unfold EK;rw [List.filter_filter];congr 1;refine Z5 λl _=>?_;rw [Bool.and_comm]
 rw [e,ZO];exact List.Pairwise.filter _ (AO q)
theorem uW {l:bK} (h:l∈bz g nn ss):∃ q m:Nat,q < ss.length/\m < g.prods.length/\m≠0/\l = eZ g (EJ g nn ss) ⟨(q:Int),(m:Int),cq (bD g ss).length (dM g ss q m)⟩:=by
 obtain ⟨b,G,rfl⟩:=Zh.1 h;obtain ⟨q,m,X,W,rfl,R⟩:=HI G;refine ⟨q,m,X,W,λe=>?_,rfl⟩;subst e;obtain ⟨z,U⟩:=aai _ R;obtain ⟨u,_,V,G⟩:=df.1 U;have ht:(bD g ss)[u]? = some (bD g ss)[u]:=YU V;obtain ⟨O,_⟩:=(jV ht).1 G;have:=(jt.1 O).1;omega
theorem TV {q t:Nat}:(EK (bz g nn ss) q t).length<=g.prods.length:=by
 have h:=M6 (g:=g) (nn:=nn) (ss:=ss) (q:=q) (t:=t);have R:jH ((EK (bz g nn ss) q t).map (·.to)):=by unfold jH; rw [ZO]; exact h
 have G:=LI (B:=g.prods.length) R λz z=>by
  obtain ⟨x,u,rfl⟩:=Zh.1 z;unfold EK at u;obtain ⟨l,O,rfl⟩:=Zh.1 u;obtain ⟨_,m,_,U,_,rfl⟩:=uW (ZA.1 O).1;exact ⟨Zx _,by show (m:Int) < _; omega⟩
 rwa [Y3] at G
theorem J7 {q t:Nat}:(cM g nn ss q t).length<=g.prods.length + 2:=by
 unfold cM;have G:=HL (ss:=ss) q t;have u:=HM (ss:=ss) q t;have z:=TV (g:=g) (nn:=nn) (ss:=ss) (q:=q) (t:=t);simp only [Y0];omega
theorem Rb {q t:Nat} {x:aJ} (h:x∈wo ss q t):x.kind = 1/\fy ss q (t:Int) = some x.to:=by
 unfold wo at h
 split at h
 ·rename_i j hj; simp at h; subst h; exact ⟨rfl,hj⟩
 ·simp at h
theorem Re {q t:Nat} {x:aJ} (h:x∈J2 ss q t):x = ⟨3,0⟩/\t = 0/\∃ r,ss[q]? = some r/\(⟨0,1⟩ : ai)∈r.1.2:=by
 unfold J2 at h
 split at h
 ·rename_i r hr
  split at h
  ·rename_i h2; simp at h; exact ⟨h,h2.1,r,hr,h2.2⟩
  ·simp at h
 ·simp at h
theorem Rf {ls:List bK} {q t:Nat} {x:aJ} (h:x∈EK ls q t):x.kind = 2/\∃ l∈ls,l.st = (q:Int)/\l.prod = x.to/\(t:Int)∈l.tm:=by
 unfold EK at h;obtain ⟨l,z,rfl⟩:=Zh.1 h;obtain ⟨G,u⟩:=ZA.1 z;simp only [Zd,Y7] at u;exact ⟨rfl,l,G,u.1,rfl,u.2⟩
end
section
variable {g:af} {nn:List Bool} {ss:List SQ}
def TW (g:af) (p:Nat):Int:=match g.prods[p]? with
 | some x=>x.level
 | none=>0
def V_ (g:af) (t:Nat):Int:=match g.terms[t]? with
 | some x=>x.level
 | none=>0
def XH (g:af) (l:Int):Int:=match g.levels[(l - 1).toNat]? with
 | some x=>x
 | none=>0
def d_ (g:af) (p t:Nat):Int :=
 if TW g p = 0\/V_ g t = 0 then 0 else if V_ g t < TW g p then 2 else if TW g p < V_ g t then 1
 else if XH g (TW g p) = 1 then 2 else if XH g (TW g p) = 2 then 1 else 3
theorem Rg (hc:ak g) {p:Nat} {x:aP} (h:g.prods[p]? = some x):0<=x.level/\x.level<=g.levels.length:=by
 obtain ⟨_,_,z,O,u,_,_,R⟩:=hc;cases p with
 | zero =>
  rw [u] at h; cases h;omega
 | succ p =>
  have G:x∈g.prods.drop 1:=by
   refine YV (i:=p) ?_;rw [Zv,aaQ]; exact h
  exact (z.2.2.1 x G).1.2.2
theorem Rh (hc:ak g) {l:Int} (h1:1<=l) (h2:l<=g.levels.length):∃ v,g.levels[(l - 1).toNat]? = some v/\XH g l = v/\1<=v/\v<=3:=by
 obtain ⟨_,u,_⟩:=hc;obtain ⟨v,hv⟩ : ∃ v,g.levels[(l - 1).toNat]? = some v:=⟨_,YU ω⟩;have:=u.2.2.2.2.2.2.1 _ v hv;exact ⟨v,hv,by unfold XH; rw [hv],this.1,this.2.1⟩
theorem Ri (p t:Nat):0<=d_ g p t/\d_ g p t<=3:=by
 unfold d_
 split
 ·omega
 ·split
  ·omega
  ·split
   ·omega
   ·split
    ·omega
    ·split <;> omega
def tB (n:Nat) (a:aJ):Int:=if a.kind = 1/\0<=a.to then 0 else if a.kind = 3/\a.to = 0 then 1 else if a.kind = 2/\0 < a.to/\a.to < n then 1 + a.to else -1
def B9 (n:Nat):Int->List aJ->Prop
 | _,[]=>True
 | last,a :: l=>last < tB n a/\B9 n (tB n a) l
def uX (n:Nat) (l:List aJ):Prop:=B9 n (-1) l
instance ordF_dec (n:Nat):∀ (last:Int) (l:List aJ),Decidable (B9 n last l)
 | _,[]=>isTrue trivial
 | last,a :: l=>match (inferInstance:Decidable (last < tB n a)),ordF_dec n (tB n a) l with
  | isTrue h,isTrue h2=>isTrue ⟨h,h2⟩
  | isFalse h,_=>isFalse λhh=>h hh.1
  | _,isFalse h=>isFalse λhh=>h hh.2
instance (n:Nat) (l:List aJ):Decidable (uX n l):=ordF_dec n (-1) l
theorem Om {n i:Nat} {last:Int} {l:List aJ} {a:aJ} (h:l[i]? = some a):B9 n last (l.drop i)↔last < tB n a/\B9 n (tB n a) (l.drop (i + 1)):=by
 have hi:=(YT.1 h);obtain ⟨u,e⟩:=hi;rw [Zy u,e];exact Iff.rfl
theorem Em {n:Nat}:∀ {l:List aJ} {last:Int},B9 n last l->∀ x∈l,last < tB n x
 | [],_,_,x,h=>by cases h
 | a :: l,last,ho,x,h=>by
  rcases Ze.1 h with rfl | h
  ·exact ho.1
  ·have:=Em ho.2 x h
   have:=ho.1
   omega
theorem Rj {n:Nat} {l:List aJ} (h:uX n l) {x:aJ} (hx:x∈l):x.kind = 1/\0<=x.to\/x.kind = 3/\x.to = 0\/x.kind = 2/\0 < x.to/\x.to < n:=by
 have h:=Em h x hx;unfold tB at h
 split at h
 ·exact .inl ‹_›
 ·split at h
  ·exact .inr (.inl ‹_›)
  ·split at h
   ·exact .inr (.inr ‹_›)
   ·omega
theorem Rk {n:Nat} {a:aJ} {l:List aJ} (h:uX n (a :: l)) {x:aJ} (hx:x∈l):x.kind≠1:=by
 intro G;have z:=h.1;have u:=Em h.2 x hx
 have:tB n x<=0:=by
  unfold tB
  split
  ·omega
  ·rw [YZ ω,YZ ω]; omega
 omega
theorem HN {n:Nat}:∀ {l m:List aJ} {last:Int},B9 n last l->(∀ x∈l,∀ y∈m,tB n x < tB n y)->(∀ y∈m,last < tB n y)->B9 n last m->B9 n last (l ++ m)
 | [],m,last,_,_,_,hm=>hm
 | a :: l,m,last,hl,h,h2,hm=>⟨hl.1,HN hl.2 (λx hx=>h x (by simp [hx])) (λy hy=>h a σ y hy) (by
   cases m with
   | nil=>trivial
   | cons b m=>exact ⟨h a σ b σ,hm.2⟩)⟩
theorem CG {n:Nat}:∀ {l:List aJ} {last:Int},(∀ x∈l,last < tB n x)->l.Pairwise (λx y=>tB n x < tB n y)->B9 n last l
 | [],_,_,_=>trivial
 | a :: l,last,h,hp=>by
  obtain ⟨h1,h2⟩:=ZU.1 hp
  exact ⟨h a σ,CG h1 h2⟩
theorem J8 (hc:ak g) (hA:bw g ss) (q t:Nat):uX g.prods.length (cM g nn ss q t):=by
 unfold uX cM
 have W:∀ x∈wo ss q t,tB g.prods.length x = 0:=λx u=>by
  obtain ⟨V,R⟩:=Rb u;have:=(iq hc hA R).1;unfold tB;rw [Y5 ⟨V,this⟩]
 have O:∀ x∈J2 ss q t,tB g.prods.length x = 1:=λx u=>by
  obtain ⟨rfl,_⟩:=Re u;unfold tB;rw [YZ σ,Y5 σ]
 have G:∀ x∈EK (bz g nn ss) q t,1 < tB g.prods.length x/\tB g.prods.length x = 1 + x.to:=λx u=>by
  obtain ⟨V,l,X,_,R,_⟩:=Rf u;obtain ⟨Z,m,_,hm,Y,rfl⟩:=uW X;have R:(m:Int) = x.to:=R;unfold tB;rw [YZ ω,YZ ω,Y5 ω];omega
 have U:∀ {l:List aJ},l.length<=1->l.Pairwise (λx y=>tB g.prods.length x < tB g.prods.length y):=λ{l} h=>by
  match l,h with
  | [],_=>exact .nil
  | [a],_=>simp
 rw [Y6]
 refine HN (CG (λx u=>by have:=W x u; omega) (U (HL q t))) (λx u y z=>?_) (λy z=>?_) (HN (CG (λx u=>by have:=O x u; omega) (U (HM q t))) (λx u y z=>?_) (λy z=>?_) (CG (λx u=>?_) ?_))
 ·have:=W x u
  rcases YY.1 z with z | z
  ·have:=O y z; omega
  ·have:=G y z; omega
 ·rcases YY.1 z with z | z
  ·have:=O y z; omega
  ·have:=G y z; omega
 ·have:=O x u; have:=G y z; omega
 ·have:=G y z; omega
 ·have:=G x u; omega
 ·refine List.Pairwise.imp_of_mem ?_ M6;intro x y u z h;have:=G x u; have:=G y z; omega
def uY (g:af) (t:Nat) (x:aJ):Int:=if x.kind = 2 then d_ g x.to.toNat t else 0
theorem Rl (t:Nat) (x:aJ):0<=uY g t x/\uY g t x<=3:=by
 unfold uY
 split
 ·exact Ri _ _
 ·omega
def wq (g:af) (t:Nat) (x:aJ):Bool:=decide (uY g t x≠2/\uY g t x≠3)
def uZ (g:af) (t:Nat) (x:aJ):Bool:=decide (uY g t x = 0\/uY g t x = 2)
def zG (g:af) (t:Nat) (x:aJ):Bool:=decide (uY g t x = 3)
def cW (g:af) (t:Nat):List aJ->List aJ × Bool
 | []=>([],false)
 | a :: r=>if a.kind = 1 then ((if r.all (wq g t) = true then [a] else []) ++ r.filter (uZ g t),r.any (zG g t)) else (a :: r,false)
def rM:List aJ × Bool->aJ
 | (a :: _,_)=>a
 | ([],true)=>⟨4,0⟩
 | ([],false)=>⟨0,0⟩
def lq (l:List aJ):List aJ:=if 2<=l.length then l else []
theorem u4 {t:Nat} {a:aJ} {r:List aJ} (h:a.kind = 1):cW g t (a :: r) = ((if r.all (wq g t) = true then [a] else []) ++ r.filter (uZ g t),r.any (zG g t)):=by
 show (if a.kind = 1 then _ else _) = _
 rw [Y5 h]
theorem AU {t:Nat} {a:aJ} {r:List aJ} (h:¬ a.kind = 1):cW g t (a :: r) = (a :: r,false):=by
 show (if a.kind = 1 then _ else _) = _
 rw [YZ h]
theorem On {t:Nat} {l:List aJ}:(cW g t l).1.length<=l.length:=by
 cases l with
 | nil=>exact Zc _
 | cons a r =>
  by_cases h:a.kind = 1
  ·rw [u4 h]
   show ((if r.all (wq g t) = true then [a] else []) ++ r.filter (uZ g t)).length<=_
   have:=Zt (uZ g t) r;rw [Y0,ZC]
   split <;> simp <;> omega
  ·rw [AU h]; exact Zc _
noncomputable def TX (g:af) (nn:List Bool) (ss:List SQ) (q t:Nat):aJ:=rM (cW g t (cM g nn ss q t))
noncomputable def B_ (g:af) (nn:List Bool) (ss:List SQ):List (List aJ):=(List.range ss.length).map λq=>(List.range g.T).map (TX g nn ss q)
def Fg (g:af) (ss:List SQ):List (List Int):=(List.range ss.length).map λq=>(List.range g.N).map λj=>kE ss q ((g.T + j:Nat):Int)
def zH (g:af) (c:bX):List bX:=if 2<=(cW g c.tm.toNat c.acts).1.length then [⟨c.st,c.tm,(cW g c.tm.toNat c.acts).1⟩] else []
noncomputable def zv (g:af) (nn:List Bool) (ss:List SQ):List bX:=(gn g nn ss 1).flatMap (zH g)
def Eo (g:af) (n:Nat) (cs:List bX) (A:List (List aJ)):Prop:=A.length = n/\∀ (q:Nat) r,A[q]? = some r->r.length = g.T/\∀ (t:Nat) a,r[t]? = some a->(∀ c∈cs,c.st = (q:Int)->c.tm = (t:Int)->a = rM (cW g t c.acts))/\((∀ c∈cs,¬(c.st = (q:Int)/\c.tm = (t:Int)))->a = ⟨0,0⟩)
theorem Eo.zero {n:Nat}:Eo g n [] (List.replicate n (List.replicate g.T ⟨0,0⟩)):=by
 refine ⟨σ,λq r u=>?_⟩;rw [Z2] at u
 split at u
 ·cases u;refine ⟨σ,λt a z=>⟨λc G=>absurd G σ,λ_=>?_⟩⟩;rw [Z2] at z
  split at z
  ·cases z; rfl
  ·cases z
 ·cases u
theorem Eo.put {n q t:Nat} {cs:List bX} {A:List (List aJ)} {r:List aJ} {c:bX} (h:Eo g n cs A) (hr:A[q]? = some r) (h1:c.st = (q:Int)) (h2:c.tm = (t:Int)) (hn:∀ d∈cs,¬(d.st = (q:Int)/\d.tm = (t:Int))):Eo g n (cs ++ [c]) (A.set q (r.set t (rM (cW g t c.acts)))):=by
 obtain ⟨h3,h4⟩:=h;have Y:=(YT.1 hr).1;refine ⟨by simp [h3],λq' r' z=>?_⟩;rw [ZN] at z
 by_cases e:q = q'
 ·subst e;rw [Y5 rfl,Y5 Y] at z;cases z;obtain ⟨X,W⟩:=h4 q r hr;refine ⟨by simp [X],λV a G=>?_⟩;rw [ZN] at G
  by_cases Z:t = V
  ·subst Z;rw [Y5 rfl] at G
   split at G
   ·cases G;refine ⟨λd u R U=>?_,λR=>absurd ⟨h1,h2⟩ (R c σ)⟩
    rcases YY.1 u with u | u
    ·exact absurd ⟨R,U⟩ (hn d u)
    ·simp at u; subst u; rfl
   ·cases G
  ·rw [YZ Z] at G;obtain ⟨R,U⟩:=W V a G;refine ⟨λd u O h0=>?_,λO=>U λd u=>O d (by simp [u])⟩
   rcases YY.1 u with u | u
   ·exact R d u O h0
   ·simp at u; subst u; omega
 ·rw [YZ e] at z;obtain ⟨X,W⟩:=h4 q' r' z;refine ⟨X,λV a G=>?_⟩;obtain ⟨R,U⟩:=W V a G;refine ⟨λd u O h0=>?_,λO=>U λd u=>O d (by simp [u])⟩
  rcases YY.1 u with u | u
  ·exact R d u O h0
  ·simp at u; subst u; omega
theorem Eo.all {A:List (List aJ)} (h:Eo g ss.length (gn g nn ss 1) A):A = B_ g nn ss:=by
 obtain ⟨h1,Y⟩:=h;unfold B_;refine ZK λq=>?_;rw [YW]
 by_cases R:q < ss.length
 ·rw [Z8 R];obtain ⟨r,W⟩ : ∃ r,A[q]? = some r:=⟨_,YU ω⟩;rw [W];obtain ⟨h3,h4⟩:=Y q r W
  show some r = some _
  congr 1;refine ZK λt=>?_;rw [YW]
  by_cases ht:t < g.T
  ·rw [Z8 ht];obtain ⟨a,G⟩ : ∃ a,r[t]? = some a:=⟨_,YU ω⟩;rw [G];obtain ⟨Z,X⟩:=h4 t a G
   show some a = some (TX g nn ss q t)
   congr 1;unfold TX
   by_cases u:1<=(cM g nn ss q t).length
   ·exact Z ⟨(q:Int),(t:Int),cM g nn ss q t⟩ (lY.2 ⟨q,t,R,ht,u,rfl⟩) rfl rfl
   ·have e:cM g nn ss q t = []:=Y9 ω;rw [X λc hc hh=>?_,e]; rfl;obtain ⟨V,U,_,_,h7,rfl⟩:=lY.1 hc;obtain ⟨O,z⟩:=hh;have O:(V : Int) = q:=O;have z:(U : Int) = t:=z;obtain rfl:V = q:=ω
    obtain rfl:U = t:=ω
    exact u h7
  ·rw [Zf ω,Zf (by simp; omega)]; rfl
 ·rw [Zf ω,Zf (by simp; omega)]; rfl
end
section
variable {P:Program} {w w' : aa4} {L:List az} {b:Nat} {us vs:List Value} {e e' : TypeId} {A B C D:az} {Ty:TypeId->Option dg}
theorem TY (hT:dP P Ty) {t ty:TypeId} (hk:aj Ty t = .slice e) (a:aa3) (l c:Nat) (w:aa4):(Builtin.cap_ (Array.mk [t]) ty (Array.mk [.slice a l c])).run P w = .ok (.int .i64 (c:Int)) w:=by
 obtain ⟨d,z,u⟩:=db hT hk σ;rw [dQ u] at z;simp [Builtin.cap_,run_underlying z,goInt]
theorem J9 {a:aa3} {len cap sz:Nat} {k:aa3->Nat->Nat->Prop} (h2:len<=cap) (hk:k a len cap):lR a len cap (some (0:Int)) none none sz k:=by
 refine ct (lo:=0) (Y4 _) h2 ?_;rw [N6]; exact hk
theorem CH (hT:dP P Ty) {t tx ty:TypeId} {i:dg} (hk:aj Ty t = .slice e) (hi:Ty e = some i) (hs:0 < i.size)
  {a a2:aa3} {l c k n sl c2 dl dc:Nat} {news:List Value} (h:St w (own i.size a l c us :: L)) (hn:news.length = n * i.size) (hx:fo a2 news (hp w)) (h1:∀ u∈news,aG u = true) (h0:0 < n) (hle:k + n<=l) (hd:Nat.min sl dl = n) :
  bf P (Builtin.copy_ (Array.mk [t,tx]) ty (Array.mk [.slice (fT a k c i.size) dl dc,.slice a2 sl c2])) w λv w'=>v = .int .i64 (n:Int)/\St w' (own i.size a l c (us.take (k * i.size) ++ news ++ us.drop (k * i.size + news.length)) :: L):=by
 obtain ⟨d,hu,U⟩:=db hT hk σ;rw [dQ U] at hu;obtain ⟨O,d2,ha⟩:=oV hT hi;have X:0 < news.length:=by rw [hn]; exact Nat.mul_pos h0 hs
 rcases cX h with ⟨_,rfl,_,_⟩ | ⟨b,pre,cs,z,rfl,R,h2,h3,h4⟩
 ·omega
 obtain ⟨G,rfl,hr⟩ : ∃ G,a2 = some G/\∀ j v,news[j]? = some v->rJ (hp w) (G.add j) = some v:=by
  rcases hx with hx | ⟨G,e,hx⟩
  ·subst hx; simp at X
  ·exact ⟨G,e,hx⟩
 have Y:k * i.size + news.length<=us.length:=by
  rw [hn,h2,<- Nat.add_mul]; exact aah _ hle
 obtain ⟨K,hK⟩ : ∃ K,K = k * i.size:=⟨_,rfl⟩
 have W:fT (some ⟨b,pre.length,none⟩) k c i.size = some ⟨b,pre.length + K,none⟩:=by
  unfold fT;rw [YZ ω]
  show some (Addr.add ⟨b,pre.length,none⟩ (cE k i.size)) = _
  rw [aN,add_lit,hK]
 rw [W];rw [<- hK] at Y ⊢;have a3:(pre ++ (us ++ (cs ++ z))).length = pre.length + us.length + (cs ++ z).length:=by simp only [Y0]; omega
 have a0:(Builtin.firstCells O.size n (.slice (some G) sl c2)).run P w = .ok news.toArray w:=run_firstCells_some (P:=P) w _ n G sl c2 news (by rw [hn,ha.size]) (λj v Z=>lB (hr j v Z))
 have a1:=run_storeCells_cells (P:=P) b (pre.length + K) news 0 w (λj Z=>by
   rw [R.cell,YU ω]; rfl) (λj Z=>R.frozen _ _) (λv hv=>by rw [<- GM]; exact h1 v hv)
 have ev:∀ (news:List Value) (w0 w:aa4) (o:Nat),Ev w0 w->Ev w0 (w.setCells b o news):=by
  intro news
  induction news with
  | nil=>exact λ_ _ _ h=>h
  | cons v r ih=>exact λw0 w o h=>ih w0 _ (o + 1) (h.trans (Ev.setCell w _ v))
 refine ⟨.int .i64 (n:Int),w.setCells b (pre.length + K) news,?_,ev news w w _ (Ev.refl w),rfl,?_⟩
 ·simp [Builtin.copy_,run_underlying hu,Builtin.lenOf,sizeOf,typeInfo,ha.inf,hd,a0,a1,goInt]
 ·have e0:pre ++ (us ++ (cs ++ z)) = (pre ++ us.take K) ++ (us.drop K ++ (cs ++ z)):=by
   rw [Y6,<- Y6 (us.take K),Zk]
  rw [e0] at R;have V:=R.setCells news (pre ++ us.take K) (us.drop K ++ (cs ++ z)) (by rw [Y0,Z9]; omega);rw [Y0,Zj,aak ω] at V
  have e1:pre ++ us.take K ++ news ++ (us.drop K ++ (cs ++ z)).drop news.length = pre ++ ((us.take K ++ news ++ us.drop (K + news.length)) ++ (cs ++ z)):=by
   rw [List.drop_append_of_le_length (by rw [Z9]; omega),List.drop_drop];simp only [Y6]
  rw [e1] at V;have el:(us.take K ++ news ++ us.drop (K + news.length)).length = us.length:=by simp only [Y0,Zj,Z9]; omega
  exact dS V (by rw [el]; exact h2) (by rw [Y0,el,<- Y0]; exact h3) h4
theorem Oo (hT:dP P Ty) {t tn ty:TypeId} {i:dg} {z:Value} (hk:aj Ty t = .slice e) (hkn:aj Ty tn = .int .i64) (hi:Ty e = some i) (hz:i.zero = some z) (hzs:(cellsOf z).length = i.size) (hs:0 < i.size)
  {a:aa3} {c m:Nat} (h:St w L) (h0:0 < m) (hg:c < m) (hb:m * i.bytes<=140737488355328) (h63:m<=9223372036854775807) :
  bf P (Builtin.append_ (Array.mk [t,tn]) ty (Array.mk [.slice a 0 c,.int .i64 (m:Int)])) w λv w'=>∃ (o:aa3) (c' : Nat) (us:List Value),v = .slice o m c'/\us.length = m * i.size/\St w' (own i.size o m c' us :: L):=by
 obtain ⟨d,hu,V⟩:=db hT hk σ;rw [dQ V] at hu;obtain ⟨dn,R,W⟩:=db hT hkn σ;rw [KD W] at R;obtain ⟨u,d2,O⟩:=oV hT hi;have G:z.cells.size = u.size:=by rw [<- O.size,<- hzs,dp]; simp
 rw [O.size] at *;rw [O.bytes] at hb
 have U:(Builtin.firstCells u.size 0 (.slice a 0 c)).run P w.drew = .ok ([] : List Value).toArray w.drew:=by
  cases a with
  | none=>exact run_firstCells_none w.drew _ _ _ _
  | some a=>exact run_firstCells_some (P:=P) w.drew _ 0 a 0 c [] σ (λj v hj=>by simp at hj)
 have Z:=Lib.run_append_grow_zeros (P:=P) w t tn ty e u z .i64 .i64 hu R O.inf (by rw [<- O.zero,hz]) a 0 c [] U m h0 hs ω ω ω (by rw [ZV]; exact growslice_fits hg hb);rw [ZV] at Z;have X:=grownCap_ge w m c e;refine ⟨_,_,Z,(Ev.drew w _).trans (Ev.push _ _),_,_,(Builtin.zeroCells z.cells m).toList,rfl,by simp [size_zeroCells,G],?_⟩;have h1:St w.drew L:=h.same rfl;have Y:=h1.push (.cells (([] : List Value).toArray ++ Builtin.zeroCells z.cells m ++ Builtin.zeroCells z.cells (grownCap w m c e - m)) e)
 have h3:St (w.drew.alloc (.cells (([] : List Value).toArray ++ Builtin.zeroCells z.cells m ++ Builtin.zeroCells z.cells (grownCap w m c e - m)) e)) (aH w.heap.size ((Builtin.zeroCells z.cells m).toList ++ (Builtin.zeroCells z.cells (grownCap w m c e - m)).toList) :: L):=by
  have:(([] : List Value).toArray ++ Builtin.zeroCells z.cells m ++ Builtin.zeroCells z.cells (grownCap w m c e - m)) = ⟨(Builtin.zeroCells z.cells m).toList ++ (Builtin.zeroCells z.cells (grownCap w m c e - m)).toList⟩:=by apply aan; simp
  rw [this] at Y ⊢; exact iw.2 ⟨_,Y⟩
 refine dz h3 (by simp [size_zeroCells,G]) ?_ X;rw [Y0,aa2,aa2,size_zeroCells,size_zeroCells,G,<- Nat.add_mul];congr 1; omega
theorem Rm {sz l c m:Nat} {a:aa3} (h:St w (own sz a l c vs :: L)) (hm:l + m<=c):∃ us,us.length = m * sz/\St w (own sz a (l + m) c (vs ++ us) :: L):=by
 rcases cX h with ⟨rfl,rfl,rfl,rfl⟩ | ⟨b,pre,cs,u,rfl,R,G,O,V⟩
 ·obtain rfl:m = 0:=ω
  exact ⟨[],σ,by simpa using h⟩
 ·have z:m * sz<=cs.length:=by
   rw [Y0,G] at O;have:=aah sz hm;rw [Nat.add_mul] at this;omega
  have U:vs ++ (cs ++ u) = (vs ++ cs.take (m * sz)) ++ (cs.drop (m * sz) ++ u):=by
   rw [Y6,<- Y6 (cs.take _),Zk]
  rw [U] at R
  refine ⟨cs.take (m * sz),by rw [Zj]; omega,dS R ?_ ?_ hm⟩
  ·rw [Y0,Zj,G,aak z,Nat.add_mul]
  ·rw [<- O,Y6,Zk]
theorem Wa {k:Nat} (h:St w (aH k us :: aH b vs :: L)):k≠b:=by
 rintro rfl;obtain ⟨Z,X,d,V,U,⟨e1,u⟩,Y,O,R,z,W,⟨e2,G⟩,_⟩:=h
 rcases d k with h | h
 ·rw [h] at u; cases u
 ·rw [z _ _ G] at h; cases h
theorem J_ (hT : dP P Ty) {g : FuncId} {fn : Func} {tS tR : TypeId} {i : dg} (hf : P.funcs[g]? = some fn) (hname : (fn.name == "runtime.NumGoroutine") = false) (hb : fn.body.isNone = true) (hn : Extern.findNext fn = none) (he : Extern.find fn = some (Extern.SlicesOverlaps.overlaps #[tS, tS] #[tR]))
  (hk:aj Ty tS = .slice e) (hi:Ty e = some i) {k l2 c2 lb cb o:Nat} (h:St w (aH k us :: aH b vs :: L)) (hv:vs≠[]) {K:Value->aa4->Prop} (hK:K (.bool false) w) :
  U2 P g [.slice (some ⟨k,0,none⟩) l2 c2,.slice (some ⟨b,o,none⟩) lb cb] w K:=by
 obtain ⟨d,G,z⟩:=db hT hk σ;rw [dQ z] at G;obtain ⟨u,Z,R⟩:=oV hT hi;obtain ⟨X,V⟩:=iw.1 h;obtain ⟨W,U⟩:=iw.1 h.tail;have Y:=V.get;have O:=U.get;refine ⟨.bool false,w,?_,Ev.refl w,hK⟩
 rw [run_callFunc_extern hf hname hb hn he,show (Extern.SlicesOverlaps.overlaps #[tS,tS] #[tR]) (Array.mk [.slice (some ⟨k,0,none⟩) l2 c2,.slice (some ⟨b,o,none⟩) lb cb]) = (Extern.SlicesOverlaps.overlaps #[tS,tS] #[tR]) #[.slice (some ⟨k,0,none⟩) l2 c2,.slice (some ⟨b,o,none⟩) lb cb] from rfl,
  Lib.run_overlaps_apart w tS tR e G u.size (λw=>b8 R.inf) ⟨k,0,none⟩ ⟨b,o,none⟩ l2 c2 lb cb (Wa h) X W us.length vs.length (by simp [World.shape?,Y]) (by simp [World.shape?,O]) (by simpa using hv) (h.frozen 0 none) (h.frozen _ _)]
 rfl
end
abbrev Ep:FuncId:=15
def AV:bm:={ rngs:=[],loops:=[],joins:=[],blocks:=[] }
section
variable {a b c d:aa3} {i j k l m n o p:Nat} {A B C D:Int} {w:aa4} {R:Value->WP}
theorem AW (h:new w (ψ a i j b k l c m n A d o p) λa b=>χ b (aM a) λa=>rE 42 [a,iI 1] b λa b=>∃ c d e f,a = vU [vS c d e,iI f]/\R (vU [vS c d e,iI f]) b):ρ 15 [φ a i j b k l c m n A d o p] w R:=rv Tryz.func15 AV (by kernel_rfl) h
abbrev Fh:FuncId:=42
def Ca:bm:={ rngs:=[],loops:=[(6,[(9,(.one .slice)),(23,(.one (.int .i64)))]),(9,[(9,(.one .slice)),(29,(.one (.int .i64)))])],joins:=[],blocks:=[] }
theorem Cb (h:new w (ψ a i j b k l c m n A d o p) λa b=>χ b (aM a) λc=>rE 48 [c] b λb c=>∃ d e f,b = vU [Value.map d,iI e,iI f]/\br (f != 0) (R (vU [vS none 0 0,iI f]) c) (τ [(9,fD),(23,aB)] λb f=>b none 0 0 0 c/\∀ (_:ν) c g h i j,b c g h i j->br (decide (i < e)) (∃ e k l,cL j (aM a) (vS e k l)/\τ [(9,fD),(29,aB)] λa e=>a c g h 0 j/\∀ (_:ν) l m n o p,a l m n o p->br (decide (o < (k:Int))) (bf Proofs.Tryz.prog (Instr.lookup 91 (Value.map d) (vG [iI i,iI o]) false) p λb c=>∃ d f g,b = vS d f g/\br (decide (B<=(f:Int))) (new c (oC [iI i,iI o,vS d f g] 60) λb c=>rS (fe 29 (Array.mk [vS l m n,vS (some (aM b)) 1 1])) c λb c=>∃ d f g,b = vS d f g/\ax (o + 1)/\a d f g (o + 1) c/\e d f g (o + 1) c < e l m n o p) (ax (o + 1)/\a l m n (o + 1) c/\e l m n (o + 1) c < e l m n o p)) (ax (i + 1)/\b l m n (i + 1) p/\f l m n (i + 1) p < f c g h i j)) (R (vU [vS c g h,iI 0]) j))):ρ 42 [φ a i j b k l c m n A d o p,(.int .i64 B)] w R:=rv Tryz.func42 Ca (by kernel_rfl) h
abbrev Er:FuncId:=48
def AX:bm:={ rngs:=[],loops:=[(9,[(37,(.one (.int .i64)))]),(12,[(45,(.one (.int .i64)))]),(22,[(81,(.one (.int .i64)))]),(25,[(88,(.one (.int .i64)))])],joins:=[],blocks:=[] }
theorem AY (h:new w (ψ a i j b k l c m n A d o p) λa b=>χ b (aM a) λc=>rE 26 [c] b λb c=>∃ d e f g h i,b = vU [vG [vS d e f,iI g,iI h],iI i]/\new c (oC [vS none 0 0,iI 0,iI 0] 45) λb c=>da c (aM b) [vS d e f,iI g,iI h] λc=>br (i != 0) (R (vU [Value.map none,iI 0,iI i]) c) (χ c (aM a) λd=>rE 27 [d] c λc d=>∃ e f g h,c = vU [vS e f g,iI h]/\br (h != 0) (R (vU [Value.map none,iI 0,iI h]) d) (new d (Obj.map (Array.mk []) 0) λc d=>∃ h i j,cL d (aM b) (vS h i j)/\τ [(37,aB)] λj k=>j 0 d/\∀ (_:ν) d l,j d l->br (decide (d < (i:Int))) (idx h i d 2 λb=>∃ e f g h i m,rA l b 2 [vS e f g,vS h i m]/\new l (oC [vS none 0 0,vS none 0 0] 54) λb n=>da n (aM b) [vS e f g,vS h i m] λe=>∃ f g h,cL e (Addr.add (aM b) 1) (vS f g h)/\τ [(45,aB)] λh i=>h 0 e/\∀ (_:ν) e m,h e m->br (decide (e < (g:Int))) (idx f g e 2 λb=>∃ f g,rA m b 2 [iI f,iI g]/\new m (oC [iI 0,iI 0] 56) λb j=>da j (aM b) [iI f,iI g] λf=>∃ g,cL f (aM b) (iI g)/\∃ j k l,cL f (aM a) (vS j k l)/\br (decide (g < (k:Int))) (∃ a,cL f (aM b) (iI a)/\∃ g,cL f (Addr.add (aM b) 1) (iI g)/\new f (oC [iI 1,iI g] 62) λb f=>rE 85 [Value.map (some c),vG [iI d,iI a],vS (some (aM b)) 1 1] f λa b=>a = vU []/\ax (e + 1)/\h (e + 1) b/\i (e + 1) b < i e m) (ax (e + 1)/\h (e + 1) f/\i (e + 1) f < i e m)) (∃ a e f,cL m (aM b) (vS a e f)/\rE 86 [vS a e f,vG [iI 0,iI 1]] m λa b=>∃ e,a = vB e/\br e (new b (oC [iI 3,iI 0] 62) λa b=>rE 85 [Value.map (some c),vG [iI d,iI 0],vS (some (aM a)) 1 1] b λa b=>a = vU []/\ax (d + 1)/\j (d + 1) b/\k (d + 1) b < k d l) (ax (d + 1)/\j (d + 1) b/\k (d + 1) b < k d l))) (rE 87 [vS e f g,Value.func (Fn.func 88) (Array.mk []) (Array.mk [])] l λa d=>a = vU []/\τ [(81,aB)] λa g=>a 0 d/\∀ (_:ν) d h,a d h->br (decide (d < (f:Int))) (idx e f d 3 λb=>∃ e f i j k,rA h b 3 [iI e,iI f,vS i j k]/\new h (oC [iI 0,iI 0,vS none 0 0] 58) λb l=>da l (aM b) [iI e,iI f,vS i j k] λe=>∃ f i j,cL e (Addr.add (aM b) 2) (vS f i j)/\τ [(88,aB)] λj k=>j 0 e/\∀ (_:ν) e l,j e l->br (decide (e < (i:Int))) (idx f i e 1 λa=>∃ d,cL l a (iI d)/\∃ a,cL l (aM b) (iI a)/\∃ f,cL l (Addr.add (aM b) 1) (iI f)/\new l (oC [iI 2,iI f] 62) λb f=>rE 85 [Value.map (some c),vG [iI a,iI d],vS (some (aM b)) 1 1] f λa b=>a = vU []/\ax (e + 1)/\j (e + 1) b/\k (e + 1) b < k e l) (ax (d + 1)/\a (d + 1) l/\g (d + 1) l < g d h)) (∀ a,drawn h a->∃ (d:WP),d a/\∃ e f g,(∀ a,d a->cL a (aM b) (vS e f g))/\R (vU [Value.map (some c),iI (f:Int),iI 0]) a))))):ρ 48 [φ a i j b k l c m n A d o p] w R:=rv Tryz.func48 AX (by kernel_rfl) h
abbrev zw:FuncId:=85
def wu:bm:={ rngs:=[],loops:=[],joins:=[],blocks:=[] }
theorem wv {F:Option Nat} (h:new w (oC [iI A,iI B] 95) λb c=>∃ d e,rA c (aM b) 2 [iI d,iI e]/\bf Proofs.Tryz.prog (Instr.mapEntry 91 (Value.map F) (vG [iI d,iI e])) c λb c=>∃ d e f g,b = vU [vS d e f,iI g]/\rS (fe 38 (Array.mk [vS d e f,vS a i j])) c λa b=>∃ c d e,a = vS c d e/\bf Proofs.Tryz.prog (Instr.entryStore 91 (Value.map F) (iI g) (vS c d e)) b λ(_:Unit) (a:aa4)=>R (vU []) a):ρ 85 [(.map F),(.agg #[(.int .i64 A),(.int .i64 B)]),(.slice a i j)] w R:=rv Tryz.func85 wu (by kernel_rfl) h
abbrev nP:FuncId:=88
def wx:bm:={ rngs:=[],loops:=[],joins:=[],blocks:=[] }
theorem wy (h:new w (oC [iI A,iI B,vS a i j] 58) λa c=>new c (oC [iI C,iI D,vS b k l] 58) λb c=>∃ d,cL c (Addr.add (aM a) 1) (iI d)/\∃ a,cL c (Addr.add (aM b) 1) (iI a)/\ax (d - a)/\R (iI (d - a)) c):ρ 88 [(.agg #[(.int .i64 A),(.int .i64 B),(.slice a i j)]),(.agg #[(.int .i64 C),(.int .i64 D),(.slice b k l)])] w R:=rv Tryz.func88 wx (by kernel_rfl) h
end
instance:k_ fq:={ val:=λk=>.agg ⟨[.int .i64 k.st,.int .i64 k.tm]⟩,inj:=λa b h=>by cases a; cases b; simp at h; obtain ⟨h1,h2⟩:=h; subst h1; subst h2; rfl,a:=fq.st,b:=fq.tm,val2:=λ_=>rfl,ext:=λk l h1 h2=>by cases k; cases l; cases h1; cases h2; rfl }
def cf (x:aJ):List Value:=[.int .i64 x.kind,.int .i64 x.to]
def cJ (xs:List aJ):List Value:=xs.flatMap cf
theorem gi (xs:List aJ):(cJ xs).length = xs.length * 2:=om (f:=cf) (n:=2) (λ_=>rfl) xs
theorem zx (xs ys:List aJ):cJ (xs ++ ys) = cJ xs ++ cJ ys:=ZB
instance:qk aJ:={ n:=2,rd:=λ_ x vs=>vs = cf x,mono:=λ_ h=>h,len:=λh=>by rw [h]; rfl }
def Cc (ps:List (fq × Lq aJ)) (pt:AN):Prop:=(ps.map Prod.fst).Nodup/\∀ p,gZ p ps = EL pt p
theorem Cc.nil:Cc [] []:=⟨σ,λp=>rfl⟩
theorem Cc.put {ps:List (fq × Lq aJ)} {pt:AN} (h:Cc ps pt) {p:fq} {a:aJ} {q:Lq aJ} (hq:q.2 = gZ p ps ++ [a]):Cc (kO p q ps) (pt ++ [(p,a)]):=by
 refine ⟨Hj _ h.1,λk=>?_⟩;rw [kA,CF]
 by_cases e:k = p
 ·subst e; rw [Y5 rfl,hq,h.2]; simp [EL]
 ·rw [YZ e,h.2];have:EL [(p,a)] k = []:=Ek λx u z=>by simp at u; subst u; exact e z.symm
  rw [this,Zm]
section
variable {w:aa4} {L:List az} {g:af} {x:GA}
theorem Oq : WN Tryz.prog ub dv { name := "state", type := dv, offset := 0, embedded := false, tag := "", pkgPath := "presage/table", byteOffset := 0 } { name := "term", type := dv, offset := 1, embedded := false, tag := "", pkgPath := "presage/table", byteOffset := 8 } where
 ht:=by kernel_rfl
 hf:=by kernel_rfl
 hi:=bJ
 ht0:=rfl
 ht1:=rfl
 n0:=by decide
 n1:=by decide
 o0:=rfl
 o1:=rfl
 sih:=BN
theorem Gk:ua Tryz.prog ub fq:=ua.two Oq
theorem Rn {b ka:Nat} {ps:List (fq × Lq aJ)} {pt:AN} {q t:Int} {a:aJ} (h:St w (aH ka (cf a) :: mapA b (mV ps) :: aC (mO 2 cJ ps) :: L)) (hG:Cc ps pt) (hb:pt.length<=100000000) :
  ρ zw [.map (some b),.agg #[.int .i64 q,.int .i64 t],.slice (some (aM ka)) 1 1] w λv w'=>v = .tuple #[]/\∃ ps',Cc ps' (pt ++ [(⟨q,t⟩,a)])/\St w' (mapA b (mV ps') :: aC (mO 2 cJ ps') :: L):=by
 refine wv (ag h λY U h=>⟨_,_,(ah 0 h.l).at (sub.refl _) rfl,?_⟩);refine (map_take (κ:=fq) aQ (rfl:aj Ty _ = .map _ _) Gk rfl rfl (h.pick 3 [2,0,1]) ⟨q,t⟩).mono ?_;rintro _ Z ⟨n,rfl,h⟩;obtain ⟨e,M,O,z,u,back⟩:=qB rfl (h.pick 4 [3,0,1,2]) ⟨q,t⟩
 have G:e.2.length<=pt.length:=by
  rw [z,hG.2];unfold EL;rw [Y3];exact Zt _ _
 rw [O] at u ⊢;refine ⟨_,_,_,_,rfl,?_⟩;refine (aL (us:=cJ e.2) (vs:=cf a) aQ (rfl:aj Ty _ = .slice _) (rfl:aj Ty _ = .slice _) rfl rfl rfl (u.pick 5 [4,0,1,2,3]) rfl (by simp [aG,cf]) (by show (e.2.length + 1) * 16<=_; omega) ω).mono ?_;rintro _ X ⟨V,W,rfl,h⟩;refine ⟨_,_,_,rfl,(JH (h.pick 5 [3,0,2]) _).mono ?_⟩;rintro _ R h;rw [vm] at h;have h:=xp back (e.2 ++ [a]) σ (by rw [zx]; rfl) h;exact ⟨rfl,_,hG.put (by show e.2 ++ [a] = _; rw [z]),h⟩
end
section
variable {α : Type} {f:α->List Value} {sz n c i:Nat} {w:aa4} {L:List az} {o:aa3} {xs:List α}
theorem YM (hf:∀ x,(f x).length = sz) (h0:0 < sz) (h:St w (own sz o n c (xs.flatMap f) :: L)) {x:α} (hx:xs[i]? = some x):∃ ad,o = some ad/\au (hp w) (ad.add (cE i sz)) (f x):=by
 rcases dJ 0 h.l with e | ⟨ad,e,u⟩
 ·have z:=congrArg List.length e;rw [om hf,ZJ] at z;have G:=(YT.1 hx).1;have:0 < xs.length * sz:=Nat.mul_pos ω h0;omega
 ·exact ⟨ad,e,bY hf xs ad u i x hx⟩
theorem Ro (hf:∀ x,(f x).length = sz) {y:α} (hi:i < xs.length):(xs.flatMap f).take (i * sz) ++ f y ++ (xs.flatMap f).drop (i * sz + (f y).length) = (xs.set i y).flatMap f:=by
 have e:xs = xs.take i ++ xs[i] :: xs.drop (i + 1):=by rw [<- Zy hi,Zk]
 have u:((xs.take i).flatMap f).length = i * sz:=by rw [om hf,Zj]; congr 1; omega
 have G:xs.flatMap f = (xs.take i).flatMap f ++ (f xs[i] ++ (xs.drop (i + 1)).flatMap f):=by
  have:=congrArg (λl=>l.flatMap f) e;simp only [ZB,Zw] at this;exact this
 have z:(xs.set i y).flatMap f = (xs.take i).flatMap f ++ (f y ++ (xs.drop (i + 1)).flatMap f):=by
  rw [List.set_eq_take_append_cons_drop,Y5 hi,ZB,Zw]
 rw [G,z,<- u,List.take_left,hf,<- hf xs[i],Y6];congr 2;rw [List.drop_append,aab ω,ZS,Zz,List.drop_left]
theorem YN (hf:∀ x,(f x).length = sz) (h0:0 < sz) (h1:∀ x,∀ v∈f x,aG v = true) {ad:Addr} {y:α} {k:aa4->Prop} (h:St w (own sz o n c (xs.flatMap f) :: L)) (ha:o = some ad) (hi:i < xs.length) (hk:∀ w',St w' (own sz o n c ((xs.set i y).flatMap f) :: L)->k w'):da w (ad.add (cE i sz)) (f y) k:=by
 rw [aN]
 refine yR h ha ?_ (h1 y) (by rw [hf]; exact h0) λw' h=>hk w' ?_
 ·rw [om hf,hf];have:(i + 1) * sz<=xs.length * sz:=aah _ hi;rw [aao] at this;exact this
 ·rw [Ro hf hi] at h; exact h
end
abbrev e_:FuncId:=87
def ee:bm:={ rngs:=[],loops:=[],joins:=[],blocks:=[] }
section
variable {a:aa3} {i j:Nat} {A B C:Int} {w:aa4} {R:Value->WP}
theorem eh {d:FuncId} {e:List Value} (h:rE 137 [vS a i j,iI (i:Int),Value.func (Fn.func d) (Array.mk []) (Array.mk e)] w λa b=>a = vU []/\R (vU []) b):ρ 87 [(.slice a i j),(.func (.func d) #[] ⟨e⟩)] w R:=rv Tryz.func87 ee (by kernel_rfl) h
abbrev jz:FuncId:=137
def iO:bm:={ rngs:=[],loops:=[(2,[(7,(.one (.int .i64))),(8,(.one (.int .i64)))]),(7,[(6,(.one (.int .i64)))]),(9,[(7,(.one (.int .i64))),(8,(.one (.int .i64)))])],joins:=[],blocks:=[] }
theorem iP {e:FuncId} {f:List Value} (h:τ [(7,aB),(8,aB)] λb c=>b 0 20 w/\∀ (_:ν) d g h,b d g h->br (decide (g<=A)) (rE 181 [vS a i j,iI d,iI g,Value.func (Fn.func e) (Array.mk []) (Array.mk f)] h λa e=>a = vU []/\ax (g + 20)/\b g (g + 20) e/\c g (g + 20) e < c d g h) (rE 181 [vS a i j,iI d,iI A,Value.func (Fn.func e) (Array.mk []) (Array.mk f)] h λb c=>b = vU []/\τ [(6,aB)] λb d=>b 20 c/\∀ (_:ν) c g,b c g->br (decide (c < A)) (ax (2 * c)/\τ [(7,aB),(8,aB)] λh k=>h 0 (2 * c) g/\∀ (_:ν) l m n,h l m n->br (decide (m<=A)) (ax (l + c)/\rE 182 [vS a i j,iI l,iI (l + c),iI m,Value.func (Fn.func e) (Array.mk []) (Array.mk f)] n λa b=>a = vU []/\ax (2 * c)/\ax (m + 2 * c)/\h m (m + 2 * c) b/\k m (m + 2 * c) b < k l m n) (ax (l + c)/\br (decide (l + c < A)) (rE 182 [vS a i j,iI l,iI (l + c),iI A,Value.func (Fn.func e) (Array.mk []) (Array.mk f)] n λa e=>a = vU []/\ax (c * 2)/\b (c * 2) e/\d (c * 2) e < d c g) (ax (c * 2)/\b (c * 2) n/\d (c * 2) n < d c g))) (R (vU []) g))):ρ 137 [(.slice a i j),(.int .i64 A),(.func (.func e) #[] ⟨f⟩)] w R:=rv Tryz.func137 iO (by kernel_rfl) h
abbrev fA:FuncId:=181
def fj:bm:={ rngs:=[],loops:=[(1,[(8,(.one (.int .i64)))]),(4,[(9,(.one (.int .i64)))])],joins:=[],blocks:=[] }
theorem fk {f:FuncId} {g:List Value} (h:ax (A + 1)/\τ [(8,aB)] λb c=>b (A + 1) w/\∀ (_:ν) d e,b d e->br (decide (d < B)) (τ [(9,aB)] λh j=>h d e/\∀ (_:ν) k l,h k l->∀ m,drawn l m->∃ (n:WP),n m/\br (decide (A < k)) (idx a i k 3 λo=>∃ p q r s t,(∀ a,n a->rowAt a o 0 3 = some [iI p,iI q,vS r s t])/\ax (k - 1)/\idx a i (k - 1) 3 λo=>∃ u v w x y,(∀ a,n a->rowAt a o 0 3 = some [iI u,iI v,vS w x y])/\yc (Proofs.YtndaepmjkbmjmaaGreatDoor.Fn f) (rE f (vG [iI p,iI q,vS r s t] :: vG [iI u,iI v,vS w x y] :: g) m λf g=>∃ m,f = iI m/\n g/\br (decide (m < 0)) (∀ b,drawn g b->∃ (c:WP),c b/\ax (k - 1)/\ax (k - 1)/\idx a i (k - 1) 3 λd=>∃ e f g m n,(∀ a,c a->rowAt a d 0 3 = some [iI e,iI f,vS g m n])/\idx a i k 3 λd=>∃ o p q r s,(∀ a,c a->rowAt a d 0 3 = some [iI o,iI p,vS q r s])/\idx a i k 3 λc=>da b c [iI e,iI f,vS g m n] λb=>idx a i (k - 1) 3 λa=>da b a [iI o,iI p,vS q r s] λa=>ax (k - 1)/\h (k - 1) a/\j (k - 1) a < j k l) (ax (d + 1)/\b (d + 1) g/\c (d + 1) g < c d e))) (ax (d + 1)/\b (d + 1) m/\c (d + 1) m < c d e)) (R (vU []) e)):ρ 181 [(.slice a i j),(.int .i64 A),(.int .i64 B),(.func (.func f) #[] ⟨g⟩)] w R:=rv Tryz.func181 fj (by kernel_rfl) h
abbrev aX:FuncId:=182
def gH:bm:={ rngs:=[],loops:=[(3,[(10,(.one (.int .i64))),(11,(.one (.int .i64)))]),(9,[(13,(.one (.int .i64)))]),(15,[(14,(.one (.int .i64))),(15,(.one (.int .i64)))]),(21,[(17,(.one (.int .i64)))]),(33,[(20,(.one (.int .i64))),(21,(.one (.int .i64)))])],joins:=[(32,[(20,(.one (.int .i64))),(21,(.one (.int .i64)))]),(41,[])],blocks:=[] }
theorem gI {F:FuncId} {G:List Value} (h:ax (B - A)/\br (B - A == 1) (τ [(10,aB),(11,aB)] λb c=>b B C w/\∀ (_:ν) d e f,b d e f->br (decide (d < e)) (ax (d + e)/\ns 1/\ax (bQ IntKind.u64 (IntKind.wrap IntKind.u64 (d + e)) 1)/\∀ g,drawn f g->∃ (h:WP),h g/\idx a i (bQ IntKind.u64 (IntKind.wrap IntKind.u64 (d + e)) 1) 3 λj=>∃ k l m n o,(∀ a,h a->rowAt a j 0 3 = some [iI k,iI l,vS m n o])/\idx a i A 3 λa=>∃ i j p q r,(∀ b,h b->rowAt b a 0 3 = some [iI i,iI j,vS p q r])/\yc (Proofs.YtndaepmjkbmjmaaGreatDoor.Fn F) (rE F (vG [iI k,iI l,vS m n o] :: vG [iI i,iI j,vS p q r] :: G) g λa g=>∃ i,a = iI i/\h g/\br (decide (i < 0)) (ax (bQ IntKind.u64 (IntKind.wrap IntKind.u64 (d + e)) 1 + 1)/\b (bQ IntKind.u64 (IntKind.wrap IntKind.u64 (d + e)) 1 + 1) e g/\c (bQ IntKind.u64 (IntKind.wrap IntKind.u64 (d + e)) 1 + 1) e g < c d e f) (b d (bQ IntKind.u64 (IntKind.wrap IntKind.u64 (d + e)) 1) g/\c d (bQ IntKind.u64 (IntKind.wrap IntKind.u64 (d + e)) 1) g < c d e f))) (τ [(13,aB)] λb c=>b A f/\∀ (_:ν) e f,b e f->ax (d - 1)/\br (decide (e < d - 1)) (∀ d,drawn f d->∃ (g:WP),g d/\ax (e + 1)/\ax (e + 1)/\idx a i (e + 1) 3 λh=>∃ j k l m n,(∀ a,g a->rowAt a h 0 3 = some [iI j,iI k,vS l m n])/\idx a i e 3 λh=>∃ o p q r s,(∀ a,g a->rowAt a h 0 3 = some [iI o,iI p,vS q r s])/\idx a i e 3 λg=>da d g [iI j,iI k,vS l m n] λd=>idx a i (e + 1) 3 λa=>da d a [iI o,iI p,vS q r s] λa=>ax (e + 1)/\b (e + 1) a/\c (e + 1) a < c e f) (R (vU []) f))) (ax (C - B)/\br (C - B == 1) (τ [(14,aB),(15,aB)] λb c=>b A B w/\∀ (_:ν) d e f,b d e f->br (decide (d < e)) (ax (d + e)/\ns 1/\ax (bQ IntKind.u64 (IntKind.wrap IntKind.u64 (d + e)) 1)/\∀ g,drawn f g->∃ (h:WP),h g/\idx a i B 3 λj=>∃ k l m n o,(∀ a,h a->rowAt a j 0 3 = some [iI k,iI l,vS m n o])/\idx a i (bQ IntKind.u64 (IntKind.wrap IntKind.u64 (d + e)) 1) 3 λa=>∃ i j p q r,(∀ b,h b->rowAt b a 0 3 = some [iI i,iI j,vS p q r])/\yc (Proofs.YtndaepmjkbmjmaaGreatDoor.Fn F) (rE F (vG [iI k,iI l,vS m n o] :: vG [iI i,iI j,vS p q r] :: G) g λa g=>∃ i,a = iI i/\h g/\br (!decide (i < 0)) (ax (bQ IntKind.u64 (IntKind.wrap IntKind.u64 (d + e)) 1 + 1)/\b (bQ IntKind.u64 (IntKind.wrap IntKind.u64 (d + e)) 1 + 1) e g/\c (bQ IntKind.u64 (IntKind.wrap IntKind.u64 (d + e)) 1 + 1) e g < c d e f) (b d (bQ IntKind.u64 (IntKind.wrap IntKind.u64 (d + e)) 1) g/\c d (bQ IntKind.u64 (IntKind.wrap IntKind.u64 (d + e)) 1) g < c d e f))) (τ [(17,aB)] λb c=>b B f/\∀ (_:ν) e f,b e f->br (decide (d < e)) (∀ d,drawn f d->∃ (g:WP),g d/\ax (e - 1)/\ax (e - 1)/\idx a i (e - 1) 3 λh=>∃ j k l m n,(∀ a,g a->rowAt a h 0 3 = some [iI j,iI k,vS l m n])/\idx a i e 3 λh=>∃ o p q r s,(∀ a,g a->rowAt a h 0 3 = some [iI o,iI p,vS q r s])/\idx a i e 3 λg=>da d g [iI j,iI k,vS l m n] λd=>idx a i (e - 1) 3 λa=>da d a [iI o,iI p,vS q r s] λa=>ax (e - 1)/\b (e - 1) a/\c (e - 1) a < c e f) (R (vU []) f))) (ax (A + C)/\ns 1/\ax (bQ IntKind.u64 (IntKind.wrap IntKind.u64 (A + C)) 1)/\ax (bQ IntKind.u64 (IntKind.wrap IntKind.u64 (A + C)) 1 + B)/\∃ (b:lP [(20,aB),(21,aB)]),br (decide (bQ IntKind.u64 (IntKind.wrap IntKind.u64 (A + C)) 1 < B)) (ax (bQ IntKind.u64 (IntKind.wrap IntKind.u64 (A + C)) 1 + B - C)/\b (bQ IntKind.u64 (IntKind.wrap IntKind.u64 (A + C)) 1 + B - C) (bQ IntKind.u64 (IntKind.wrap IntKind.u64 (A + C)) 1) w) (b A B w)/\∀ (_:ν) c d e,b c d e->ax (bQ IntKind.u64 (IntKind.wrap IntKind.u64 (A + C)) 1 + B - 1)/\τ [(20,aB),(21,aB)] λb f=>b c d e/\∀ (_:ν) c d e,b c d e->br (decide (c < d)) (ax (c + d)/\ns 1/\ax (bQ IntKind.u64 (IntKind.wrap IntKind.u64 (c + d)) 1)/\∀ g,drawn e g->∃ (h:WP),h g/\ax (bQ IntKind.u64 (IntKind.wrap IntKind.u64 (A + C)) 1 + B - 1 - bQ IntKind.u64 (IntKind.wrap IntKind.u64 (c + d)) 1)/\idx a i (bQ IntKind.u64 (IntKind.wrap IntKind.u64 (A + C)) 1 + B - 1 - bQ IntKind.u64 (IntKind.wrap IntKind.u64 (c + d)) 1) 3 λj=>∃ k l m n o,(∀ a,h a->rowAt a j 0 3 = some [iI k,iI l,vS m n o])/\idx a i (bQ IntKind.u64 (IntKind.wrap IntKind.u64 (c + d)) 1) 3 λa=>∃ i j p q r,(∀ b,h b->rowAt b a 0 3 = some [iI i,iI j,vS p q r])/\yc (Proofs.YtndaepmjkbmjmaaGreatDoor.Fn F) (rE F (vG [iI k,iI l,vS m n o] :: vG [iI i,iI j,vS p q r] :: G) g λa g=>∃ i,a = iI i/\h g/\br (!decide (i < 0)) (ax (bQ IntKind.u64 (IntKind.wrap IntKind.u64 (c + d)) 1 + 1)/\b (bQ IntKind.u64 (IntKind.wrap IntKind.u64 (c + d)) 1 + 1) d g/\f (bQ IntKind.u64 (IntKind.wrap IntKind.u64 (c + d)) 1 + 1) d g < f c d e) (b c (bQ IntKind.u64 (IntKind.wrap IntKind.u64 (c + d)) 1) g/\f c (bQ IntKind.u64 (IntKind.wrap IntKind.u64 (c + d)) 1) g < f c d e))) (ax (bQ IntKind.u64 (IntKind.wrap IntKind.u64 (A + C)) 1 + B - c)/\∃ (b:lP []),br (decide (c < B)) (br (decide (B < bQ IntKind.u64 (IntKind.wrap IntKind.u64 (A + C)) 1 + B - c)) (rE 232 [vS a i j,iI c,iI B,iI (bQ IntKind.u64 (IntKind.wrap IntKind.u64 (A + C)) 1 + B - c),Value.func (Fn.func F) (Array.mk []) (Array.mk G)] e λa c=>a = vU []/\b c) (b e)) (b e)/\∀ (_:ν) d,b d->br (decide (A < c)) (br (decide (c < bQ IntKind.u64 (IntKind.wrap IntKind.u64 (A + C)) 1)) (rE 182 [vS a i j,iI A,iI c,iI (bQ IntKind.u64 (IntKind.wrap IntKind.u64 (A + C)) 1),Value.func (Fn.func F) (Array.mk []) (Array.mk G)] d λb d=>b = vU []/\br (decide (bQ IntKind.u64 (IntKind.wrap IntKind.u64 (A + C)) 1 < bQ IntKind.u64 (IntKind.wrap IntKind.u64 (A + C)) 1 + B - c)) (br (decide (bQ IntKind.u64 (IntKind.wrap IntKind.u64 (A + C)) 1 + B - c < C)) (rE 182 [vS a i j,iI (bQ IntKind.u64 (IntKind.wrap IntKind.u64 (A + C)) 1),iI (bQ IntKind.u64 (IntKind.wrap IntKind.u64 (A + C)) 1 + B - c),iI C,Value.func (Fn.func F) (Array.mk []) (Array.mk G)] d λa b=>a = vU []/\R (vU []) b) (R (vU []) d)) (R (vU []) d)) (br (decide (bQ IntKind.u64 (IntKind.wrap IntKind.u64 (A + C)) 1 < bQ IntKind.u64 (IntKind.wrap IntKind.u64 (A + C)) 1 + B - c)) (br (decide (bQ IntKind.u64 (IntKind.wrap IntKind.u64 (A + C)) 1 + B - c < C)) (rE 182 [vS a i j,iI (bQ IntKind.u64 (IntKind.wrap IntKind.u64 (A + C)) 1),iI (bQ IntKind.u64 (IntKind.wrap IntKind.u64 (A + C)) 1 + B - c),iI C,Value.func (Fn.func F) (Array.mk []) (Array.mk G)] d λa b=>a = vU []/\R (vU []) b) (R (vU []) d)) (R (vU []) d))) (br (decide (bQ IntKind.u64 (IntKind.wrap IntKind.u64 (A + C)) 1 < bQ IntKind.u64 (IntKind.wrap IntKind.u64 (A + C)) 1 + B - c)) (br (decide (bQ IntKind.u64 (IntKind.wrap IntKind.u64 (A + C)) 1 + B - c < C)) (rE 182 [vS a i j,iI (bQ IntKind.u64 (IntKind.wrap IntKind.u64 (A + C)) 1),iI (bQ IntKind.u64 (IntKind.wrap IntKind.u64 (A + C)) 1 + B - c),iI C,Value.func (Fn.func F) (Array.mk []) (Array.mk G)] d λa b=>a = vU []/\R (vU []) b) (R (vU []) d)) (R (vU []) d)))))):ρ 182 [(.slice a i j),(.int .i64 A),(.int .i64 B),(.int .i64 C),(.func (.func F) #[] ⟨G⟩)] w R:=rv Tryz.func182 gH (by kernel_rfl) h
abbrev jA:FuncId:=232
def iQ:bm:={ rngs:=[],loops:=[(2,[(10,(.one (.int .i64))),(11,(.one (.int .i64)))])],joins:=[],blocks:=[] }
theorem iR {F:FuncId} {G:List Value} (h:ax (B - A)/\ax (C - B)/\τ [(10,aB),(11,aB)] λb c=>b (B - A) (C - B) w/\∀ (_:ν) d e f,b d e f->br (d != e) (br (decide (e < d)) (ax (B - d)/\rE 256 [vS a i j,iI (B - d),iI B,iI e,Value.func (Fn.func F) (Array.mk []) (Array.mk G)] f λa g=>a = vU []/\ax (d - e)/\b (d - e) e g/\c (d - e) e g < c d e f) (ax (B - d)/\ax (B + e)/\ax (B + e - d)/\rE 256 [vS a i j,iI (B - d),iI (B + e - d),iI d,Value.func (Fn.func F) (Array.mk []) (Array.mk G)] f λa g=>a = vU []/\ax (e - d)/\b d (e - d) g/\c d (e - d) g < c d e f)) (ax (B - d)/\rE 256 [vS a i j,iI (B - d),iI B,iI d,Value.func (Fn.func F) (Array.mk []) (Array.mk G)] f λa b=>a = vU []/\R (vU []) b)):ρ 232 [(.slice a i j),(.int .i64 A),(.int .i64 B),(.int .i64 C),(.func (.func F) #[] ⟨G⟩)] w R:=rv Tryz.func232 iQ (by kernel_rfl) h
abbrev ia:FuncId:=256
def gj:bm:={ rngs:=[],loops:=[(1,[(10,(.one (.int .i64)))])],joins:=[],blocks:=[] }
theorem gk {F:FuncId} {G:List Value} (h:τ [(10,aB)] λb c=>b 0 w/\∀ (_:ν) d e,b d e->br (decide (d < C)) (∀ f,drawn e f->∃ (g:WP),g f/\ax (A + d)/\ax (B + d)/\ax (B + d)/\idx a i (B + d) 3 λh=>∃ j k l m n,(∀ a,g a->rowAt a h 0 3 = some [iI j,iI k,vS l m n])/\ax (A + d)/\idx a i (A + d) 3 λh=>∃ o p q r s,(∀ a,g a->rowAt a h 0 3 = some [iI o,iI p,vS q r s])/\idx a i (A + d) 3 λg=>da f g [iI j,iI k,vS l m n] λf=>idx a i (B + d) 3 λa=>da f a [iI o,iI p,vS q r s] λa=>ax (d + 1)/\b (d + 1) a/\c (d + 1) a < c d e) (R (vU []) e)):ρ 256 [(.slice a i j),(.int .i64 A),(.int .i64 B),(.int .i64 C),(.func (.func F) #[] ⟨G⟩)] w R:=rv Tryz.func256 gj (by kernel_rfl) h
end
abbrev fU (b:iK):Int:=b.1.2
section
variable {w:aa4} {L:List az} {o:aa3} {n c i:Nat} {ds:List iK} {x:iK}
abbrev Xp (x:iK):List Value:=[.int .i64 x.1.1,.int .i64 x.1.2,.slice x.2.1.1 x.2.2.length x.2.1.2]
theorem LM (h:St w (own 3 o n c (c_ ds) :: L)) (hx:ds[i]? = some x):∃ ad,o = some ad/\au (hp w) (ad.add (cE i 3)) (Xp x):=YM (f:=QF) (λ_=>rfl) (by decide) h hx
theorem UR {ad:Addr} {k:aa4->Prop} (h:St w (own 3 o n c (c_ ds) :: L)) (ha:o = some ad) (hi:i < ds.length) (hk:∀ w',St w' (own 3 o n c (c_ (ds.set i x)) :: L)->k w'):da w (ad.add (cE i 3)) (Xp x) k :=
 YN (f:=QF) (λ_=>rfl) (by decide) (λx v hv=>by simp [QF,bF] at hv; rcases hv with rfl | rfl | rfl <;> rfl) h ha hi hk
theorem HO (h:St w (own 3 o n c (c_ ds) :: L)):n = ds.length:=by have:=jg h; rw [CC] at this; omega
end
section
variable {w:aa4} {L:List az} {o:aa3} {n c:Nat} {d:FuncId} {e:List Value}
theorem HP {A X M Y C:List iK} {xs:List iK} {k:Nat} {a b:Int} (h:St w (own 3 o n c (c_ xs) :: L)) (hxs:xs = A ++ (X ++ (M ++ (Y ++ C)))) (ha:a = A.length) (hb:b = ((A.length + X.length + M.length:Nat):Int)) (hX:X.length = k) (hY:Y.length = k) (hn:xs.length<=1000000) :
  ρ ia [.slice o n c,.int .i64 a,.int .i64 b,.int .i64 (k:Int),.func (.func d) #[] ⟨e⟩] w λv w'=>v = .tuple #[]/\St w' (own 3 o n c (c_ (A ++ (Y ++ (M ++ (X ++ C))))) :: L):=by
 have a0:=HO h;have hl:xs.length = A.length + X.length + M.length + Y.length + C.length:=by rw [hxs]; simp; omega
 subst ha hb;refine gk ⟨λz w'=>∃ i:Nat,z = i/\i<=k/\St w' (own 3 o n c (c_ (A ++ (Y.take i ++ (X.drop i ++ (M ++ (X.take i ++ (Y.drop i ++ C))))))) :: L),λz _=>k - z.toNat,⟨0,rfl,Y4 _,by simp only [List.take_zero,List.drop_zero,Zz]; rw [<- hxs]; exact h⟩,?_⟩;clear h;rintro _ _ w1 ⟨i,rfl,hi,h⟩;refine ae (λG=>?_) λG=>?_
 rotate_left
 ·have G:i = k:=by have:=YS G; omega
  subst G;rw [Zb ω,aab ω,Zb ω,aab ω,Zz,Zz] at h;exact ⟨rfl,h⟩
 have G:i < k:=by have:=YR G; omega
 intro w2 hd;have h:=h.eq (aE hd);obtain ⟨x,W⟩ : ∃ x,X[i]? = some x:=⟨_,YU ω⟩;obtain ⟨y,V⟩ : ∃ y,Y[i]? = some y:=⟨_,YU ω⟩;obtain ⟨D,hD⟩ : ∃ D,D = A ++ (Y.take i ++ (X.drop i ++ (M ++ (X.take i ++ (Y.drop i ++ C))))):=⟨_,rfl⟩;have eX:X.drop i = x :: X.drop (i + 1):=by rw [Zy ω]; congr 1; rw [YU ω] at W; exact Option.some.inj W
 have eY:Y.drop i = y :: Y.drop (i + 1):=by rw [Zy ω]; congr 1; rw [YU ω] at V; exact Option.some.inj V
 have U:D = (A ++ Y.take i) ++ x :: ((X.drop (i + 1) ++ (M ++ X.take i)) ++ y :: (Y.drop (i + 1) ++ C)):=by rw [hD,eX,eY]; simp
 have l1:(A ++ Y.take i).length = A.length + i:=by simp; omega
 have l2:(X.drop (i + 1) ++ (M ++ X.take i)).length = X.length - (i + 1) + (M.length + i):=by simp; omega
 have e2:(D.set (A.length + i) y).set (A.length + X.length + M.length + i) x = A ++ (Y.take (i + 1) ++ (X.drop (i + 1) ++ (M ++ (X.take (i + 1) ++ (Y.drop (i + 1) ++ C))))):=by
  rw [U,zt ω ω,Y2,Y2,W,V]; simp
 rw [<- hD] at h;have gx:D[A.length + i]? = some x:=by rw [U]; exact nN ω
 have gy:D[A.length + X.length + M.length + i]? = some y:=by
  rw [U,show (A ++ Y.take i) ++ x :: ((X.drop (i + 1) ++ (M ++ X.take i)) ++ y :: (Y.drop (i + 1) ++ C)) = ((A ++ Y.take i) ++ x :: (X.drop (i + 1) ++ (M ++ X.take i))) ++ y :: (Y.drop (i + 1) ++ C) by simp];exact nN (by simp only [Y0,ZC] at *; omega)
 have a1:D.length = n:=(HO h).symm;obtain ⟨ad,O,rx⟩:=LM h gx;obtain ⟨a3,R,ry⟩:=LM h gy;rw [O] at R; cases R;have z1:(A.length:Int) + i = ((A.length + i:Nat):Int):=σ
 have z2:((A.length + X.length + M.length:Nat):Int) + i = ((A.length + X.length + M.length + i:Nat):Int):=σ
 have a4:n<=1000000:=ω
 have Z:A.length + i < n:=ω
 have b2:A.length + X.length + M.length + i < n:=ω
 rw [z1,z2];refine ⟨λu=>hp u = hp w2,rfl,⟨ω,ω⟩,⟨ω,ω⟩,⟨ω,ω⟩,aq O b2 ⟨_,_,_,_,_,λu e=>ry.at (by rw [e]; exact sub.refl _) rfl,⟨ω,ω⟩,aq O Z ⟨_,_,_,_,_,λu e=>rx.at (by rw [e]; exact sub.refl _) rfl,aq O Z (UR (x:=y) h O ω λw5 h=>aq O b2 (UR (x:=x) h O (by rw [Zn]; omega) λw6 h=>⟨⟨ω,ω⟩,⟨i + 1,σ,G,?_⟩,bn G⟩))⟩⟩⟩;rw [e2] at h;exact h
theorem Rp {A X Y C:List iK} {xs:List iK} {a m b:Int} (h:St w (own 3 o n c (c_ xs) :: L)) (hxs:xs = A ++ (X ++ (Y ++ C))) (ha:a = A.length) (hm:m = ((A.length + X.length:Nat):Int)) (hb:b = ((A.length + X.length + Y.length:Nat):Int)) (hX:X≠[]) (hY:Y≠[]) (hn:xs.length<=1000000) :
  ρ jA [.slice o n c,.int .i64 a,.int .i64 m,.int .i64 b,.func (.func d) #[] ⟨e⟩] w λv w'=>v = .tuple #[]/\St w' (own 3 o n c (c_ (A ++ (Y ++ (X ++ C)))) :: L):=by
 have hl:xs.length = A.length + X.length + Y.length + C.length:=by rw [hxs]; simp; omega
 have Z:=aas.2 hX;have a0:=aas.2 hY;subst ha hm hb;obtain ⟨T,hT⟩ : ∃ T,T = A ++ (Y ++ (X ++ C)):=⟨_,rfl⟩;have a1:T.length = xs.length:=by rw [hT,hl]; simp; omega
 rw [<- hT];obtain ⟨E,hE⟩ : ∃ E,E = A.length + X.length:=⟨_,rfl⟩;refine iR ⟨⟨ω,ω⟩,⟨ω,ω⟩,λy z w'=>∃ A X Y C:List iK,y = (X.length:Int)/\z = (Y.length:Int)/\X≠[]/\Y≠[]/\A.length + X.length = E/\A ++ (Y ++ (X ++ C)) = T/\St w' (own 3 o n c (c_ (A ++ (X ++ (Y ++ C)))) :: L),λy z _=>y.toNat + z.toNat,⟨A,X,Y,C,ω,ω,hX,hY,hE.symm,hT.symm,by rw [<- hxs]; exact h⟩,?_⟩;rw [<- hE];clear h hxs hX hY Z a0;rintro _ _ _ w1 ⟨W,G,u,V,rfl,rfl,hX,hY,hm,O,h⟩;have Z:=aas.2 hX;have a0:=aas.2 hY;have a3:W.length + (u.length + (G.length + V.length)) = T.length:=by rw [<- O]; simp
 refine ae (λR=>?_) λR=>?_
 rotate_left
 ·have R:(G.length:Int) = u.length:=by simpa using R
  have R:G.length = u.length:=ω
  refine ⟨⟨ω,ω⟩,(HP (A:=W) (X:=G) (M:=[]) (Y:=u) (C:=V) (k:=G.length) h σ ω (by simp; omega) rfl R.symm (by simp; omega)).mono ?_⟩;rintro _ w4 ⟨rfl,h⟩;rw [Zz,O] at h;exact ⟨rfl,rfl,h⟩
 have R:(G.length:Int)≠u.length:=by simpa using R
 have R:G.length≠u.length:=ω
 refine ae (λh2=>?_) λh2=>?_
 ·have h2:u.length < G.length:=by have:=YR h2; omega
  refine ⟨⟨ω,ω⟩,(HP (A:=W) (X:=G.take u.length) (M:=G.drop u.length) (Y:=u) (C:=V) (k:=u.length) h (by rw [<- Y6 (G.take _),Zk]) ω (by simp; omega) (by simp; omega) rfl (by simp; omega)).mono ?_⟩;rintro _ w2 ⟨rfl,h⟩
  refine ⟨rfl,⟨ω,ω⟩,⟨W ++ u,G.drop u.length,G.take u.length,V,by simp; omega,by simp; omega,λU=>?_,λU=>?_,by simp; omega,?_,by simpa using h⟩,?_⟩
  ·have:=congrArg List.length U; simp only [Z9,ZJ] at this; omega
  ·have:=congrArg List.length U; simp only [Zj,ZJ] at this; omega
  ·rw [<- O,Y6,<- Y6 (G.take _),Zk]
  ·show ((G.length:Int) - u.length).toNat + (u.length:Int).toNat < (G.length:Int).toNat + (u.length:Int).toNat
   omega
 ·have h2:G.length < u.length:=by have:=YS h2; omega
  refine ⟨⟨ω,ω⟩,⟨ω,ω⟩,⟨ω,ω⟩,(HP (A:=W) (X:=G) (M:=u.take (u.length - G.length)) (Y:=u.drop (u.length - G.length)) (C:=V) (k:=G.length) h (by rw [<- Y6 (u.take _),Zk]) ω (by simp; omega) rfl (by simp; omega) (by simp; omega)).mono ?_⟩;rintro _ w3 ⟨rfl,h⟩
  refine ⟨rfl,⟨ω,ω⟩,⟨W,u.drop (u.length - G.length),u.take (u.length - G.length),G ++ V,by simp; omega,by simp; omega,λU=>?_,λU=>?_,by simp; omega,?_,by simpa using h⟩,?_⟩
  ·have:=congrArg List.length U; simp only [Z9,ZJ] at this; omega
  ·have:=congrArg List.length U; simp only [Zj,ZJ] at this; omega
  ·rw [<- O,<- Y6 (u.take _),Zk]
  ·show (G.length:Int).toNat + ((u.length:Int) - G.length).toNat < (G.length:Int).toNat + (u.length:Int).toNat
   omega
def Ks (x:iK):Prop:=0<=x.1.2/\x.1.2<=1000000
def TZ (d:FuncId) (e:List Value):Prop:=Fn d = true/\∀ (x y:iK) (u:aa4),Ks x->Ks y->ρ d (.agg ⟨Xp x⟩ :: .agg ⟨Xp y⟩ :: e) u λv u'=>∃ z:Int,v = .int .i64 z/\(z < 0↔fU x < fU y)/\Gr u u'
theorem Ka {A X C:List iK} {xs:List iK} {a b:Int} (hc:TZ d e) (h:St w (own 3 o n c (c_ xs) :: L)) (hxs:xs = A ++ (X ++ C)) (ha:a = A.length) (hb:b = ((A.length + X.length:Nat):Int)) (hs:∀ x∈X,Ks x) (hn:xs.length<=1000000) :
  ρ fA [.slice o n c,.int .i64 a,.int .i64 b,.func (.func d) #[] ⟨e⟩] w λv w'=>v = .tuple #[]/\∃ S,S.Perm X/\kH fU S/\St w' (own 3 o n c (c_ (A ++ (S ++ C))) :: L):=by
 have hl:xs.length = A.length + X.length + C.length:=by rw [hxs]; simp; omega
 have ab:=HO h;have aT:n<=1000000:=ω
 subst ha hb
 refine fk ⟨⟨ω,ω⟩,λz w'=>∃ S R:List iK,(S ++ R).Perm X/\kH fU S/\((S≠[]/\z = ((A.length + S.length:Nat):Int))\/(X = []/\z = (A.length:Int) + 1))/\St w' (own 3 o n c (c_ (A ++ (S ++ (R ++ C)))) :: L),λz _=>A.length + X.length - z.toNat,?_,?_⟩
 ·cases hX:X with
  | nil=>rw [hX] at hxs; exact ⟨[],[],.refl _,.nil,.inr ⟨rfl,rfl⟩,by rw [hxs] at h; exact h⟩
  | cons x X'=>rw [hX] at hxs; exact ⟨[x],X',.refl _,List.pairwise_singleton _ _,.inl ⟨σ,σ⟩,by rw [hxs] at h; exact h⟩
 clear h;rintro _ z w1 ⟨S,R,V,hS,hz,h⟩;have a0:S.length + R.length = X.length:=by have:=V.length_eq; simpa using this
 refine ae (λh1=>?_) λh1=>?_
 rotate_left
 ·have h1:=YS h1
  have hR:R = []:=by
   rcases hz with ⟨_,rfl⟩ | ⟨hX,_⟩
   ·exact Y9 ω
   ·rw [hX,ZJ] at a0; exact Y9 ω
  subst hR;exact ⟨rfl,S,by simpa using V,hS,h⟩
 have h1:=YR h1;rcases hz with ⟨b0,rfl⟩ | ⟨hX,rfl⟩
 rotate_left
 ·rw [hX] at h1; simp at h1; omega
 obtain ⟨y,U,rfl⟩ : ∃ y U,R = y :: U:=by
  cases R with
  | nil=>simp at a0; omega
  | cons y U=>exact ⟨y,U,rfl⟩
 have a7:Ks y:=hs y (V.mem_iff.1 σ);have a8:∀ x∈S,Ks x:=λx hx=>hs x (V.mem_iff.1 (by simp [hx]));refine ⟨λz w'=>∃ S1 O:List iK,S = S1 ++ O/\z = ((A.length + S1.length:Nat):Int)/\(∀ u∈O,fU y<=fU u)/\St w' (own 3 o n c (c_ (A ++ (S1 ++ y :: (O ++ (U ++ C))))) :: L),λz _=>z.toNat - A.length,⟨S,[],σ,σ,σ,by simpa using h⟩,?_⟩;clear h;rintro _ _ w2 ⟨S1,O,rfl,rfl,a5,h⟩;have ac:=HO h;have a9:S1.length + O.length + (U.length + 1) = X.length:=by simpa using a0
 -- it has its place
 have fin:∀ {w'},(∀ u,S1.getLast? = some u->fU u<=fU y)->St w' (own 3 o n c (c_ (A ++ (S1 ++ y :: (O ++ (U ++ C))))) :: L)->ax (((A.length + (S1 ++ O).length:Nat):Int) + 1)/\(∃ S R:List iK,(S ++ R).Perm X/\kH fU S/\((S≠[]/\((A.length + (S1 ++ O).length:Nat):Int) + 1 = ((A.length + S.length:Nat):Int))\/(X = []/\((A.length + (S1 ++ O).length:Nat):Int) + 1 = (A.length:Int) + 1))/\St w' (own 3 o n c (c_ (A ++ (S ++ (R ++ C)))) :: L))/\A.length + X.length - (((A.length + (S1 ++ O).length:Nat):Int) + 1).toNat < A.length + X.length - ((A.length + (S1 ++ O).length:Nat):Int).toNat:=λ{w'} a1 h=>by
  refine ⟨⟨by simp; omega,by simp; omega⟩,⟨S1 ++ y :: O,U,?_,HK hS a1 (λu W=>a5 u (List.mem_of_head? W)),.inl ⟨σ,by simp; omega⟩,by simpa using h⟩,by simp; omega⟩;refine List.Perm.trans ?_ V;simp only [Y6,List.cons_append];refine aaC _ ?_;exact (ZQ (l₁:=O) (l₂:=U) (a:=y)).symm
 intro w3 hd;have h:=h.eq (aE hd);refine ⟨λu=>Gr w3 u,Gr.refl _,ae (λZ=>?_) λZ=>?_⟩
 rotate_left
 ·have Z:S1 = []:=Y9 (by have:=YS Z; omega);exact fin (λu W=>by rw [Z] at W; cases W) h
 have Z:0 < S1.length:=by have:=YR Z; omega
 obtain ⟨G,z,rfl⟩ : ∃ G z,S1 = G ++ [z]:=⟨S1.dropLast,S1.getLast (by intro hh; rw [hh] at Z; simp at Z),(List.dropLast_concat_getLast _).symm⟩;obtain ⟨D,hD⟩ : ∃ D,D = A ++ ((G ++ [z]) ++ y :: (O ++ (U ++ C))):=⟨_,rfl⟩;rw [<- hD] at h;have e1:D = (A ++ G) ++ z :: ([] ++ y :: (O ++ (U ++ C))):=by rw [hD]; simp
 have gz:D[A.length + G.length]? = some z:=by rw [e1]; exact nN σ
 have gy:D[A.length + G.length + 1]? = some y:=by
  rw [e1,show (A ++ G) ++ z :: ([] ++ y :: (O ++ (U ++ C))) = ((A ++ G) ++ [z]) ++ y :: (O ++ (U ++ C)) by simp];exact nN (by simp; omega)
 have a4:=HO h;have b1:A.length + G.length < n:=by rw [a4]; exact (YT.1 gz).1
 have b2:A.length + G.length + 1 < n:=by rw [a4]; exact (YT.1 gy).1
 obtain ⟨ad,Y,rz⟩:=LM h gz;obtain ⟨am,a6,ry⟩:=LM h gy;rw [Y] at a6; cases a6;have z1:((A.length + (G ++ [z]).length:Nat):Int) = ((A.length + G.length + 1:Nat):Int):=by simp only [Y0,aaT]; omega
 have z2:((A.length + G.length + 1:Nat):Int) - 1 = ((A.length + G.length:Nat):Int):=σ
 rw [z1,z2];refine aq Y b2 ⟨_,_,_,_,_,λu g=>ry.at g rfl,⟨ω,ω⟩,aq Y b1 ⟨_,_,_,_,_,λu g=>rz.at g rfl,bS.2 ⟨hc.1,(hc.2 y z w3 a7 (a8 z σ)).mono ?_⟩⟩⟩;rintro _ w6 ⟨t,rfl,ht,g6⟩;have h:=h.gr g6;refine ⟨_,rfl,g6,ae (λh3=>?_) λh3=>?_⟩
 rotate_left
 ·have h3:=YS h3;rw [hD] at h;refine fin (λu W=>?_) h;rw [List.getLast?_concat] at W;cases W;have:¬ fU y < fU z:=λhh=>h3 (ht.2 hh);omega
 have h3:=ht.1 (YR h3);intro w7 a3;have h:=h.eq (aE a3);have s7:sub (hp w3) (hp w7):=g6.trans (Gr.drawn a3)
 refine ⟨λu=>hp u = hp w7,rfl,⟨ω,ω⟩,⟨ω,ω⟩,aq Y b1 ⟨_,_,_,_,_,λu e=>(rz.mono s7).at (by rw [e]; exact sub.refl _) rfl,aq Y b2 ⟨_,_,_,_,_,λu e=>(ry.mono s7).at (by rw [e]; exact sub.refl _) rfl,aq Y b2 (UR (x:=z) h Y ω λaa h=>aq Y b1 (UR (x:=y) h Y (by rw [Zn]; omega) λaI h=>⟨⟨ω,ω⟩,⟨G,z :: O,σ,rfl,?_,?_⟩,?_⟩))⟩⟩⟩
 ·intro u W
  rcases Ze.1 W with rfl | W
  ·exact Int.le_of_lt h3
  ·exact a5 u W
 ·have e2:(D.set (A.length + G.length + 1) z).set (A.length + G.length) y = A ++ (G ++ y :: (z :: O ++ (U ++ C))):=by
   rw [List.set_comm _ _ ω,e1,zt σ σ]; simp
  rw [e2] at h;exact h
 ·show ((A.length + G.length:Nat):Int).toNat - A.length < ((A.length + G.length + 1:Nat):Int).toNat - A.length
  omega
end
section
variable {α : Type} {k:α->Int}
inductive LN (k:α->Int) (bs:Nat):List α->Prop
 | last (l:List α):l.length<=bs->kH k l->LN k bs l
 | more (l m:List α):l.length = bs->kH k l->LN k bs m->LN k bs (l ++ m)
inductive Wb (k:α->Int) (bs:Nat):List α->Prop
 | nil:Wb k bs []
 | snoc (d l:List α):Wb k bs d->l.length = bs->kH k l->Wb k bs (d ++ l)
theorem Wb.Yx {bs:Nat} {d:List α} (h:Wb k bs d):∀ e,LN k bs e->LN k bs (d ++ e):=by
 induction h with
 | nil=>exact λe u=>u
 | snoc d l _ hl hs ih=>exact λe u=>by rw [Y6]; exact ih _ (.more l e hl hs u)
theorem LN.Rq {bs:Nat} {l:List α} (h:LN k bs l) (hl:l.length<=bs):kH k l:=by
 cases h with
 | last _ _ hs=>exact hs
 | more a m ha hs hm =>
  have:m = []:=Y9 (by rw [Y0] at hl; omega);subst this;simpa using hs
theorem LN.cut {bs:Nat} {l:List α} (h:LN k bs l) (hl:bs < l.length):∃ a m,l = a ++ m/\a.length = bs/\kH k a/\LN k bs m/\m≠[]:=by
 cases h with
 | last _ h1 _=>omega
 | more a m ha hs hm=>exact ⟨a,m,rfl,ha,hs,hm,λe=>by subst e; simp at hl; omega⟩
def YO (X Y:List iK) (H s0 s:Nat):Prop:=s = s0\/∃ x y,X[s - 1]? = some x/\Y[H - s]? = some y/\fU x<=fU y
def YP (X Y:List iK) (H r0 r:Nat):Prop:=r = r0\/∃ x y,X[r]? = some x/\Y[H - r - 1]? = some y/\fU y < fU x
theorem T0 {n:Nat} (h:n<=4000000):bQ .u64 (IntKind.u64.wrap (n:Int)) 1 = ((n / 2:Nat):Int):=by
 have e:IntKind.u64.wrap (n:Int) = (n:Int):=by
  simp only [IntKind.wrap,IntKind.signed,IntKind.bits];exact Int.emod_eq_of_lt ω ω
 rw [e];exact Dc (s:=1) (by decide)
end
section
variable {w:aa4} {L:List az} {o:aa3} {n c:Nat} {d:FuncId} {e:List Value}
theorem M7 {i j:Nat} (h:i + j<=4000000):bQ .u64 (IntKind.u64.wrap ((i:Int) + (j:Int))) 1 = (((i + j) / 2:Nat):Int):=by
 rw [<- T0 h]; simp
theorem Es (hc:TZ d e) (N:Nat):∀ {w:aa4} {L:List az} {A X Y C:List iK} {xs:List iK} {a m b:Int} (h:St w (own 3 o n c (c_ xs) :: L)) (hxs:xs = A ++ (X ++ (Y ++ C))) (ha:a = A.length) (hm:m = ((A.length + X.length:Nat):Int)) (hb:b = ((A.length + X.length + Y.length:Nat):Int)) (hX:X≠[]) (hY:Y≠[]) (hN:X.length + Y.length<=N)
  (hsX:kH fU X) (hsY:kH fU Y) (hs:∀ x∈X ++ Y,Ks x) (hn:xs.length<=1000000),
  ρ aX [.slice o n c,.int .i64 a,.int .i64 m,.int .i64 b,.func (.func d) #[] ⟨e⟩] w λv w'=>v = .tuple #[]/\∃ S,S.Perm (X ++ Y)/\kH fU S/\St w' (own 3 o n c (c_ (A ++ (S ++ C))) :: L):=by
 induction N with
 | zero=>intro w L A X Y C xs a m b h hxs ha hm hb hX hY hN; exact absurd (Y9 ω) hX
 | succ N ih =>
 intro w L A X Y C xs a m b h hxs ha hm hb hX hY hN hsX hsY hs hn;have hl:xs.length = A.length + X.length + Y.length + C.length:=by rw [hxs]; simp; omega
 have ch:=aas.2 hX;have d3:=aas.2 hY;have cm:=HO h;have d7:n<=1000000:=ω
 have ac:∀ x∈X,Ks x:=λx O=>hs x (by simp [O]);have aT:∀ x∈Y,Ks x:=λx O=>hs x (by simp [O]);have b5:ns 1:=by unfold ns; decide
 subst ha hm hb
 -- what stands at a place
 have bc:∀ i,i < X.length->∃ x,X[i]? = some x/\xs[A.length + i]? = some x:=λi hi=>by
  refine ⟨_,YU hi,?_⟩;rw [hxs,Y_ ω,ZS,Y8 hi,YU hi]
 have b7:∀ i,i < Y.length->∃ y,Y[i]? = some y/\xs[A.length + X.length + i]? = some y:=λi hi=>by
  refine ⟨_,YU hi,?_⟩;rw [hxs,Y_ ω,show A.length + X.length + i - A.length = X.length + i by omega,Y_ ω,ZS,Y8 hi,YU hi]
 have eA:(((A.length + X.length:Nat):Int) - A.length == 1) = decide (X.length = 1):=by
  rw [ZI,aaR,Y7]; omega
 have eB:(((A.length + X.length + Y.length:Nat):Int) - ((A.length + X.length:Nat):Int) == 1) = decide (Y.length = 1):=by
  rw [ZI,aaR,Y7]; omega
 refine gI ⟨⟨ω,ω⟩,?_⟩;rw [eA]
 refine ae (λh1=>?_) λh1=>?_
 ·-- one on the left
  have h1:=YR h1;obtain ⟨x,bP⟩ : ∃ x,X = [x]:=List.length_eq_one_iff.1 h1;subst bP;obtain ⟨_,c8,gx⟩:=bc 0 σ;cases c8;have bi:Ks x:=ac x σ;refine ⟨λi j w'=>∃ G V : Nat,i = ((A.length + 1 + G : Nat):Int)/\j = ((A.length + 1 + V : Nat):Int)/\G<=V/\V<=Y.length/\(∀ y,0 < G->Y[G - 1]? = some y->fU y < fU x)/\(∀ y,Y[V]? = some y->fU x<=fU y)/\St w' (own 3 o n c (c_ xs) :: L),λi j _=>j.toNat - i.toNat,⟨0,Y.length,σ,σ,Y4 _,Zc _,λy U=>absurd U ω,λy U=>(by rw [Zf (Zc _)] at U; cases U),h⟩,?_⟩;clear h;rintro _ _ _ w1 ⟨G,V,rfl,rfl,bl,hj,a6,a7,h⟩
  refine ae (λh2=>?_) λh2=>?_
  ·have h2:G < V:=by have:=YR h2; omega
   rw [M7 ω];obtain ⟨q,hq⟩ : ∃ q,q = (G + V) / 2:=⟨_,rfl⟩;have ab:(A.length + 1 + G + (A.length + 1 + V)) / 2 = A.length + 1 + q:=ω
   rw [ab];have cb:q < V:=ω
   have ba:G<=q:=ω
   obtain ⟨y,U,gy⟩:=b7 q ω;have gy:xs[A.length + 1 + q]? = some y:=gy;refine ⟨⟨ω,ω⟩,b5,⟨ω,ω⟩,λw2 hd=>?_⟩;have h:=h.eq (aE hd);obtain ⟨ad,Z,ry⟩:=LM h gy;obtain ⟨b4,W,rx⟩:=LM h gx;rw [Z] at W; cases W;refine ⟨λu=>Gr w2 u,Gr.refl _,aq Z ω ⟨_,_,_,_,_,λu g=>ry.at g rfl,aq Z ω ⟨_,_,_,_,_,λu g=>rx.at g rfl,bS.2 ⟨hc.1,(hc.2 y x w2 (aT y (YV U)) bi).mono ?_⟩⟩⟩⟩;rintro _ w5 ⟨t,rfl,ht,g5⟩;have h:=h.gr g5
   refine ⟨_,rfl,g5,ae (λR=>?_) λR=>?_⟩
   ·have R:=ht.1 (YR R)
    refine ⟨⟨ω,ω⟩,⟨q + 1,V,ω,rfl,ω,hj,λy' _ aI=>?_,a7,h⟩,?_⟩
    ·rw [Nat.add_sub_cancel,U] at aI; cases aI; exact R
    ·show ((A.length + 1 + V : Nat):Int).toNat - (((A.length + 1 + q:Nat):Int) + 1).toNat < ((A.length + 1 + V : Nat):Int).toNat - ((A.length + 1 + G : Nat):Int).toNat
     omega
   ·have R:¬ fU y < fU x:=λhh=>(YS R) (ht.2 hh)
    refine ⟨⟨G,q,rfl,rfl,ba,ω,a6,λy' aI=>?_,h⟩,?_⟩
    ·rw [U] at aI; cases aI; omega
    ·show ((A.length + 1 + q:Nat):Int).toNat - ((A.length + 1 + G : Nat):Int).toNat < ((A.length + 1 + V : Nat):Int).toNat - ((A.length + 1 + G : Nat):Int).toNat
     omega
  have h2:G = V:=by have:=YS h2; omega
  subst h2;refine ⟨λz w'=>∃ k:Nat,z = ((A.length + k:Nat):Int)/\k<=G/\St w' (own 3 o n c (c_ (A ++ (Y.take k ++ x :: (Y.drop k ++ C)))) :: L),λz _=>A.length + G - z.toNat,⟨0,σ,Y4 _,by rw [hxs] at h; simpa using h⟩,?_⟩;clear h;rintro _ _ w6 ⟨k,rfl,hk,h⟩;refine ⟨⟨ω,ω⟩,ae (λR=>?_) λR=>?_⟩
  rotate_left
  ·have R:k = G:=by have:=YS R; omega
   subst R;have a8:kH fU (Y.take k ++ Y.drop k):=by rw [Zk]; exact hsY
   refine ⟨rfl,Y.take k ++ x :: Y.drop k,?_,HK a8 (λy U=>?_) (λy U=>?_),by simpa using h⟩
   ·refine ZQ.trans ?_;rw [Zk]; exact .refl _
   ·have bb:0 < k:=aaV λe=>by subst e; simp at U
    rw [aaX,Zj,show min k Y.length - 1 = k - 1 by omega,ZT,Y5 ω] at U;exact Int.le_of_lt (a6 y bb U)
   ·rw [List.head?_eq_getElem?,Zv,Nat.add_zero] at U;exact a7 y U
  have R:k < G:=by have:=YR R; omega
  intro w7 hd;have h:=h.eq (aE hd);obtain ⟨y,U⟩ : ∃ y,Y[k]? = some y:=⟨_,YU ω⟩;have eY:Y.drop k = y :: Y.drop (k + 1):=by rw [Zy ω]; congr 1; rw [YU ω] at U; exact Option.some.inj U
  obtain ⟨D,hD⟩ : ∃ D,D = A ++ (Y.take k ++ x :: (Y.drop k ++ C)):=⟨_,rfl⟩;rw [<- hD] at h;have lk:(A ++ Y.take k).length = A.length + k:=by simp; omega
  have e1:D = (A ++ Y.take k) ++ x :: ([] ++ y :: (Y.drop (k + 1) ++ C)):=by rw [hD,eY]; simp
  have g1:D[A.length + k]? = some x:=by rw [e1]; exact nN lk.symm
  have g2:D[A.length + k + 1]? = some y:=by
   rw [e1,show (A ++ Y.take k) ++ x :: ([] ++ y :: (Y.drop (k + 1) ++ C)) = ((A ++ Y.take k) ++ [x]) ++ y :: (Y.drop (k + 1) ++ C) by simp];exact nN (by rw [Y0,lk]; rfl)
  have am:=HO h;have b1:A.length + k < n:=by rw [am]; exact (YT.1 g1).1
  have b2:A.length + k + 1 < n:=by rw [am]; exact (YT.1 g2).1
  obtain ⟨ad,Z,r1⟩:=LM h g1;obtain ⟨b4,W,r2⟩:=LM h g2;rw [Z] at W; cases W;have z1:((A.length + k:Nat):Int) + 1 = ((A.length + k + 1:Nat):Int):=σ
  rw [z1]
  refine ⟨λu=>hp u = hp w7,rfl,⟨ω,ω⟩,⟨ω,ω⟩,aq Z b2 ⟨_,_,_,_,_,λu e=>r2.at (by rw [e]; exact sub.refl _) rfl,aq Z b1 ⟨_,_,_,_,_,λu e=>r1.at (by rw [e]; exact sub.refl _) rfl,aq Z b1 (UR (x:=y) h Z ω λd0 h=>aq Z b2 (UR (x:=x) h Z (by rw [Zn]; omega) λd6 h=>⟨⟨ω,ω⟩,⟨k + 1,rfl,ω,?_⟩,?_⟩))⟩⟩⟩
  ·have e2:(D.set (A.length + k) y).set (A.length + k + 1) x = A ++ (Y.take (k + 1) ++ x :: (Y.drop (k + 1) ++ C)):=by
    rw [e1,zt lk.symm (by rw [lk]; rfl),Y2,U]; simp
   rw [e2] at h;exact h
  ·show A.length + G - ((A.length + k + 1:Nat):Int).toNat < A.length + G - ((A.length + k:Nat):Int).toNat
   omega
 have h1:X.length≠1:=YS h1;refine ⟨⟨ω,ω⟩,?_⟩;rw [eB]
 refine ae (λh4=>?_) λh4=>?_
 ·-- one on the right
  have h4:=YR h4;obtain ⟨y,bA⟩ : ∃ y,Y = [y]:=List.length_eq_one_iff.1 h4;subst bA;obtain ⟨_,c6,gy⟩:=b7 0 σ;cases c6;have bC:Ks y:=aT y σ;refine ⟨λi j w'=>∃ G V : Nat,i = ((A.length + G : Nat):Int)/\j = ((A.length + V : Nat):Int)/\G<=V/\V<=X.length/\(∀ x,0 < G->X[G - 1]? = some x->fU x<=fU y)/\(∀ x,X[V]? = some x->fU y < fU x)/\St w' (own 3 o n c (c_ xs) :: L),λi j _=>j.toNat - i.toNat,⟨0,X.length,σ,rfl,Y4 _,Zc _,λx O=>absurd O ω,λx O=>(by rw [Zf (Zc _)] at O; cases O),h⟩,?_⟩;clear h;rintro _ _ _ w1 ⟨G,V,rfl,rfl,bl,hj,a6,a7,h⟩
  refine ae (λh2=>?_) λh2=>?_
  ·have h2:G < V:=by have:=YR h2; omega
   rw [M7 ω];obtain ⟨q,hq⟩ : ∃ q,q = (G + V) / 2:=⟨_,rfl⟩;have ab:(A.length + G + (A.length + V)) / 2 = A.length + q:=ω
   rw [ab];have cb:q < V:=ω
   have ba:G<=q:=ω
   obtain ⟨x,O,gx⟩:=bc q ω;refine ⟨⟨ω,ω⟩,b5,⟨ω,ω⟩,λw2 hd=>?_⟩;have h:=h.eq (aE hd);obtain ⟨ad,Z,ry⟩:=LM h gy;obtain ⟨b4,W,rx⟩:=LM h gx;rw [Z] at W; cases W;refine ⟨λu=>Gr w2 u,Gr.refl _,aq Z ω ⟨_,_,_,_,_,λu g=>ry.at g rfl,aq Z ω ⟨_,_,_,_,_,λu g=>rx.at g rfl,bS.2 ⟨hc.1,(hc.2 y x w2 bC (ac x (YV O))).mono ?_⟩⟩⟩⟩;rintro _ w5 ⟨t,rfl,ht,g5⟩;have h:=h.gr g5
   refine ⟨_,rfl,g5,ae (λR=>?_) λR=>?_⟩
   ·have R:¬ fU y < fU x:=λhh=>by
     have:=ht.2 hh;simp at R; omega
    refine ⟨⟨ω,ω⟩,⟨q + 1,V,ω,rfl,ω,hj,λx' _ b3=>?_,a7,h⟩,?_⟩
    ·rw [Nat.add_sub_cancel,O] at b3; cases b3; omega
    ·show ((A.length + V : Nat):Int).toNat - (((A.length + q:Nat):Int) + 1).toNat < ((A.length + V : Nat):Int).toNat - ((A.length + G : Nat):Int).toNat
     omega
   ·have R:fU y < fU x:=ht.1 (by simpa using R)
    refine ⟨⟨G,q,rfl,rfl,ba,ω,a6,λx' b3=>?_,h⟩,?_⟩
    ·rw [O] at b3; cases b3; exact R
    ·show ((A.length + q:Nat):Int).toNat - ((A.length + G : Nat):Int).toNat < ((A.length + V : Nat):Int).toNat - ((A.length + G : Nat):Int).toNat
     omega
  have h2:G = V:=by have:=YS h2; omega
  subst h2;refine ⟨λz w'=>∃ k:Nat,z = ((A.length + k:Nat):Int)/\G<=k/\k<=X.length/\St w' (own 3 o n c (c_ (A ++ (X.take k ++ y :: (X.drop k ++ C)))) :: L),λz _=>z.toNat,⟨X.length,rfl,hj,Zc _,by rw [hxs] at h; simpa using h⟩,?_⟩;clear h;rintro _ _ cu ⟨k,rfl,cy,hk,h⟩;refine ae (λR=>?_) λR=>?_
  rotate_left
  ·have R:k = G:=by have:=YS R; omega
   subst R;have a9:kH fU (X.take k ++ X.drop k):=by rw [Zk]; exact hsX
   refine ⟨rfl,X.take k ++ y :: X.drop k,?_,HK a9 (λx O=>?_) (λx O=>?_),by simpa using h⟩
   ·refine ZQ.trans ?_;rw [Zk];exact (List.perm_append_singleton y X).symm
   ·have bb:0 < k:=aaV λe=>by subst e; simp at O
    rw [aaX,Zj,show min k X.length - 1 = k - 1 by omega,ZT,Y5 ω] at O;exact a6 x bb O
   ·rw [List.head?_eq_getElem?,Zv,Nat.add_zero] at O;exact Int.le_of_lt (a7 x O)
  have R:G < k:=by have:=YR R; omega
  obtain ⟨k,rfl⟩ : ∃ k',k = k' + 1:=⟨k - 1,ω⟩;intro c7 hd;have h:=h.eq (aE hd);obtain ⟨x,O⟩ : ∃ x,X[k]? = some x:=⟨_,YU ω⟩;obtain ⟨D,hD⟩ : ∃ D,D = A ++ (X.take (k + 1) ++ y :: (X.drop (k + 1) ++ C)):=⟨_,rfl⟩;rw [<- hD] at h;have lk:(A ++ X.take k).length = A.length + k:=by simp; omega
  have e1:D = (A ++ X.take k) ++ x :: ([] ++ y :: (X.drop (k + 1) ++ C)):=by rw [hD,Y2,O]; simp
  have g1:D[A.length + k]? = some x:=by rw [e1]; exact nN lk.symm
  have g2:D[A.length + (k + 1)]? = some y:=by
   rw [e1,show (A ++ X.take k) ++ x :: ([] ++ y :: (X.drop (k + 1) ++ C)) = ((A ++ X.take k) ++ [x]) ++ y :: (X.drop (k + 1) ++ C) by simp];exact nN (by rw [Y0,lk]; rfl)
  have am:=HO h;have b1:A.length + k < n:=by rw [am]; exact (YT.1 g1).1
  have b2:A.length + (k + 1) < n:=by rw [am]; exact (YT.1 g2).1
  obtain ⟨ad,Z,r1⟩:=LM h g1;obtain ⟨b4,W,r2⟩:=LM h g2;rw [Z] at W; cases W;have z1:((A.length + (k + 1):Nat):Int) - 1 = ((A.length + k:Nat):Int):=by simp; omega
  rw [z1]
  refine ⟨λu=>hp u = hp c7,rfl,⟨ω,ω⟩,⟨ω,ω⟩,aq Z b1 ⟨_,_,_,_,_,λu e=>r1.at (by rw [e]; exact sub.refl _) rfl,aq Z b2 ⟨_,_,_,_,_,λu e=>r2.at (by rw [e]; exact sub.refl _) rfl,aq Z b2 (UR (x:=x) h Z ω λcz h=>aq Z b1 (UR (x:=y) h Z (by rw [Zn]; omega) λck h=>⟨⟨ω,ω⟩,⟨k,rfl,ω,ω,?_⟩,?_⟩))⟩⟩⟩
  ·have eX:X.drop k = x :: X.drop (k + 1):=by rw [Zy ω]; congr 1; rw [YU ω] at O; exact Option.some.inj O
   have e2:(D.set (A.length + (k + 1)) x).set (A.length + k) y = A ++ (X.take k ++ y :: (X.drop k ++ C)):=by
    rw [List.set_comm _ _ ω,e1,zt lk.symm (by rw [lk]; rfl),eX]; simp
   rw [e2] at h;exact h
  ·show ((A.length + k:Nat):Int).toNat < ((A.length + (k + 1):Nat):Int).toNat
   omega
 have h4:Y.length≠1:=YS h4
 -- the halves
 obtain ⟨H,hH⟩ : ∃ H,H = (X.length + Y.length) / 2:=⟨_,rfl⟩;have hM:(A.length + (A.length + X.length + Y.length)) / 2 = A.length + H:=ω
 have d4:0 < H:=ω
 have d5:H < X.length + Y.length:=ω
 have d9:2 * H<=X.length + Y.length:=ω
 have cv:X.length + Y.length<=2 * H + 1:=ω
 rw [M7 ω,hM];clear hH hM
 refine ⟨⟨ω,ω⟩,b5,⟨ω,ω⟩,⟨ω,ω⟩,λs r w'=>∃ s' r' : Nat,s = ((A.length + s' : Nat):Int)/\r = ((A.length + r' : Nat):Int)/\s'<=r'/\r'<=X.length/\r'<=H/\H - s'<=Y.length/\(s' = 0\/H - s' = Y.length)/\(r' = X.length\/r' = H)/\hp w' = hp w,?_,?_⟩
 ·refine ae (λh5=>?_) λh5=>?_
  ·have h5:H < X.length:=by have:=YR h5; omega
   exact ⟨⟨ω,ω⟩,H - Y.length,H,ω,ω,ω,ω,ω,ω,ω,ω,rfl⟩
  ·have h5:X.length<=H:=by have:=YS h5; omega
   exact ⟨0,X.length,σ,rfl,Y4 _,Zc _,h5,ω,.inl rfl,.inl rfl,rfl⟩
 rintro _ _ _ cD ⟨s0,r0,rfl,rfl,c9,dc,d8,cx,d2,cp,bG⟩;have h:=h.eq bG;obtain ⟨P,hP⟩ : ∃ P,P = A.length + H + (A.length + X.length):=⟨_,rfl⟩;refine ⟨⟨ω,ω⟩,λs r w'=>∃ s' r' : Nat,s = ((A.length + s' : Nat):Int)/\r = ((A.length + r' : Nat):Int)/\s0<=s'/\s'<=r'/\r'<=r0/\YO X Y H s0 s'/\YP X Y H r0 r'/\St w' (own 3 o n c (c_ xs) :: L),λs r _=>r.toNat - s.toNat,⟨s0,r0,rfl,rfl,Zc _,c9,Zc _,.inl rfl,.inl rfl,h⟩,?_⟩;clear h;rintro _ _ _ cB ⟨s,r,rfl,rfl,bT,cc,c5,a6,a7,h⟩
 refine ae (λh5=>?_) λh5=>?_
 ·have h5:s < r:=by have:=YR h5; omega
  rw [M7 ω];obtain ⟨q,hq⟩ : ∃ q,q = (s + r) / 2:=⟨_,rfl⟩;have ab:(A.length + s + (A.length + r)) / 2 = A.length + q:=ω
  rw [ab];have ci:q < r:=ω
  have ca:s<=q:=ω
  have z1:((A.length + H:Nat):Int) + ((A.length + X.length:Nat):Int) - 1 - ((A.length + q:Nat):Int) = ((A.length + X.length + (H - q - 1):Nat):Int):=ω
  rw [z1];obtain ⟨x,O,gx⟩:=bc q ω;obtain ⟨y,U,gy⟩:=b7 (H - q - 1) ω;refine ⟨⟨ω,ω⟩,b5,⟨ω,ω⟩,λbe hd=>?_⟩;have h:=h.eq (aE hd);obtain ⟨ad,Z,ry⟩:=LM h gy;obtain ⟨b4,W,rx⟩:=LM h gx;rw [Z] at W; cases W;refine ⟨λu=>Gr be u,Gr.refl _,⟨ω,ω⟩,aq Z ω ⟨_,_,_,_,_,λu g=>ry.at g rfl,aq Z ω ⟨_,_,_,_,_,λu g=>rx.at g rfl,bS.2 ⟨hc.1,(hc.2 y x be (aT y (YV U)) (ac x (YV O))).mono ?_⟩⟩⟩⟩;rintro _ d1 ⟨t,rfl,ht,g5⟩;have h:=h.gr g5
  refine ⟨_,rfl,g5,ae (λR=>?_) λR=>?_⟩
  ·have R:¬ fU y < fU x:=λhh=>by
    have:=ht.2 hh;simp at R; omega
   refine ⟨⟨ω,ω⟩,⟨q + 1,r,ω,rfl,ω,ω,c5,.inr ⟨x,y,by rw [Nat.add_sub_cancel]; exact O,by rw [show H - (q + 1) = H - q - 1 by omega]; exact U,ω⟩,a7,h⟩,?_⟩
   show ((A.length + r:Nat):Int).toNat - (((A.length + q:Nat):Int) + 1).toNat < ((A.length + r:Nat):Int).toNat - ((A.length + s:Nat):Int).toNat
   omega
  ·have R:fU y < fU x:=ht.1 (by simpa using R);refine ⟨⟨s,q,rfl,rfl,bT,ca,ω,a6,.inr ⟨x,y,O,U,R⟩,h⟩,?_⟩
   show ((A.length + q:Nat):Int).toNat - ((A.length + s:Nat):Int).toNat < ((A.length + r:Nat):Int).toNat - ((A.length + s:Nat):Int).toNat
   omega
 have h5:s = r:=by have:=YS h5; omega
 subst h5;obtain ⟨t,ht⟩ : ∃ t,t = H - s:=⟨_,rfl⟩;have cC:t<=Y.length:=ω
 have z2:((A.length + H:Nat):Int) + ((A.length + X.length:Nat):Int) - ((A.length + s:Nat):Int) = ((A.length + X.length + t:Nat):Int):=ω
 rw [z2];have a9:kH fU (X.take s ++ X.drop s):=by rw [Zk]; exact hsX
 have a8:kH fU (Y.take t ++ Y.drop t):=by rw [Zk]; exact hsY
 have aa:(X.take s).length = s:=by simp; omega
 have b0:(X.drop s).length = X.length - s:=σ
 have a5:(Y.take t).length = t:=by simp; omega
 have bd:(Y.drop t).length = Y.length - t:=σ
 have c1:∀ x y,(X.take s).getLast? = some x->(Y.drop t).head? = some y->fU x<=fU y:=λx y O U=>by
  have cg:0 < s:=aaV λe=>by subst e; simp at O
  rw [aaX,aa,ZT,Y5 ω] at O;rw [List.head?_eq_getElem?,Zv,Nat.add_zero] at U
  rcases a6 with e | ⟨x',y',e1,e2,e3⟩
  ·have:t = Y.length:=ω
   rw [this,Zf (Zc _)] at U; cases U
  ·rw [O] at e1; cases e1;rw [<- ht,U] at e2; cases e2;exact e3
 have c2:∀ x y,(Y.take t).getLast? = some x->(X.drop s).head? = some y->fU x<=fU y:=λx y O U=>by
  have ht1:0 < t:=aaV λe=>by subst e; simp at O
  rw [aaX,a5,ZT,Y5 ω] at O;rw [List.head?_eq_getElem?,Zv,Nat.add_zero] at U
  rcases a7 with e | ⟨x',y',e1,e2,e3⟩
  ·have:s = X.length:=ω
   rw [this,Zf (Zc _)] at U; cases U
  ·rw [U] at e1; cases e1;rw [<- ht,O] at e2; cases e2;exact Int.le_of_lt e3
 have rest:∀ a1,St a1 (own 3 o n c (c_ (A ++ (X.take s ++ (Y.take t ++ (X.drop s ++ (Y.drop t ++ C)))))) :: L)->br (decide ((A.length:Int) < ((A.length + s:Nat):Int))) (br (decide (((A.length + s:Nat):Int) < ((A.length + H:Nat):Int))) (ρ aX [.slice o n c,.int .i64 (A.length:Int),.int .i64 ((A.length + s:Nat):Int),.int .i64 ((A.length + H:Nat):Int),.func (.func d) #[] ⟨e⟩] a1 λv4 a4=>v4 = .tuple #[]/\br (decide (((A.length + H:Nat):Int) < ((A.length + X.length + t:Nat):Int))) (br (decide (((A.length + X.length + t:Nat):Int) < ((A.length + X.length + Y.length:Nat):Int))) (ρ aX [.slice o n c,.int .i64 ((A.length + H:Nat):Int),.int .i64 ((A.length + X.length + t:Nat):Int),.int .i64 ((A.length + X.length + Y.length:Nat):Int),.func (.func d) #[] ⟨e⟩] a4 λv5 a0=>v5 = .tuple #[]/\((.tuple #[] : Value) = .tuple #[]/\∃ S,S.Perm (X ++ Y)/\kH fU S/\St a0 (own 3 o n c (c_ (A ++ (S ++ C))) :: L))) ((.tuple #[] : Value) = .tuple #[]/\∃ S,S.Perm (X ++ Y)/\kH fU S/\St a4 (own 3 o n c (c_ (A ++ (S ++ C))) :: L))) ((.tuple #[] : Value) = .tuple #[]/\∃ S,S.Perm (X ++ Y)/\kH fU S/\St a4 (own 3 o n c (c_ (A ++ (S ++ C))) :: L)))
   (br (decide (((A.length + H:Nat):Int) < ((A.length + X.length + t:Nat):Int))) (br (decide (((A.length + X.length + t:Nat):Int) < ((A.length + X.length + Y.length:Nat):Int))) (ρ aX [.slice o n c,.int .i64 ((A.length + H:Nat):Int),.int .i64 ((A.length + X.length + t:Nat):Int),.int .i64 ((A.length + X.length + Y.length:Nat):Int),.func (.func d) #[] ⟨e⟩] a1 λv5 a0=>v5 = .tuple #[]/\((.tuple #[] : Value) = .tuple #[]/\∃ S,S.Perm (X ++ Y)/\kH fU S/\St a0 (own 3 o n c (c_ (A ++ (S ++ C))) :: L))) ((.tuple #[] : Value) = .tuple #[]/\∃ S,S.Perm (X ++ Y)/\kH fU S/\St a1 (own 3 o n c (c_ (A ++ (S ++ C))) :: L))) ((.tuple #[] : Value) = .tuple #[]/\∃ S,S.Perm (X ++ Y)/\kH fU S/\St a1 (own 3 o n c (c_ (A ++ (S ++ C))) :: L))))
   (br (decide (((A.length + H:Nat):Int) < ((A.length + X.length + t:Nat):Int))) (br (decide (((A.length + X.length + t:Nat):Int) < ((A.length + X.length + Y.length:Nat):Int))) (ρ aX [.slice o n c,.int .i64 ((A.length + H:Nat):Int),.int .i64 ((A.length + X.length + t:Nat):Int),.int .i64 ((A.length + X.length + Y.length:Nat):Int),.func (.func d) #[] ⟨e⟩] a1 λv5 a0=>v5 = .tuple #[]/\((.tuple #[] : Value) = .tuple #[]/\∃ S,S.Perm (X ++ Y)/\kH fU S/\St a0 (own 3 o n c (c_ (A ++ (S ++ C))) :: L))) ((.tuple #[] : Value) = .tuple #[]/\∃ S,S.Perm (X ++ Y)/\kH fU S/\St a1 (own 3 o n c (c_ (A ++ (S ++ C))) :: L))) ((.tuple #[] : Value) = .tuple #[]/\∃ S,S.Perm (X ++ Y)/\kH fU S/\St a1 (own 3 o n c (c_ (A ++ (S ++ C))) :: L))):=by
  intro a1 h
  -- the a3 half
  have a3:∀ {a4:aa4} {S1:List iK},S1.Perm (X.take s ++ Y.take t)->kH fU S1->St a4 (own 3 o n c (c_ (A ++ (S1 ++ (X.drop s ++ (Y.drop t ++ C))))) :: L)->br (decide (((A.length + H:Nat):Int) < ((A.length + X.length + t:Nat):Int))) (br (decide (((A.length + X.length + t:Nat):Int) < ((A.length + X.length + Y.length:Nat):Int))) (ρ aX [.slice o n c,.int .i64 ((A.length + H:Nat):Int),.int .i64 ((A.length + X.length + t:Nat):Int),.int .i64 ((A.length + X.length + Y.length:Nat):Int),.func (.func d) #[] ⟨e⟩] a4 λv5 a0=>v5 = .tuple #[]/\((.tuple #[] : Value) = .tuple #[]/\∃ S,S.Perm (X ++ Y)/\kH fU S/\St a0 (own 3 o n c (c_ (A ++ (S ++ C))) :: L))) ((.tuple #[] : Value) = .tuple #[]/\∃ S,S.Perm (X ++ Y)/\kH fU S/\St a4 (own 3 o n c (c_ (A ++ (S ++ C))) :: L))) ((.tuple #[] : Value) = .tuple #[]/\∃ S,S.Perm (X ++ Y)/\kH fU S/\St a4 (own 3 o n c (c_ (A ++ (S ++ C))) :: L)):=by
   intro a4 S1 p1 s1 h;have l1:S1.length = s + t:=by rw [p1.length_eq,Y0,aa,a5]
   have fin:∀ {a0:aa4} {S2:List iK},S2.Perm (X.drop s ++ Y.drop t)->kH fU S2->St a0 (own 3 o n c (c_ (A ++ (S1 ++ (S2 ++ C)))) :: L)->∃ S,S.Perm (X ++ Y)/\kH fU S/\St a0 (own 3 o n c (c_ (A ++ (S ++ C))) :: L):=λ{a0 S2} p2 s2 h=>by
    obtain ⟨q1,q2⟩:=LK a9 a8 c1 c2 p1 s1 p2 s2;rw [Zk,Zk] at q2;exact ⟨S1 ++ S2,q2,q1,by rw [Y6]; exact h⟩
   refine ae (λh6=>?_) λh6=>?_
   rotate_left
   ·have:X.drop s = []:=Y9 (by have:=YS h6; omega);exact ⟨rfl,fin (S2:=X.drop s ++ Y.drop t) (.refl _) (by rw [this,Zz]; exact (gh.1 a8).2.1) (by simpa using h)⟩
   have h6:s < X.length:=by have:=YR h6; omega
   refine ae (λh7=>?_) λh7=>?_
   rotate_left
   ·have:Y.drop t = []:=Y9 (by have:=YS h7; omega);exact ⟨rfl,fin (S2:=X.drop s ++ Y.drop t) (.refl _) (by rw [this,Zm]; exact (gh.1 a9).2.1) (by simpa using h)⟩
   have h7:t < Y.length:=by have:=YR h7; omega
   refine (ih (A:=A ++ S1) (X:=X.drop s) (Y:=Y.drop t) (C:=C) h σ (by simp; omega) (by simp; omega) (by simp; omega) (λhh=>by rw [hh] at b0; simp at b0; omega) (λhh=>by rw [hh] at bd; simp at bd; omega) (by rw [b0,bd]; omega) (gh.1 a9).2.1 (gh.1 a8).2.1 (λz hz=>?_) (by simp [l1]; omega)).mono ?_
   ·rcases YY.1 hz with hz | hz
    ·exact ac z (aac hz)
    ·exact aT z (aac hz)
   rintro _ a0 ⟨rfl,S2,p2,s2,h⟩;exact ⟨rfl,rfl,fin p2 s2 (by simpa using h)⟩
  refine ae (λh6=>?_) λh6=>?_
  rotate_left
  ·have:X.take s = []:=Y9 (by rw [aa]; have:=YS h6; omega);exact a3 (S1:=X.take s ++ Y.take t) (.refl _) (by rw [this,Zz]; exact (gh.1 a8).1) (by simpa using h)
  have h6:0 < s:=by have:=YR h6; omega
  refine ae (λh7=>?_) λh7=>?_
  rotate_left
  ·have:Y.take t = []:=Y9 (by rw [a5]; have:=YS h7; omega);exact a3 (S1:=X.take s ++ Y.take t) (.refl _) (by rw [this,Zm]; exact (gh.1 a9).1) (by simpa using h)
  have h7:0 < t:=by have:=YR h7; omega
  refine (ih (A:=A) (X:=X.take s) (Y:=Y.take t) (C:=X.drop s ++ (Y.drop t ++ C)) h rfl rfl (by simp; omega) (by simp; omega) (λhh=>by rw [hh] at aa; simp at aa; omega) (λhh=>by rw [hh] at a5; simp at a5; omega) (by rw [aa,a5]; omega) (gh.1 a9).1 (gh.1 a8).1 (λz hz=>?_) (by simp; omega)).mono ?_
  ·rcases YY.1 hz with hz | hz
   ·exact ac z (aa0 hz)
   ·exact aT z (aa0 hz)
  rintro _ a4 ⟨rfl,S1,p1,s1,h⟩;exact ⟨rfl,a3 p1 s1 h⟩
 refine ⟨⟨ω,ω⟩,λw'=>St w' (own 3 o n c (c_ (A ++ (X.take s ++ (Y.take t ++ (X.drop s ++ (Y.drop t ++ C)))))) :: L),?_,λ_ a1 h=>rest a1 h⟩
 have b6:xs = A ++ (X.take s ++ (X.drop s ++ (Y.take t ++ (Y.drop t ++ C)))):=by
  rw [hxs,<- Y6 (X.take s),Zk,<- Y6 (Y.take t),Zk]
 refine ae (λh6=>?_) λh6=>?_
 rotate_left
 ·have:X.drop s = []:=Y9 (by have:=YS h6; omega);rw [b6,this] at h;rw [this];simpa using h
 have h6:s < X.length:=by have:=YR h6; omega
 refine ae (λh7=>?_) λh7=>?_
 rotate_left
 ·have:Y.take t = []:=Y9 (by rw [a5]; have:=YS h7; omega);rw [b6,this] at h;rw [this];simpa using h
 have h7:0 < t:=by have:=YR h7; omega
 refine (Rp (A:=A ++ X.take s) (X:=X.drop s) (Y:=Y.take t) (C:=Y.drop t ++ C) h (by rw [b6]; simp) (by simp; omega) (by simp; omega) (by simp; omega) (λhh=>by rw [hh] at b0; simp at b0; omega) (λhh=>by rw [hh] at a5; simp at a5; omega) hn).mono ?_;rintro _ a1 ⟨rfl,h⟩;exact ⟨rfl,by simpa using h⟩
end
section
variable {w:aa4} {L:List az} {o:aa3} {n c:Nat} {d:FuncId} {e:List Value}
theorem Rr {xs:List iK} (hc:TZ d e) (h:St w (own 3 o n c (c_ xs) :: L)) (hs:∀ x∈xs,Ks x) (hn:n<=100000) :
  ρ jz [.slice o n c,.int .i64 (n:Int),.func (.func d) #[] ⟨e⟩] w λv w'=>v = .tuple #[]/\∃ ys,ys.Perm xs/\kH fU ys/\St w' (own 3 o n c (c_ ys) :: L):=by
 have a3:=HO h;refine iP ⟨λa b w'=>∃ D E:List iK,a = (D.length:Int)/\b = (D.length:Int) + 20/\(D ++ E).Perm xs/\Wb fU 20 D/\St w' (own 3 o n c (c_ (D ++ E)) :: L),λa _ _=>n - a.toNat,⟨[],xs,rfl,rfl,.refl _,.nil,h⟩,?_⟩;clear h;rintro _ _ _ w1 ⟨D,E,rfl,rfl,hp,hF,h⟩;have u:D.length + E.length = xs.length:=by have:=hp.length_eq; simpa using this
 have O:∀ x∈E,Ks x:=λx U=>hs x (hp.mem_iff.1 (by simp [U]))
 refine ae (λR=>?_) λR=>?_
 ·have R:D.length + 20<=n:=by have:=YR R; omega
  have l1:(E.take 20).length = 20:=by rw [Zj]; omega
  refine (Ka (A:=D) (X:=E.take 20) (C:=E.drop 20) hc h (by rw [Zk]) rfl (by rw [l1]; simp) (λx U=>O x (aa0 U)) (by simp; omega)).mono ?_;rintro _ w2 ⟨rfl,S,G,W,h⟩;have V:S.length = 20:=by rw [G.length_eq,l1]
  refine ⟨rfl,⟨ω,ω⟩,⟨D ++ S,E.drop 20,by simp [V],by simp [V],?_,.snoc D S hF V W,by simpa using h⟩,?_⟩
  ·refine List.Perm.trans ?_ hp;rw [Y6];refine aaC _ ?_;exact (G.append_right _).trans (by rw [Zk])
  ·show n - ((D.length:Int) + 20).toNat < n - (D.length:Int).toNat
   omega
 have R:n < D.length + 20:=by have:=YS R; omega
 refine (Ka (A:=D) (X:=E) (C:=[]) hc h σ rfl ω O (by simp; omega)).mono ?_;rintro _ w3 ⟨rfl,S,G,W,h⟩;have V:S.length = E.length:=G.length_eq;have a0:LN fU 20 (D ++ S):=hF.Yx S (.last S ω W);have a1:(D ++ S).Perm xs:=(aaC _ G).trans hp;refine ⟨rfl,λz w'=>∃ (bs:Nat) (ys:List iK),z = bs/\20<=bs/\bs<=200000/\ys.Perm xs/\LN fU bs ys/\St w' (own 3 o n c (c_ ys) :: L),λz _=>n - z.toNat,⟨20,D ++ S,rfl,Zc _,ω,a1,a0,by simpa using h⟩,?_⟩;clear h hp hF a1 a0 G W V u O R;rintro _ _ w4 ⟨bs,ys,rfl,a7,aa,hp,hR,h⟩;have a5:ys.length = n:=by rw [hp.length_eq]; exact a3.symm
 refine ae (λR=>?_) λR=>?_
 rotate_left
 ·have R:n<=bs:=by have:=YS R; omega
  exact ⟨rfl,ys,hp,hR.Rq ω,h⟩
 have R:bs < n:=by have:=YR R; omega
 have z0:2 * (bs:Int) = ((2 * bs:Nat):Int):=σ
 rw [z0];refine ⟨⟨ω,ω⟩,λa b w'=>∃ D E:List iK,a = (D.length:Int)/\b = ((D.length + 2 * bs:Nat):Int)/\(D ++ E).Perm xs/\Wb fU (2 * bs) D/\LN fU bs E/\St w' (own 3 o n c (c_ (D ++ E)) :: L),λa _ _=>n - a.toNat,⟨[],ys,rfl,σ,hp,.nil,hR,h⟩,?_⟩;clear h hp hR a5;rintro _ _ _ w5 ⟨D,E,rfl,rfl,hp,hF,hR,h⟩;have u:D.length + E.length = xs.length:=by have:=hp.length_eq; simpa using this
 have O:∀ x∈E,Ks x:=λx U=>hs x (hp.mem_iff.1 (by simp [U]))
 refine ae (λh2=>?_) λh2=>?_
 ·have h2:D.length + 2 * bs<=n:=by have:=YR h2; omega
  obtain ⟨X,m,rfl,hX,sX,hm,_⟩:=hR.cut ω;have a9:bs<=m.length:=by simp at u; omega
  obtain ⟨Y,E',rfl,hY,sY,a6⟩ : ∃ Y E',m = Y ++ E'/\Y.length = bs/\kH fU Y/\LN fU bs E':=by
   by_cases e:m.length = bs
   ·exact ⟨m,[],σ,e,hm.Rq ω,.last [] (Y4 _) .nil⟩
   ·obtain ⟨Y,E',q1,q2,q3,q4,_⟩:=hm.cut ω;exact ⟨Y,E',q1,q2,q3,q4⟩
  refine ⟨⟨ω,ω⟩,(Es hc (X.length + Y.length) (A:=D) (X:=X) (Y:=Y) (C:=E') h σ rfl (by rw [hX]; simp) (by rw [hX,hY]; omega) (λhh=>by rw [hh] at hX; simp at hX; omega) (λhh=>by rw [hh] at hY; simp at hY; omega) (Zc _) sX sY (λx U=>O x ?_) (by simp at u ⊢; omega)).mono ?_⟩
  ·rcases YY.1 U with U | U <;> simp [U]
  rintro _ w6 ⟨rfl,S,G,W,h⟩;have V:S.length = 2 * bs:=by rw [G.length_eq,Y0]; omega
  refine ⟨rfl,⟨ω,ω⟩,⟨ω,ω⟩,⟨D ++ S,E',by simp [V],by simp [V],?_,.snoc D S hF V W,a6,by simpa using h⟩,?_⟩
  ·refine List.Perm.trans ?_ hp;rw [Y6];refine aaC _ ?_;rw [<- Y6];exact G.append_right _
  ·show n - ((D.length + 2 * bs:Nat):Int).toNat < n - (D.length:Int).toNat
   omega
 have h2:n < D.length + 2 * bs:=by have:=YS h2; omega
 have z1:(D.length:Int) + (bs:Int) = ((D.length + bs:Nat):Int):=σ
 rw [z1]
 have next:∀ {w' : aa4} {S:List iK},S.Perm E->kH fU S->St w' (own 3 o n c (c_ (D ++ S)) :: L)->ax ((bs:Int) * 2)/\(∃ (Z : Nat) (ys:List iK),(bs:Int) * 2 = Z/\20<=Z/\Z<=200000/\ys.Perm xs/\LN fU Z ys/\St w' (own 3 o n c (c_ ys) :: L))/\n - ((bs:Int) * 2).toNat < n - (bs:Int).toNat:=λ{w' S} G W h=>by
  have V:=G.length_eq;refine ⟨⟨ω,ω⟩,⟨2 * bs,D ++ S,ω,ω,ω,(aaC _ G).trans hp,hF.Yx S (.last S ω W),h⟩,ω⟩
 refine ⟨⟨ω,ω⟩,ae (λh3=>?_) λh3=>?_⟩
 ·have h3:D.length + bs < n:=by have:=YR h3; omega
  obtain ⟨X,Y,rfl,hX,sX,hY,a4⟩:=hR.cut ω;have a8:Y.length < bs:=by simp at u; omega
  refine (Es hc (X.length + Y.length) (A:=D) (X:=X) (Y:=Y) (C:=[]) h σ rfl (by rw [hX]) (by simp at u; omega) (λhh=>by rw [hh] at hX; simp at hX; omega) a4 (Zc _) sX (hY.Rq ω) O (by simp at u ⊢; omega)).mono ?_;rintro _ w7 ⟨rfl,S,G,W,h⟩;exact ⟨rfl,next G W (by simpa using h)⟩
 ·exact next (.refl E) (hR.Rq (by have:=YS h3; omega)) h
theorem Rs:TZ nP []:=by
 refine ⟨rfl,λx y u z G=>?_⟩;obtain ⟨R,U⟩:=z;obtain ⟨W,X⟩:=G;refine wy (ag (St.all u) λY O h=>ag h λV Z h=>?_);refine ⟨_,(ah 1 h.l).cell (sub.refl _) (j:=1) rfl,_,(ah 0 h.l).cell (sub.refl _) (j:=1) rfl,⟨ω,ω⟩,_,rfl,?_,aR 2 h.l⟩
 show x.1.2 - y.1.2 < 0↔x.1.2 < y.1.2
 omega
theorem Rt {xs:List iK} (h:St w (own 3 o xs.length c (c_ xs) :: aC (oQ xs) :: L)) (hs:∀ x∈xs,Ks x) (hn:xs.length<=100000) :
  ρ e_ [.slice o xs.length c,.func (.func nP) #[] #[]] w λv w'=>v = .tuple #[]/\∃ ys:List iK,ys.Perm xs/\kH fU ys/\St w' (own 3 o xs.length c (c_ ys) :: aC (oQ ys) :: L):=by
 refine eh ((Rr Rs h hs hn).mono ?_);rintro _ w' ⟨rfl,ys,p,s,h⟩;refine ⟨rfl,rfl,ys,p,s,?_⟩;have z:=St.flat.1 (h.pick 2 [1,0]);have u:=z.perm ((p.map λb=>bB 1 iv b.2).symm.append_right _);exact (St.flat.2 u).pick 2 [1,0]
end
section
variable {g:af} {nn:List Bool} {ss:List SQ}
theorem AZ {q:Nat} {es:List aS}:(nO g q es).length<=es.length:=by
 unfold nO; rw [Y3]; exact Zt _ _
theorem Ot {q:Nat} {K:List ai}:(uU q K).length<=1:=by unfold uU; split <;> simp
theorem Gl (h:∀ q∈ss,q.2.2.length<=130):∀ n,(mC g ss n).length<=n * 131
 | 0=>by simp [mC]
 | n + 1=>by
  rw [Eh,Y0]
  have h1:=Gl h n
  have h2:(zu g ss n).length<=131:=by
   unfold zu
   split
   ·rename_i r hr
    have:=h r (YV hr)
    have:=AZ (g:=g) (q:=n) (es:=r.2.2)
    have:=Ot (q:=n) (K:=r.1.2)
    rw [Y0]; omega
   ·simp
  omega
theorem Gm {l:bK} {n:Nat}:(uV l n).length<=n:=by unfold uV; simp; omega
theorem Gn {ls:List bK} (h:∀ l∈ls,l.tm.length<=65):∀ n,(qd ls n).length<=n * 65
 | 0=>by simp [qd]
 | n + 1=>by
  have h1:=Gn h n
  cases hl:ls[n]? with
  | none =>
   have e:ls.take (n + 1) = ls.take n:=by rw [Y2,hl]; simp
   unfold qd at h1 ⊢
   rw [e]; omega
  | some l =>
   rw [Ej hl,Y0]
   have h2:=Gm (l:=l) (n:=l.tm.length)
   have h3:=h l (YV hl)
   omega
def Ya (g:af) (nn:List Bool) (ss:List SQ) (ps:List (fq × Lq aJ)):Prop:=(ps.map Prod.fst).Nodup/\∀ q t:Nat,q < ss.length->t < g.T->gZ ⟨(q:Int),(t:Int)⟩ ps = cM g nn ss q t
end
theorem Yy {w:aa4} {L:List az} {ds:List iK} {i:Nat} {b:iK} (h:St w (aC (oQ ds) :: L)) (hb:ds[i]? = some b):bh (hp w) b.2.2 b.2.1.1 b.2.2.length:=by
 have hA:(oQ ds)[i]? = some (bB 1 iv b.2):=by unfold oQ; rw [YW,hb]; rfl
 have u:=St.out h hA;exact eO rfl (dJ 0 u.l)
section
variable {w:aa4} {L:List az} {g:af} {x:GA}
theorem Ru {xs:List ai} {a:aa3} {l c:Nat} {d e:Int} (hr:bh (hp w) xs a l) (hb:l<=4611686018427387904):ρ gp [.slice a l c,.agg #[.int .i64 d,.int .i64 e]] w λv w'=>v = .bool (decide ((⟨d,e⟩ : ai)∈xs))/\Gr w w':=by
 have hl:=hr.1;refine fG (ag (St.all w) λk1 W h=>?_);have g1:Gr w W:=h.aW;refine ⟨_,_,(ah 0 h.l).at (sub.refl _) rfl,?_⟩;clear h;have hr:=hr.mono g1
 have key:ρ iZ [.slice a l c,.agg #[.int .i64 d,.int .i64 e]] W λv w'=>∃ z:Int,v = .int .i64 z/\(0<=z↔(⟨d,e⟩ : ai)∈xs)/\Gr W w':=by
  refine gO (ag (St.all W) λk2 U h=>?_);have X:Gr W U:=h.aW;have rk:au (hp U) (aM k2) [.int .i64 d,.int .i64 e]:=ah 0 h.l;clear h;have hr:=hr.mono X;refine ⟨λz w'=>∃ j:Nat,z = j/\j<=l/\(⟨d,e⟩ : ai)∉xs.take j/\hp w' = hp U,λz _=>l - z.toNat,⟨0,rfl,Y4 _,σ,rfl⟩,?_⟩;rintro _ _ w3 ⟨j,rfl,hj,R,Z⟩;refine ae (λG=>?_) λG=>?_
  rotate_left
  ·have G:j = l:=by have:=YS G; omega
   rw [Zb ω] at R;exact ⟨-1,rfl,⟨λh=>ω,λh=>absurd h R⟩,X.trans (Gr.of_eq Z)⟩
  have G:j < l:=by have:=YR G; omega
  obtain ⟨y,ad,hy,rfl,ry⟩:=pU hr G;intro w4 hd;have Y:hp w4 = hp U:=(aE hd).trans Z;have sb:∀ u:aa4,hp u = hp U->sub (hp U) (hp u):=λu e=>by rw [e]; exact sub.refl _
  refine ⟨λu=>hp u = hp U,Y,_,_,λu e=>rk.at (sb u e) rfl,aq rfl G ⟨_,_,λu e=>ry.at (sb u e) rfl,_,λu _=>DF u _ _ ⟨d,e⟩ y,_,rfl,ae (λO=>?_) λO=>?_⟩⟩
  ·have O:=YR O;exact ⟨j,rfl,⟨λ_=>by rw [O]; exact YV hy,λ_=>Zx _⟩,X.trans (Gr.of_eq Y)⟩
  ·have O:=YS O;refine ⟨⟨ω,ω⟩,⟨j + 1,σ,G,λV=>?_,Y⟩,bn G⟩;rw [Y2,hy,YY] at V
   rcases V with V | V
   ·exact R V
   ·simp at V; exact O V
 refine key.mono ?_;rintro _ w' ⟨z,rfl,hz,g⟩;refine ⟨z,rfl,?_,g1.trans g⟩;rw [show decide (0<=z) = decide ((⟨d,e⟩ : ai)∈xs) from decide_eq_decide.2 hz]
theorem Rv (hg:gR (hp w) g x) (hb:jd g) (ht:gA (hp w)):ρ Er [.agg ⟨x.cells⟩] w λv w'=>∃ (ss:List SQ) (ask int f:Int) (nn:List Bool) (b:Option Nat) (z:Int),v = .tuple #[.map b,.int .i64 z,.int .i64 f]/\sV g ss ask int f/\(f = 0->j6 g nn)/\Gr w w'/\(f = 0->∃ (k:Nat) (ps:List (fq × Lq aJ)),b = some k/\z = (ss.length:Int)/\Ya g nn ss ps/\St w' (mapA k (mV ps) :: aC (mO 2 cJ ps) :: all w)):=by
 refine AY (cG hg λk1 w1 gw a7 B=>?_);refine ⟨_,_,_,_,_,_,_,_,_,_,_,_,_,B.row (sub.refl _),(uB a7 hb).mono ?_⟩;rintro _ w2 ⟨o,c,ss,ask,int,f,rfl,hR,W⟩;have aI:Gr w1 w2:=aR 3 W.l;have hs:vN (hp w2) ss o:=nL W.l;clear W;refine ⟨_,_,_,_,_,_,rfl,ag (St.all w2) λb0 w3 h=>aU h rfl (by simp [aG]) λw4 h=>?_⟩;have a8:Gr w2 w4:=h.aW;have a4:au (hp w4) (aM b0) [.slice o ss.length c,.int .i64 ask,.int .i64 int]:=ah 0 h.l;clear h;have V:=aI.trans a8
 refine ae (λG=>?_) λG=>?_
 ·have G:f≠0:=by simpa using G
  exact ⟨ss,ask,int,f,[],none,0,rfl,hR,λh=>absurd h G,gw.trans V,λh=>absurd h G⟩
 have G:f = 0:=by simpa using G
 subst G;obtain ⟨hc,hA⟩:=hR.HZ rfl;have a6:=hA.xv hc;have bC:=hA.dn.2.1;obtain ⟨sT,sN,sP,_,_,_⟩:=hc.b9;have tl:=hg.t.1;refine ⟨_,_,_,_,_,_,_,_,_,_,_,_,_,B.row V,(V5 (a7.mono V) hb (fo.mono (gw.trans V) ht)).mono ?_⟩;rintro _ w5 ⟨d6,bA,bP,f2,nn,oS,cS,ds,rfl,b7,hn,Z,h⟩;obtain ⟨_,b3,_,_,ef,_⟩:=hR.one b7;subst ef;rw [Gc b3.symm] at Z;have ba:=hn rfl;refine ⟨_,_,_,_,rfl,ae (λG=>by simp at G) λ_=>?_⟩;obtain ⟨a1,_⟩:=CE hc hA
 have cb:ds.length<=24832:=by
  have:=congrArg List.length Z;rw [Y3,xN] at this;omega
 have ac:∀ l∈bz g nn ss,l.tm.length<=65:=λl hl=>by
  obtain ⟨b,_,rfl⟩:=Zh.1 hl;exact Zq J1 sT
 have hs:=hs.mono a8;have ab:∀ q∈ss,q.2.2.length<=130:=λq hq=>(a6 q hq).2;have pS:∀ n,n<=ss.length->(mC g ss n).length<=33536:=λn hn=>by have:=Gl (g:=g) ab n; omega
 have b5:∀ b∈ds,Ks b:=λb hb=>by
  have hm:jI b∈bz g nn ss:=by rw [<- Z]; exact aaO hb
  obtain ⟨q,m,_,cc,_,e⟩:=uW hm;have e:b.1.2 = (m:Int):=congrArg bK.prod e;unfold Ks; omega
 refine nD h λU w6 h=>?_;have h:St w6 (mapA U (mV ([] : List (fq × Lq aJ))) :: own 3 oS ds.length cS (c_ ds) :: aC (oQ ds) :: all w4):=dV h;have h:St w6 (mapA U (mV ([] : List (fq × Lq aJ))) :: aC (mO 2 cJ ([] : List (fq × Lq aJ))) :: own 3 oS ds.length cS (c_ ds) :: aC (oQ ds) :: all w4):=((St.flat (M:=[])).2 h).pick 2 [1,0];refine ⟨_,_,_,a4.cell0 (aR 4 h.l),λz w'=>∃ (q:Nat) (ps:List (fq × Lq aJ)),z = q/\q<=ss.length/\Cc ps (mC g ss q)/\St w' (mapA U (mV ps) :: aC (mO 2 cJ ps) :: own 3 oS ds.length cS (c_ ds) :: aC (oQ ds) :: all w4),λz _=>ss.length - z.toNat,⟨0,[],rfl,Y4 _,Cc.nil,h⟩,?_⟩;clear h;rintro _ _ w7 ⟨q,ps,rfl,hq,R,h⟩
 refine ae (λG=>?_) λG=>?_
 ·have G:q < ss.length:=by have:=YR G; omega
  obtain ⟨r,hr⟩ : ∃ r,ss[q]? = some r:=⟨_,YU G⟩;obtain ⟨ad,ho,rs,rk,re⟩:=hs q r hr;have a3:=YV hr;have c8:=ab r a3;have bG:=(a6 r a3).1;have ca:=pS q hq
  have eS:mC g ss (q + 1) = mC g ss q ++ (nO g q r.2.2 ++ uU q r.1.2):=by
   rw [Eh]; unfold zu; rw [hr]
  refine aq ho G ⟨_,_,_,_,_,_,rs.at (aR 4 h.l) rfl,ag h λaT w8 h=>aU h rfl (by simp [aG]) λw9 h=>⟨_,_,_,(ah 0 h.l).cell (sub.refl _) (j:=1) rfl,?_⟩⟩;refine ⟨λz w'=>∃ (k:Nat) (ps:List (fq × Lq aJ)),z = k/\k<=r.2.2.length/\Cc ps (mC g ss q ++ nO g q (r.2.2.take k))/\St w' (mapA U (mV ps) :: aC (mO 2 cJ ps) :: aH aT (N3 r) :: own 3 oS ds.length cS (c_ ds) :: aC (oQ ds) :: all w4),λz _=>r.2.2.length - z.toNat,⟨0,ps,rfl,Y4 _,by simpa [nO] using R,h.pick 3 [1,2,0]⟩,?_⟩;clear h R;rintro _ _ cz ⟨k,ps,rfl,hk,R,h⟩;have be:=AZ (g:=g) (q:=q) (es:=r.2.2.take k);rw [Zj] at be
  refine ae (λO=>?_) λO=>?_
  ·have O:k < r.2.2.length:=by have:=YR O; omega
   obtain ⟨e,ci,he,b4,bb⟩:=kC re O;have aa:r.2.2.take (k + 1) = r.2.2.take k ++ [e]:=by rw [Y2,he]; rfl
   refine aq b4 O ⟨_,_,bb.at (aR 5 h.l) rfl,ag h λc5 d0 h=>aU h rfl (by simp [aG]) λcB h=>⟨_,(ah 0 h.l).cell0 (sub.refl _),_,_,_,B.c0 (sub.trans V (aR 6 h.l)),ae (λW=>?_) λW=>?_⟩⟩
   ·have W:e.sym < (g.T:Int):=by have:=YR W; rw [<- tl] at this; exact this
    refine ⟨_,(ah 0 h.l).cell0 (sub.refl _),_,(ah 0 h.l).cell (sub.refl _) (j:=1) rfl,ag h λcu d5 h=>(Rn (q:=q) (t:=e.sym) (a:=⟨1,e.to⟩) (h.pick 2 [0]) R (by rw [Y0]; omega)).mono ?_⟩;rintro _ cD ⟨rfl,X,Y,h⟩;refine ⟨rfl,⟨ω,ω⟩,⟨k + 1,X,σ,O,?_,h⟩,bn O⟩;rw [aa,Ei,Y5 W,<- Y6];exact Y
   ·have W:¬ e.sym < (g.T:Int):=by have:=YS W; rw [<- tl] at this; exact this
    refine ⟨⟨ω,ω⟩,⟨k + 1,ps,σ,O,?_,h.tail⟩,bn O⟩;rw [aa,Ei,YZ W];exact R
  have O:k = r.2.2.length:=by have:=YS O; omega
  rw [O,Zi] at R;refine ⟨_,_,_,(ah 2 h.l).cell0 (sub.refl _),(Ru (rk.mono (aR 5 h.l)) ω).mono ?_⟩;rintro _ bT ⟨rfl,b2⟩;have h:=h.gr b2
  refine ⟨_,rfl,ae (λW=>ag h λcp c9 h=>(Rn (q:=q) (t:=0) (a:=⟨3,0⟩) h R (by rw [Y0]; have:=AZ (g:=g) (q:=q) (es:=r.2.2); omega)).mono ?_) λW=>?_⟩
  ·rintro _ cg ⟨rfl,X,Y,h⟩;refine ⟨rfl,⟨ω,ω⟩,⟨q + 1,X,σ,G,?_,h.pick 3 [0,1]⟩,bn G⟩;have ea:uU q r.1.2 = [(⟨(q:Int),0⟩,⟨3,0⟩)]:=by unfold uU; rw [Y5 (YR W)]
   rw [eS,ea,<- Y6];exact Y
  ·refine ⟨⟨ω,ω⟩,⟨q + 1,ps,σ,G,?_,h.pick 3 [0,1]⟩,bn G⟩;have ea:uU q r.1.2 = []:=by unfold uU; rw [YZ (YS W)]
   rw [eS,ea,Zm];exact R
 have G:q = ss.length:=by have:=YS G; omega
 subst G;have d3:=pS ss.length (Zc _);refine (Rt (h.pick 4 [2,3,0,1]) b5 ω).mono ?_;rintro _ cx ⟨rfl,ys,a5,bc,h⟩;have b1:ds.length = ys.length:=a5.length_eq.symm;rw [b1] at h ⊢;have pL:(ys.map jI).Perm (bz g nn ss):=by rw [<- Z]; exact a5.map _
 have sL:kH (·.prod) (ys.map jI):=by rw [kH,ZO]; exact bc
 have a9:∀ l∈ys.map jI,l.tm.length<=65:=λl hl=>ac l (pL.mem_iff.1 hl);have bi:∀ n,n<=ys.length->(qd (ys.map jI) n).length<=24832 * 65:=λn hn=>by have:=Gn a9 n; omega
 refine ⟨rfl,λz w'=>∃ (i:Nat) (ps:List (fq × Lq aJ)),z = i/\i<=ys.length/\Cc ps (mC g ss ss.length ++ qd (ys.map jI) i)/\St w' (mapA U (mV ps) :: aC (mO 2 cJ ps) :: own 3 oS ys.length cS (c_ ys) :: aC (oQ ys) :: all w4),λz _=>ys.length - z.toNat,⟨0,ps,rfl,Y4 _,by simpa [qd] using R,h.pick 4 [2,3,0,1]⟩,?_⟩;clear h R;rintro _ _ cC ⟨i,ps,rfl,hi,R,h⟩
 refine ae (λG=>?_) λG=>?_
 ·have G:i < ys.length:=by have:=YR G; omega
  obtain ⟨b,a0⟩ : ∃ b,ys[i]? = some b:=⟨_,YU G⟩;have a1:(ys.map jI)[i]? = some (jI b):=by rw [YW,a0]; rfl
  have d2:b.2.2.length<=65:=a9 (jI b) (YV a1);have d4:=bi i hi;obtain ⟨ad,ho,rb⟩:=LM (h.pick 3 [2,0,1]) a0;refine aq ho G ⟨_,_,_,_,_,rb.at (sub.refl _) rfl,ag h λam d1 h=>aU h rfl (by simp [aG]) λcm h=>⟨_,_,_,(ah 0 h.l).cell (sub.refl _) (j:=2) rfl,?_⟩⟩;refine ⟨λz w'=>∃ (k:Nat) (ps:List (fq × Lq aJ)),z = k/\k<=b.2.2.length/\Cc ps ((mC g ss ss.length ++ qd (ys.map jI) i) ++ uV (jI b) k)/\St w' (mapA U (mV ps) :: aC (mO 2 cJ ps) :: aH am (Xp b) :: own 3 oS ys.length cS (c_ ys) :: aC (oQ ys) :: all w4),λz _=>b.2.2.length - z.toNat,⟨0,ps,rfl,Y4 _,by simpa [uV] using R,h.pick 3 [1,2,0]⟩,?_⟩;clear h R rb;rintro _ _ c6 ⟨k,ps,rfl,hk,R,h⟩
  refine ae (λO=>?_) λO=>?_
  ·have O:k < b.2.2.length:=by have:=YR O; omega
   have rt:=Yy (h.pick 5 [4,0,1,2,3]) a0;obtain ⟨t,ck,ht1,b6,bd⟩:=rt.cY O;have c7:=Gm (l:=jI b) (n:=k);refine aw b6 O ⟨t,bd _ (sub.refl _),_,(ah 2 h.l).cell0 (sub.refl _),_,(ah 2 h.l).cell (sub.refl _) (j:=1) rfl,ag h λch cy h=>(Rn (q:=b.1.1) (t:=t) (a:=⟨2,b.1.2⟩) h R (by simp only [Y0]; omega)).mono ?_⟩;rintro _ cv ⟨rfl,X,Y,h⟩;refine ⟨rfl,⟨ω,ω⟩,⟨k + 1,X,σ,O,?_,h⟩,bn O⟩;rw [LL (show (jI b).tm[k]? = some t from ht1),<- Y6];exact Y
  ·have O:k = b.2.2.length:=by have:=YS O; omega
   refine ⟨⟨ω,ω⟩,⟨i + 1,ps,σ,G,?_,h.pick 3 [0,1]⟩,bn G⟩;rw [Ej a1,<- Y6];rw [O] at R;exact R
 have G:i = ys.length:=by have:=YS G; omega
 subst G;intro bl hd;have h:=h.eq (aE hd)
 refine ⟨λu=>hp u = hp bl,rfl,_,_,_,λu e=>a4.cell0 (by rw [e]; exact aR 4 h.l),ss,ask,int,0,nn,some U,_,rfl,hR,λ_=>ba,gw.trans (sub.trans V (aR 4 h.l)),λ_=>⟨U,ps,rfl,rfl,⟨R.1,λq t hq ht=>?_⟩,?_⟩⟩
 ·rw [R.2,show ys.length = (ys.map jI).length by simp];exact Xo hA pL sL hq ht
 ·exact St.Mr (h.pick 5 [0,1,4]) (bH (gw.trans V))
end
abbrev q9:=(Int × Int) × Lq aJ
def Rw (b:q9):List Value:=[.int .i64 b.1.1,.int .i64 b.1.2,bF b.2]
def rP (bs:List q9):List Value:=bs.flatMap Rw
def kR (bs:List q9):List az:=bs.map λb=>bB 2 cJ b.2
def jY (b:q9):bX:=⟨b.1.1,b.1.2,b.2.2⟩
def Xq (b:q9):fq × Lq aJ:=(⟨b.1.1,b.1.2⟩,b.2)
theorem M8 (bs:List q9):(rP bs).length = bs.length * 3:=om (f:=Rw) (n:=3) (λ_=>rfl) bs
theorem CI (xs ys:List q9):rP (xs ++ ys) = rP xs ++ rP ys:=ZB
theorem Kb {α : Type}:∀ {l1 l2:List α},l1.Nodup->(∀ x∈l1,x∈l2)->∃ l3,l2.Perm (l1 ++ l3)
 | [],l2,_,_=>⟨l2,.refl _⟩
 | a :: l1,l2,hn,hs=>by
  obtain ⟨h1,h2⟩:=ZR.1 hn
  obtain ⟨s,t,rfl⟩:=aaS (hs a σ)
  obtain ⟨l3,h3⟩:=Kb (l2:=s ++ t) h2 λx hx=>by
   have:=hs x (by simp [hx])
   simp only [YY,Ze] at this ⊢
   rcases this with h | rfl | h
   ·exact .inl h
   ·exact absurd hx h1
   ·exact .inr h
  exact ⟨l3,ZQ.trans (.cons a h3)⟩
section
variable {g:af} {nn:List Bool} {ss:List SQ} {least:Nat} {w:aa4} {L:List az}
theorem LO {ds:List q9} {ps:List (fq × Lq aJ)} {n:Nat} (hd:ds.map jY = h_ g nn ss least n) (hm:∀ d∈ds,Xq d∈ps) (h:St w (aC (mO 2 cJ ps) :: L)):St w (aC (kR ds) :: L):=by
 have R:(ds.map Xq).Nodup:=by
  have u:(ds.map jY).Pairwise bX.lt:=by rw [hd]; exact AP n
  rw [ZO] at u;rw [ZH,ZO];refine u.imp λ{a b} h e=>?_;have X:=congrArg (λz=>z.1.st) e;have W:=congrArg (λz=>z.1.tm) e;unfold bX.lt jY at h;simp only [Xq] at X W;simp only at h;omega
 obtain ⟨G,O⟩:=Kb R (l2:=ps) λx U=>by
  obtain ⟨d,hd,rfl⟩:=Zh.1 U;exact hm d hd
 have hp:(mO 2 cJ ps).Perm (kR ds ++ mO 2 cJ G):=by
  have:=O.map λq=>bB 2 cJ q.2;rw [Zg,aay] at this;exact this
 have u:=(St.flat.1 h).perm (hp.append_right _);rw [Y6] at u;have V:St w (aC (kR ds) :: (mO 2 cJ G ++ L)):=St.flat.2 u;have O:St w (mO 2 cJ G ++ (aC (kR ds) :: L)):=V.perm ZQ.symm;exact (St.flat.2 O).tail
theorem Ou (ps:List (fq × Lq aJ)) (p:fq):∃ e:Lq aJ,(assoc p (mV ps)).getD (.slice none 0 0) = bF e/\e.2 = gZ p ps/\(e.2≠[]->(p,e)∈ps):=by
 rw [g_];unfold gZ;cases h:dw p ps with
 | none=>exact ⟨((none,0),[]),rfl,rfl,λh=>absurd rfl h⟩
 | some e=>exact ⟨e,rfl,rfl,λ_=>DG h⟩
end
section
variable {w:aa4} {L:List az} {g:af} {x:GA}
theorem T1 {least:Nat} (hl1:1<=least) (hl2:least<=10) (hg:gR (hp w) g x) (hb:jd g) (ht:gA (hp w)):ρ Fh [.agg ⟨x.cells⟩,.int .i64 (least:Int)] w λv w'=>∃ (ss:List SQ) (ask int f:Int) (nn:List Bool) (o:aa3) (c:Nat) (ds:List q9),v = .tuple #[.slice o ds.length c,.int .i64 f]/\sV g ss ask int f/\(f = 0->j6 g nn)/\ds.map jY = gn g nn ss least/\St w' (own 3 o ds.length c (rP ds) :: aC (kR ds) :: all w):=by
 refine Cb (cG hg λk1 w1 gw a1 B=>?_);refine ⟨_,_,_,_,_,_,_,_,_,_,_,_,_,B.row (sub.refl _),(Rv a1 hb (fo.mono gw ht)).mono ?_⟩;rintro _ w2 ⟨ss,ask,int,f,nn,b,z,rfl,Y,hn,Z,R⟩
 refine ⟨_,_,_,rfl,ae (λu=>?_) λu=>?_⟩
 ·have u:f≠0:=by simpa using u
  have hz:=Y.nil u;subst hz;exact ⟨[],ask,int,f,[],none,0,[],rfl,Y,λh=>absurd h u,rfl,ay 3 ((St.flat (M:=[])).2 (St.here (gw.trans Z)))⟩
 have u:f = 0:=by simpa using u
 subst u;obtain ⟨hc,hA⟩:=Y.HZ rfl;obtain ⟨k,ps,rfl,rfl,hG,h⟩:=R rfl;have a3:=hA.dn.2.1;obtain ⟨sT,sN,sP,_,_,_⟩:=hc.b9;have tl:=hg.t.1
 have a0:∀ n,n<=ss.length->(h_ g nn ss least n).length<=16640:=λn hn=>by
  have u:=AR (g:=g) (nn:=nn) (ss:=ss) (least:=least) (n:=n);have R:n * g.T<=256 * 65:=aaG ω sT;omega
 refine ⟨λo n c z w'=>∃ (q:Nat) (ds:List q9),z = q/\q<=ss.length/\n = ds.length/\ds.map jY = h_ g nn ss least q/\(∀ d∈ds,Xq d∈ps)/\St w' (own 3 o n c (rP ds) :: mapA k (mV ps) :: aC (mO 2 cJ ps) :: all w1),λ_ _ _ z _=>ss.length - z.toNat,⟨0,[],rfl,Y4 _,rfl,rfl,λd W=>by simp at W,ay 3 h⟩,?_⟩;clear h;rintro _ o6 _ c6 _ w3 ⟨q,ds,rfl,hq,rfl,G,O,h⟩;refine ae (λu=>?_) λu=>?_
 rotate_left
 ·have u:q = ss.length:=by have:=YS u; omega
  subst u;have h:=LO G O (h.pick 3 [2,0]);exact ⟨ss,ask,int,0,nn,_,_,ds,rfl,Y,hn,G,St.Mr (h.pick 2 [1,0]) (bH gw)⟩
 have u:q < ss.length:=by have:=YR u; omega
 have a6:=a0 q hq;refine ⟨_,_,_,B.c0 (aR 3 h.l),λo n c z w'=>∃ (t:Nat) (ds:List q9),z = t/\t<=g.T/\n = ds.length/\ds.map jY = h_ g nn ss least q ++ jy g nn ss least q t/\(∀ d∈ds,Xq d∈ps)/\St w' (own 3 o n c (rP ds) :: mapA k (mV ps) :: aC (mO 2 cJ ps) :: all w1),λ_ _ _ z _=>g.T - z.toNat,⟨0,ds,rfl,Y4 _,rfl,by rw [G]; simp [jy],O,h⟩,?_⟩;clear h G O;rintro _ o8 _ c8 _ w4 ⟨t,U,rfl,a5,rfl,G,O,h⟩
 have a9:U.length<=17000:=by
  have e:=congrArg List.length G;rw [Y3,Y0] at e;have:=AQ (g:=g) (nn:=nn) (ss:=ss) (least:=least) (q:=q) (n:=t);omega
 refine ae (λR=>?_) λR=>?_
 rotate_left
 ·have R:t = g.T:=by have:=YS R; rw [<- tl] at this; have e:g.T = g.terms.length:=rfl; omega
  refine ⟨⟨ω,ω⟩,⟨q + 1,U,σ,u,rfl,?_,O,h⟩,bn u⟩;rw [G,R,q8]
 have R:t < g.T:=by have:=YR R; rw [<- tl] at this; have e:g.T = g.terms.length:=rfl; omega
 obtain ⟨e,e1,X,e3⟩:=Ou ps ⟨(q:Int),(t:Int)⟩;rw [hG.2 q t u R] at X;refine (nH (κ:=fq) aQ (rfl:aj Ty _ = .map _ _) Gk rfl rfl (h.pick 2 [1,0]) ⟨(q:Int),(t:Int)⟩).mono ?_;rintro _ w5 ⟨rfl,rfl⟩;rw [e1];refine ⟨_,_,_,rfl,ae (λV=>?_) λV=>?_⟩
 rotate_left
 ·have V:¬ least<=(cM g nn ss q t).length:=by have:=YS V; rw [X] at this; omega
  refine ⟨⟨ω,ω⟩,⟨t + 1,U,σ,R,rfl,?_,O,h⟩,bn R⟩;rw [jX,show cellAt g nn ss least q t = [] by unfold cellAt; rw [YZ V],Zm];exact G
 have V:least<=(cM g nn ss q t).length:=by have:=YR V; rw [X] at this; omega
 refine ag h λa4 w6 h=>?_;refine (aL (us:=rP U) aQ (rfl:aj Ty _ = .slice _) (rfl:aj Ty _ = .slice _) rfl rfl rfl h rfl (by simp [aG]) (by show (U.length + 1) * 40<=_; omega) ω).mono ?_;rintro _ w7 ⟨a8,a7,rfl,h⟩
 refine ⟨_,_,_,rfl,⟨ω,ω⟩,⟨t + 1,U ++ [(((q:Int),(t:Int)),e)],σ,R,σ,?_,λd W=>?_,?_⟩,bn R⟩
 ·rw [Zg,G,jX,Y6];congr 2;unfold cellAt;rw [Y5 V,<- X];rfl
 ·rcases YY.1 W with W | W
  ·exact O d W
  ·rw [Zl] at W;subst W;exact e3 λhh=>by rw [hh] at X; rw [<- X] at V; simp at V; omega
 ·rw [CI];exact h.pick 2 [0]
theorem Rx (hg:gR (hp w) g x) (hb:jd g) (ht:gA (hp w)):ρ Ep [.agg ⟨x.cells⟩] w λv w'=>∃ (ss:List SQ) (ask int f:Int) (nn:List Bool) (o:aa3) (c:Nat) (ds:List q9),v = .tuple #[.slice o ds.length c,.int .i64 f]/\sV g ss ask int f/\(f = 0->j6 g nn)/\ds.map jY = gn g nn ss 1/\St w' (own 3 o ds.length c (rP ds) :: aC (kR ds) :: all w):=by
 refine AW (cG hg λV R gw z B=>?_);refine ⟨_,_,_,_,_,_,_,_,_,_,_,_,_,B.row (sub.refl _),(T1 (least:=1) (by decide) (by decide) z hb (fo.mono gw ht)).mono ?_⟩;rintro _ U ⟨ss,ask,int,f,nn,o,c,ds,rfl,O,G,u,h⟩;exact ⟨_,_,_,_,rfl,ss,ask,int,f,nn,o,c,ds,rfl,O,G,u,St.Mr h (bH gw)⟩
abbrev tf:FuncId:=16
def qe:bm:={ rngs:=[],loops:=[],joins:=[],blocks:=[] }
section
variable {a b c d e f:aa3} {i j k l m n o p q r s t:Nat} {A B C D E:Int} {w:aa4} {R:Value->WP}
theorem qf (h:new w (ψ a i j b k l c m n A d o p) λa b=>χ b (aM a) λc=>rE 39 [c] b λb c=>∃ d,b = vB d/\br (!d) (R (vU [vS none 0 0,iI 1]) c) (χ c (aM a) λb=>rE 43 [b] c λb c=>∃ d e f g h i,b = vU [vG [vS d e f,iI g,iI h],iI i]/\new c (oC [vS none 0 0,iI 0,iI 0] 45) λb c=>da c (aM b) [vS d e f,iI g,iI h] λc=>br (i != 0) (R (vU [vS none 0 0,iI i]) c) (∀ d,drawn c d->∃ (c:WP),c d/\∃ e f g h i j k l m n o p q,(∀ b,c b->rA b (aM a) 5 [vS e f g,vS h i j,vS k l m,iI n,vS o p q])/\∃ r s t u v,(∀ a,c a->rA a (aM b) 3 [vS r s t,iI u,iI v])/\∃ w x y z a0 a1 a2 a3 a4 a5 a6 a7 a8,(∀ b,c b->rA b (aM a) 5 [vS w x y,vS z a0 a1,vS a2 a3 a4,iI a5,vS a6 a7 a8])/\∃ a a9 b0 b1 b2,(∀ d,c d->rA d (aM b) 3 [vS a a9 b0,iI b1,iI b2])/\rE 45 [vG [vS w x y,vS z a0 a1,vS a2 a3 a4,iI a5,vS a6 a7 a8],vG [vS a a9 b0,iI b1,iI b2]] d λa b=>∃ d,a = vP d/\c b/\rE 46 [vP d] b λa b=>∃ d w x,a = vS d w x/\c b/\rE 44 [vG [vS e f g,vS h i j,vS k l m,iI n,vS o p q],vG [vS r s t,iI u,iI v],vS d w x] b λa b=>∃ d e f,a = vS d e f/\c b/\R (vU [vS d e f,iI 0]) b))):ρ 16 [φ a i j b k l c m n A d o p] w R:=rv Tryz.func16 qe (by kernel_rfl) h
abbrev zy:FuncId:=44
def wz:bm:={ rngs:=[],loops:=[(3,[(8,(.one (.int .i64)))]),(8,[(9,(.one .slice)),(10,(.one (.int .i64)))]),(11,[(9,(.one .slice)),(11,(.one (.int .i64)))])],joins:=[],blocks:=[] }
theorem wA (h:new w (ψ a i j b k l c m n A d o p) λa b=>new b (oC [vS e q r,iI B,iI C] 45) λb c=>∃ d e g,cL c (aM b) (vS d e g)/\tE (e:Int) (e:Int) 24/\new c (Obj.cells (Array.mk (ir (Int.toNat (e:Int)) [vS none 0 0])) 48) λc d=>τ [(8,aB)] λg h=>g 0 d/\∀ (_:ν) d i,g d i->br (decide (d < (s:Int))) (∀ a,drawn i a->∃ (b:WP),b a/\idx f s d 3 λj=>∃ k,(∀ a,b a->cL a j (iI k))/\idx f s d 3 λj=>∃ l,(∀ a,b a->cL a j (iI l))/\idx (some (aM c)) (Int.toNat (e:Int)) l 1 λj=>∃ l m n,(∀ a,b a->cL a j (vS l m n))/\idx f s d 3 λf=>∃ j o p q r,(∀ a,b a->rA a f 3 [iI j,iI o,vS p q r])/\new a (oC [iI j,iI o,vS p q r] 58) λa f=>b f/\rS (fe 48 (Array.mk [vS l m n,vS (some (aM a)) 1 1])) f λa f=>∃ j l m,a = vS j l m/\b f/\idx (some (aM c)) (Int.toNat (e:Int)) k 1 λa=>st1 f a (vS j l m) λa=>ax (d + 1)/\g (d + 1) a/\h (d + 1) a < h d i) (τ [(9,fD),(10,aB)] λd f=>d none 0 0 0 i/\∀ (_:ν) g h i j k,d g h i j k->∃ l m n,cL k (aM b) (vS l m n)/\br (decide (j < (m:Int))) (τ [(9,fD),(11,aB)] λl m=>l g h i 0 k/\∀ (_:ν) n o p q r,l n o p q r->∃ s t u,cL r (aM a) (vS s t u)/\br (decide (q < (t:Int))) (∀ d,drawn r d->∃ (f:WP),f d/\∃ g h i k s t u v w x y z a0,(∀ b,f b->rA b (aM a) 5 [vS g h i,vS k s t,vS u v w,iI x,vS y z a0])/\∃ a a1 a2 a3 a4,(∀ c,f c->rA c (aM b) 3 [vS a a1 a2,iI a3,iI a4])/\idx (some (aM c)) (Int.toNat (e:Int)) j 1 λb=>∃ c e a5,(∀ a,f a->cL a b (vS c e a5))/\rE 79 [vG [vS g h i,vS k s t,vS u v w,iI x,vS y z a0],vG [vS a a1 a2,iI a3,iI a4],vS c e a5,iI j,iI q] d λa b=>∃ c d e,a = vS c d e/\f b/\br (decide (0 < (d:Int))) (new b (oC [iI j,iI q,vS c d e] 60) λa b=>rS (fe 29 (Array.mk [vS n o p,vS (some (aM a)) 1 1])) b λa b=>∃ c d e,a = vS c d e/\ax (q + 1)/\l c d e (q + 1) b/\m c d e (q + 1) b < m n o p q r) (ax (q + 1)/\l n o p (q + 1) b/\m n o p (q + 1) b < m n o p q r)) (ax (j + 1)/\d n o p (j + 1) r/\f n o p (j + 1) r < f g h i j k)) (R (vS g h i) k))):ρ 44 [φ a i j b k l c m n A d o p,(.agg #[(.slice e q r),(.int .i64 B),(.int .i64 C)]),(.slice f s t)] w R:=rv Tryz.func44 wz (by kernel_rfl) h
abbrev q_:FuncId:=79
def oF:bm:={ rngs:=[],loops:=[(7,[(11,(.one .slice)),(14,(.one (.int .i64)))]),(12,[(11,(.one .slice)),(15,(.one (.int .i64)))]),(15,[(11,(.one .slice)),(16,(.one (.int .i64)))]),(19,[(11,(.one .slice)),(17,(.one (.int .i64)))])],joins:=[(5,[(11,(.one .slice))])],blocks:=[] }
theorem oG (h:new w (ψ a i j b k l c m n A d o p) λa b=>new b (oC [vS e q r,iI B,iI C] 45) λb c=>∃ d e g h i,rA c (aM b) 3 [vS d e g,iI h,iI i]/\rE 73 [vG [vS d e g,iI h,iI i],iI D,iI E] c λc d=>∃ e,c = iI e/\∃ (c:lP [(11,fD)]),br (decide (0 < E)) (br (decide (0<=e)) (new d (oC [iI 1,iI e] 62) λa b=>rS (fe 38 (Array.mk [vS none 0 0,vS (some (aM a)) 1 1])) b λa b=>∃ d e f,a = vS d e f/\c d e f b) (c none 0 0 d)) (c none 0 0 d)/\∀ (_:ν) d e g h,c d e g h->∃ c i j,cL h (aM b) (vS c i j)/\idx c i D 2 λb=>∃ c i j,cL h b (vS c i j)/\τ [(11,fD),(14,aB)] λb j=>b d e g 0 h/\∀ (_:ν) d e g h k,b d e g h k->br (decide (h < (i:Int))) (br (E == 0) (idx c i h 2 λa=>∃ f,cL k a (iI f)/\br (f == 0) (idx c i h 2 λa=>∃ c,cL k (Addr.add a 1) (iI c)/\br (c == 1) (new k (oC [iI 3,iI 0] 62) λa c=>rS (fe 38 (Array.mk [vS d e g,vS (some (aM a)) 1 1])) c λa c=>∃ f i l,a = vS f i l/\ax (h + 1)/\b f i l (h + 1) c/\j f i l (h + 1) c < j d e g h k) (ax (h + 1)/\b d e g (h + 1) k/\j d e g (h + 1) k < j d e g h k)) (ax (h + 1)/\b d e g (h + 1) k/\j d e g (h + 1) k < j d e g h k)) (ax (h + 1)/\b d e g (h + 1) k/\j d e g (h + 1) k < j d e g h k)) (τ [(11,fD),(15,aB)] λb c=>b d e g 1 k/\∀ (_:ν) d e g h i,b d e g h i->∃ j k l,cL i (Addr.add (aM a) 4) (vS j k l)/\br (decide (h < (k:Int))) (τ [(11,fD),(16,aB)] λa j=>a d e g 0 i/\∀ (_:ν) k l m n o,a k l m n o->br (decide (n < (s:Int))) (idx f s n 3 λb=>∃ c,cL o b (iI c)/\br (c != D) (ax (n + 1)/\a k l m (n + 1) o/\j k l m (n + 1) o < j k l m n o) (idx f s n 3 λb=>∃ c,cL o (Addr.add b 1) (iI c)/\br (c != h) (ax (n + 1)/\a k l m (n + 1) o/\j k l m (n + 1) o < j k l m n o) (τ [(11,fD),(17,aB)] λb c=>b k l m 0 o/\∀ (_:ν) d e g i p,b d e g i p->idx f s n 3 λq=>∃ r t u,cL p (Addr.add q 2) (vS r t u)/\br (decide (i < (t:Int))) (idx f s n 3 λa=>∃ f j k,cL p (Addr.add a 2) (vS f j k)/\idx f j i 1 λa=>∃ f,cL p a (iI f)/\br (f == E) (new p (oC [iI 2,iI h] 62) λa f=>rS (fe 38 (Array.mk [vS d e g,vS (some (aM a)) 1 1])) f λa f=>∃ h j k,a = vS h j k/\ax (i + 1)/\b h j k (i + 1) f/\c h j k (i + 1) f < c d e g i p) (ax (i + 1)/\b d e g (i + 1) p/\c d e g (i + 1) p < c d e g i p)) (ax (n + 1)/\a d e g (n + 1) p/\j d e g (n + 1) p < j k l m n o)))) (ax (h + 1)/\b k l m (h + 1) o/\c k l m (h + 1) o < c d e g h i)) (R (vS d e g) i))):ρ 79 [φ a i j b k l c m n A d o p,(.agg #[(.slice e q r),(.int .i64 B),(.int .i64 C)]),(.slice f s t),(.int .i64 D),(.int .i64 E)] w R:=rv Tryz.func79 oF (by kernel_rfl) h
end
end
def Ry (A:Nat->Nat->List aJ) (n T least:Nat):List bX:=(List.range n).flatMap λq=>(List.range T).flatMap λt=>if least<=(A q t).length then [⟨(q:Int),(t:Int),A q t⟩] else []
theorem M9 {g:af} {nn:List Bool} {ss ss' : List SQ} (h:bq ss = bq ss') (hk:ss.map (·.1.2) = ss'.map (·.1.2)) (q t:Nat):cM g nn ss q t = cM g nn ss' q t:=by
 have G:wo ss q t = wo ss' q t:=by unfold wo; rw [DU h]
 have z:J2 ss q t = J2 ss' q t:=by
  have u:=congrArg (λl=>l[q]?) hk;simp only [YW] at u;unfold J2;cases h1:ss[q]? with
  | none=>cases h2:ss'[q]? with
   | none=>rfl
   | some b=>rw [h1,h2] at u; cases u
  | some a=>cases h2:ss'[q]? with
   | none=>rw [h1,h2] at u; cases u
   | some b =>
    rw [h1,h2] at u;have e:a.1.2 = b.1.2:=Option.some.inj u
    show (if t = 0/\(⟨0,1⟩ : ai)∈a.1.2 then [(⟨3,0⟩ : aJ)] else []) = if t = 0/\(⟨0,1⟩ : ai)∈b.1.2 then [⟨3,0⟩] else []
    rw [e]
 unfold cM;rw [G,z,Gc h]
theorem Kc {g:af} {nn:List Bool} {ss ss' : List SQ} {least:Nat} (h:bq ss = bq ss') (hk:ss.map (·.1.2) = ss'.map (·.1.2)):gn g nn ss least = gn g nn ss' least:=by
 unfold gn h_ jy cellAt;rw [DV h];simp only [M9 h hk]
instance:qk bX:={ n:=3,rd:=λh x vs=>∃ (a:aa3) (c:Nat),vs = [.int .i64 x.st,.int .i64 x.tm,.slice a x.acts.length c]/\bh h x.acts a x.acts.length,mono:=λs ⟨a,c,e,r⟩=>⟨a,c,e,r.mono s⟩,len:=λ⟨_,_,e,_⟩=>by rw [e]; rfl }
section
variable {h:Hp} {w:aa4} {L:List az} {o:aa3} {l i c:Nat}
theorem vq {xs:List aJ} {a:aa3} (hl:xs.length = l) (r:fo a (cJ xs) h):bh h xs a l:=by
 refine ⟨hl,λi x z=>?_⟩
 rcases r with e | ⟨u,rfl,G⟩
 ·have O:=congrArg List.length e;rw [gi,ZJ] at O;have:=(YT.1 z).1; omega
 ·exact ⟨u,cf x,rfl,bY (n:=2) (λ_=>rfl) xs u G i x z,rfl⟩
theorem ib {xs:List aJ} {a:aa3} (r:bh h xs a l) (hi:i < l):∃ x ad,xs[i]? = some x/\a = some ad/\au h (ad.add (cE i 2)) (cf x):=by
 obtain ⟨x,ad,vs,z,G,u,e⟩:=r.get hi;rw [show vs = cf x from e] at u;exact ⟨x,ad,z,G,u⟩
theorem M_ {ds:List q9} (r:fo o (rP ds) h) (hd:∀ d∈ds,bh h d.2.2 d.2.1.1 d.2.2.length):bh h (ds.map jY) o ds.length:=by
 refine ⟨σ,λi x hi=>?_⟩;rw [YW] at hi;cases hb:ds[i]? with
 | none=>rw [hb] at hi; cases hi
 | some p =>
  rw [hb] at hi;simp only [ZY,Option.some.injEq] at hi;subst hi
  rcases r with e | ⟨u,e,z⟩
  ·have G:=congrArg List.length e;rw [M8,ZJ] at G;have:=(YT.1 hb).1; omega
  ·exact ⟨u,Rw p,e,bY (n:=3) (λ_=>rfl) ds u z i p hb,p.2.1.1,p.2.1.2,rfl,hd p (YV hb)⟩
theorem Et {xs:List bX} (r:bh h xs o l) (hi:i < l):∃ x ad a c,xs[i]? = some x/\o = some ad/\au h (ad.add (cE i 3)) [.int .i64 x.st,.int .i64 x.tm,.slice a x.acts.length c]/\bh h x.acts a x.acts.length:=by
 obtain ⟨x,ad,vs,z,O,G,a,R,rfl,u⟩:=r.get hi;exact ⟨x,ad,a,R,z,O,G,u⟩
end
section
variable {w:aa4} {L:List az} {g:af} {x:GA}
theorem LP : WN Tryz.prog ob dv { name := "Kind", type := dv, offset := 0, embedded := false, tag := "", pkgPath := "", byteOffset := 0 } { name := "To", type := dv, offset := 1, embedded := false, tag := "", pkgPath := "", byteOffset := 8 } where
 ht:=by kernel_rfl
 hf:=by kernel_rfl
 hi:=bJ
 ht0:=rfl
 ht1:=rfl
 n0:=by decide
 n1:=by decide
 o0:=rfl
 o1:=rfl
 sih:=Dp
theorem T2 (x y:aJ):decide (x = y) = decide (x.kind = y.kind/\x.to = y.to):=by cases x; cases y; simp
theorem Xr (w:aa4) (xo yo:Operand) (x y:aJ):Sem.run Tryz.prog (je .neq ob xo yo (.agg ⟨cf x⟩) (.agg ⟨cf y⟩)) w = .ok (.bool (!decide (x = y))) w:=by
 unfold je;rw [Sem.run_bind,run_eqGuard_agg w _ _ _ _ _ _ Dn];simp only [Result.andThen_ok];rw [run_neq_struct,T2]
 show ((Op.equal ob (.agg #[.int .i64 x.kind,.int .i64 x.to]) (.agg #[.int .i64 y.kind,.int .i64 y.to])).run Tryz.prog w).andThen _ = _
 rw [Lg LP];rfl
theorem Eu {α : Type} {xs ys:List α} (hl:xs.length = ys.length) (h:xs.take xs.length = ys.take xs.length):xs = ys:=by
 rw [Zi,hl,Zi] at h; exact h
abbrev Ew:FuncId:=31
def A0:bm:={ rngs:=[],loops:=[],joins:=[(2,[(32,(.one .bool))])],blocks:=[] }
section
variable {a b c d e:aa3} {i j k l m n o p q r:Nat} {A B C:Int} {w:aa4} {R:Value->WP}
theorem A2 (h:new w (ψ a i j b k l c m n A d o p) λa b=>∃ (c:lP [(32,jD)]),(χ b (aM a) λd=>rE 49 [d] b λb d=>∃ e,b = vB e/\br (!e) (c true d) (br (decide (B < 0)) (c true d) (∃ b e f,cL d (Addr.add (aM a) 4) (vS b e f)/\br (decide ((e:Int)<=B)) (c true d) (br (decide (C < 0)) (c true d) (∃ b e f,cL d (aM a) (vS b e f)/\c (decide ((e:Int)<=C)) d)))))/\∀ (_:ν) b d,c b d->br b (R (vU [iI 0,iI 1]) d) (χ d (aM a) λa=>rE 65 [a,iI B,iI C] d λa b=>∃ c,a = iI c/\R (vU [iI c,iI 0]) b)):ρ 31 [φ a i j b k l c m n A d o p,(.int .i64 B),(.int .i64 C)] w R:=rv Tryz.func31 A0 (by kernel_rfl) h
abbrev Ex:FuncId:=33
def A3:bm:={ rngs:=[],loops:=[],joins:=[(2,[(31,(.one .bool))])],blocks:=[] }
theorem A4 (h:new w (ψ a i j b k l c m n A d o p) λa b=>new b (oC [iI B,iI C,vS e q r] 60) λb c=>new c (oC [iI 0,iI 0] 62) λc d=>∃ (e:lP [(31,jD)]),(χ d (aM a) λc=>rE 49 [c] d λc d=>∃ f,c = vB f/\br (!f) (e true d) (∃ c,cL d (Addr.add (aM b) 1) (iI c)/\br (decide (c < 0)) (e true d) (∃ c,cL d (Addr.add (aM b) 1) (iI c)/\∃ f g h,cL d (aM a) (vS f g h)/\br (decide ((g:Int)<=c)) (e true d) (χ d (aM a) λa=>∃ c f g,cL d (Addr.add (aM b) 2) (vS c f g)/\rE 67 [a,vS c f g] d λa b=>∃ c,a = vB c/\e (!c) b))))/\∀ (_:ν) d f,e d f->br d (da f (aM c) [iI 0,iI 0] λa=>∃ b d,rA a (aM c) 2 [iI b,iI d]/\R (vU [vG [iI b,iI d],vS none 0 0,iI 1]) a) (χ f (aM a) λa=>∃ d e g h i,rA f (aM b) 3 [iI d,iI e,vS g h i]/\rE 68 [a,vG [iI d,iI e,vS g h i]] f λa b=>∃ d e f g h,a = vU [vG [iI d,iI e],vS f g h]/\new b (oC [iI 0,iI 0] 62) λa b=>da b (aM a) [iI d,iI e] λb=>∃ d e,rA b (aM a) 2 [iI d,iI e]/\da b (aM c) [iI d,iI e] λa=>∃ b d,rA a (aM c) 2 [iI b,iI d]/\R (vU [vG [iI b,iI d],vS f g h,iI 0]) a)):ρ 33 [φ a i j b k l c m n A d o p,(.agg #[(.int .i64 B),(.int .i64 C),(.slice e q r)])] w R:=rv Tryz.func33 A3 (by kernel_rfl) h
abbrev A5:FuncId:=37
def xQ:bm:={ rngs:=[],loops:=[(7,[(36,(.one (.int .i64)))]),(11,[(46,(.one (.int .i64)))]),(16,[(56,(.one (.int .i64)))]),(25,[(99,(.one (.int .i64)))])],joins:=[],blocks:=[] }
theorem xR (h:new w (ψ a i j b k l c m n A d o p) λa b=>new b (oC [vS none 0 0,vS none 0 0,vS none 0 0] 75) λb c=>χ c (aM a) λd=>rE 15 [d] c λc d=>∃ e f g h,c = vU [vS e f g,iI h]/\br (h != 0) (da d (aM b) [vS none 0 0,vS none 0 0,vS none 0 0] λa=>∃ c d e f g i j k l,rA a (aM b) 3 [vS c d e,vS f g i,vS j k l]/\R (vU [vG [vS c d e,vS f g i,vS j k l],iI h]) a) (χ d (aM a) λc=>rE 26 [c] d λc d=>∃ g h i j k l,c = vU [vG [vS g h i,iI j,iI k],iI l]/\new d (oC [vS none 0 0,iI 0,iI 0] 45) λc d=>da d (aM c) [vS g h i,iI j,iI k] λd=>new d (oC [vS none 0 0,vS none 0 0,vS none 0 0] 75) λd g=>∃ h i j,cL g (aM c) (vS h i j)/\τ [(36,aB)] λc j=>c 0 g/\∀ (_:ν) g k,c g k->br (decide (g < (i:Int))) (idx h i g 2 λb=>∃ e f h i l m,rA k b 2 [vS e f h,vS i l m]/\new k (oC [vS none 0 0,vS none 0 0] 54) λb n=>da n (aM b) [vS e f h,vS i l m] λe=>∃ f h i,cL e (Addr.add (aM a) 1) (vS f h i)/\tE (h:Int) (h:Int) 8/\new e (Obj.cells (Array.mk (ir (Int.toNat (h:Int)) [iI 0])) 3) λe f=>τ [(46,aB)] λi l=>i 0 f/\∀ (_:ν) f m,i f m->br (decide (f < (↑(Int.toNat (h:Int)):Int))) (idx (some (aM e)) (Int.toNat (h:Int)) f 1 λa=>st1 m a (iI (-1)) λa=>ax (f + 1)/\i (f + 1) a/\l (f + 1) a < l f m) (∃ f i l,cL m (Addr.add (aM b) 1) (vS f i l)/\τ [(56,aB)] λb l=>b 0 m/\∀ (_:ν) m n,b m n->br (decide (m < (i:Int))) (idx f i m 2 λc=>∃ d f,rA n c 2 [iI d,iI f]/\new n (oC [iI 0,iI 0] 56) λc g=>da g (aM c) [iI d,iI f] λd=>∃ f,cL d (aM c) (iI f)/\∃ g i j,cL d (aM a) (vS g i j)/\br (decide ((i:Int)<=f)) (∃ f,cL d (aM c) (iI f)/\∃ g i j,cL d (aM a) (vS g i j)/\ax (f - (i:Int))/\∃ a,cL d (Addr.add (aM c) 1) (iI a)/\idx (some (aM e)) (Int.toNat (h:Int)) (f - (i:Int)) 1 λc=>st1 d c (iI a) λa=>ax (m + 1)/\b (m + 1) a/\l (m + 1) a < l m n) (ax (m + 1)/\b (m + 1) d/\l (m + 1) d < l m n)) (∀ b,drawn n b->∃ (f:WP),f b/\∃ i l m,(∀ a,f a->cL a (aM d) (vS i l m))/\∃ n o p,(∀ b,f b->cL b (aM a) (vS n o p))/\tE (o:Int) (o:Int) 16/\new b (Obj.cells (Array.mk (ir (Int.toNat (o:Int)) [iI 0,iI 0])) 62) λa b=>f b/\new b (oC [vS (some (aM a)) (Int.toNat (o:Int)) (Int.toNat (o:Int))] 38) λa b=>f b/\rS (fe 70 (Array.mk [vS i l m,vS (some (aM a)) 1 1])) b λa b=>∃ i l m,a = vS i l m/\f b/\st1 b (aM d) (vS i l m) λa=>∃ b f i,cL a (Addr.add (aM d) 1) (vS b f i)/\new a (oC [vS (some (aM e)) (Int.toNat (h:Int)) (Int.toNat (h:Int))] 24) λa e=>rS (fe 71 (Array.mk [vS b f i,vS (some (aM a)) 1 1])) e λa b=>∃ e f h,a = vS e f h/\st1 b (Addr.add (aM d) 1) (vS e f h) λa=>ax (g + 1)/\c (g + 1) a/\j (g + 1) a < j g k))) (τ [(99,aB)] λc g=>c 0 k/\∀ (_:ν) h i,c h i->br (decide (h < (f:Int))) (idx e f h 3 λb=>∃ e f j k l,rA i b 3 [iI e,iI f,vS j k l]/\new i (oC [iI 0,iI 0,vS none 0 0] 60) λb m=>da m (aM b) [iI e,iI f,vS j k l] λe=>χ e (aM a) λa=>∃ f j k l m,rA e (aM b) 3 [iI f,iI j,vS k l m]/\rE 68 [a,vG [iI f,iI j,vS k l m]] e λa e=>∃ f j k l m,a = vU [vG [iI f,iI j],vS k l m]/\new e (oC [iI 0,iI 0] 62) λa e=>da e (aM a) [iI f,iI j] λe=>∀ f,drawn e f->∃ (e:WP),e f/\∃ j n o,(∀ a,e a->cL a (aM d) (vS j n o))/\∃ o,(∀ a,e a->cL a (aM b) (iI o))/\idx j n o 1 λj=>∃ n o p,(∀ a,e a->cL a j (vS n o p))/\∃ j,(∀ a,e a->cL a (Addr.add (aM b) 1) (iI j))/\∃ p q,(∀ b,e b->rA b (aM a) 2 [iI p,iI q])/\idx n o j 2 λa=>da f a [iI p,iI q] λa=>br (decide (0 < (l:Int))) (∃ e f j,cL a (Addr.add (aM d) 2) (vS e f j)/\∃ n,cL a (aM b) (iI n)/\∃ o,cL a (Addr.add (aM b) 1) (iI o)/\new a (oC [iI n,iI o,vS k l m] 60) λa b=>rS (fe 29 (Array.mk [vS e f j,vS (some (aM a)) 1 1])) b λa b=>∃ e f j,a = vS e f j/\st1 b (Addr.add (aM d) 2) (vS e f j) λa=>ax (h + 1)/\c (h + 1) a/\g (h + 1) a < g h i) (ax (h + 1)/\c (h + 1) a/\g (h + 1) a < g h i)) (∃ a c e f g h j k l,rA i (aM d) 3 [vS a c e,vS f g h,vS j k l]/\da i (aM b) [vS a c e,vS f g h,vS j k l] λa=>∃ c d e f g h i j k,rA a (aM b) 3 [vS c d e,vS f g h,vS i j k]/\R (vU [vG [vS c d e,vS f g h,vS i j k],iI 0]) a)))):ρ 37 [φ a i j b k l c m n A d o p] w R:=rv Tryz.func37 xQ (by kernel_rfl) h
abbrev A6:FuncId:=64
def xS:bm:={ rngs:=[],loops:=[(7,[(38,(.one (.int .i64)))]),(12,[(13,(.one .slice)),(52,(.one (.int .i64)))]),(24,[(99,(.one (.int .i64)))])],joins:=[],blocks:=[] }
theorem xT (h:new w (ψ a i j b k l c m n A d o p) λa b=>χ b (aM a) λc=>rE 37 [c] b λb c=>∃ d e f g h i j k l m,b = vU [vG [vS d e f,vS g h i,vS j k l],iI m]/\new c (oC [vS none 0 0,vS none 0 0,vS none 0 0] 75) λb c=>da c (aM b) [vS d e f,vS g h i,vS j k l] λc=>br (m != 0) (R (vU [Value.string (ByteArray.mk (Array.mk [])),iI m]) c) (χ c (aM a) λd=>rE 26 [d] c λc d=>∃ e f g h i j,c = vU [vG [vS e f g,iI h,iI i],iI j]/\new d (oC [vS none 0 0,iI 0,iI 0] 45) λc d=>da d (aM c) [vS e f g,iI h,iI i] λd=>new d (oC [vP none,vS none 0 0] 203) λd e=>∃ f g h,cL e (Addr.add (aM b) 2) (vS f g h)/\τ [(38,aB)] λb h=>b 0 e/\∀ (_:ν) e i,b e i->br (decide (e < (g:Int))) (idx f g e 3 λf=>∃ g j k l m,rA i f 3 [iI g,iI j,vS k l m]/\new i (oC [iI 0,iI 0,vS none 0 0] 60) λf n=>da n (aM f) [iI g,iI j,vS k l m] λg=>χ g (aM a) λj=>∃ k,cL g (Addr.add (aM f) 1) (iI k)/\rE 114 [j,iI k] g λg j=>∃ k l,g = vU [Value.string k,iI l]/\∃ g l m,cL j (Addr.add (aM f) 2) (vS g l m)/\τ [(13,fD),(52,aB)] λm n=>m none 0 0 0 j/\∀ (_:ν) j o p q r,m j o p q r->br (decide (q < (l:Int))) (idx g l q 2 λb=>∃ c d,rA r b 2 [iI c,iI d]/\new r (oC [iI 0,iI 0] 62) λb e=>da e (aM b) [iI c,iI d] λc=>∃ d,cL c (aM b) (iI d)/\br (d == 1) (new c (oC [Value.string (ByteArray.mk (Array.mk [115,104,105,102,116]))] 9) λa b=>rS (fe 23 (Array.mk [vS j o p,vS (some (aM a)) 1 1])) b λa b=>∃ c d e,a = vS c d e/\ax (q + 1)/\m c d e (q + 1) b/\n c d e (q + 1) b < n j o p q r) (br (d == 3) (new c (oC [Value.string (ByteArray.mk (Array.mk [97,99,99,101,112,116]))] 9) λa b=>rS (fe 23 (Array.mk [vS j o p,vS (some (aM a)) 1 1])) b λa b=>∃ c d e,a = vS c d e/\ax (q + 1)/\m c d e (q + 1) b/\n c d e (q + 1) b < n j o p q r) (χ c (aM a) λa=>∃ d,cL c (Addr.add (aM b) 1) (iI d)/\rE 115 [a,iI d] c λa b=>∃ c d,a = vU [Value.string c,iI d]/\(↑(ByteArray.size (ByteArray.mk (Array.mk [114,101,100,117,99,101,32]))):Int) + (↑(ByteArray.size c):Int)<=9223372036854775807/\new b (oC [Value.string (ByteArray.mk (Array.mk [114,101,100,117,99,101,32]) ++ c)] 9) λa b=>rS (fe 23 (Array.mk [vS j o p,vS (some (aM a)) 1 1])) b λa b=>∃ c d e,a = vS c d e/\ax (q + 1)/\m c d e (q + 1) b/\n c d e (q + 1) b < n j o p q r))) (∃ g,cL r (aM f) (iI g)/\rE 117 [iI g] r λg l=>∃ m,g = Value.string m/\(↑(ByteArray.size (ByteArray.mk (Array.mk [115,116,97,116,101,32]))):Int) + (↑(ByteArray.size m):Int)<=9223372036854775807/\(↑(ByteArray.size (ByteArray.mk (Array.mk [115,116,97,116,101,32]) ++ m)):Int) + (↑(ByteArray.size (ByteArray.mk (Array.mk [32,97,116,32]))):Int)<=9223372036854775807/\(↑(ByteArray.size (ByteArray.mk (Array.mk [115,116,97,116,101,32]) ++ m ++ ByteArray.mk (Array.mk [32,97,116,32]))):Int) + (↑(ByteArray.size k):Int)<=9223372036854775807/\(↑(ByteArray.size (ByteArray.mk (Array.mk [115,116,97,116,101,32]) ++ m ++ ByteArray.mk (Array.mk [32,97,116,32]) ++ k)):Int) + (↑(ByteArray.size (ByteArray.mk (Array.mk [58,32]))):Int)<=9223372036854775807/\rE 118 [vS j o p,Value.string (ByteArray.mk (Array.mk [44,32]))] l λg j=>∃ l,g = Value.string l/\(↑(ByteArray.size (ByteArray.mk (Array.mk [115,116,97,116,101,32]) ++ m ++ ByteArray.mk (Array.mk [32,97,116,32]) ++ k ++ ByteArray.mk (Array.mk [58,32]))):Int) + (↑(ByteArray.size l):Int)<=9223372036854775807/\(↑(ByteArray.size (ByteArray.mk (Array.mk [115,116,97,116,101,32]) ++ m ++ ByteArray.mk (Array.mk [32,97,116,32]) ++ k ++ ByteArray.mk (Array.mk [58,32]) ++ l)):Int) + (↑(ByteArray.size (ByteArray.mk (Array.mk [10]))):Int)<=9223372036854775807/\rE 116 [vP (some (aM d)),Value.string (ByteArray.mk (Array.mk [115,116,97,116,101,32]) ++ m ++ ByteArray.mk (Array.mk [32,97,116,32]) ++ k ++ ByteArray.mk (Array.mk [58,32]) ++ l ++ ByteArray.mk (Array.mk [10]))] j λg j=>∃ k l,g = vU [iI k,l]/\χ j (aM a) λg=>∃ k l m n o,rA j (aM c) 3 [vS k l m,iI n,iI o]/\∃ c p q r s,rA j (aM f) 3 [iI c,iI p,vS q r s]/\rE 119 [g,vG [vS k l m,iI n,iI o],vG [iI c,iI p,vS q r s]] j λc f=>∃ g j k,c = vS g j k/\τ [(99,aB)] λc k=>c 0 f/\∀ (_:ν) f l,c f l->br (decide (f < (j:Int))) (idx g j f 2 λb=>∃ e g,rA l b 2 [iI e,iI g]/\new l (oC [iI 0,iI 0] 104) λb h=>da h (aM b) [iI e,iI g] λe=>χ e (aM a) λa=>∃ g h,rA e (aM b) 2 [iI g,iI h]/\rE 120 [a,vG [iI g,iI h]] e λa b=>∃ e g,a = vU [Value.string e,iI g]/\(↑(ByteArray.size (ByteArray.mk (Array.mk [32,32]))):Int) + (↑(ByteArray.size e):Int)<=9223372036854775807/\(↑(ByteArray.size (ByteArray.mk (Array.mk [32,32]) ++ e)):Int) + (↑(ByteArray.size (ByteArray.mk (Array.mk [10]))):Int)<=9223372036854775807/\rE 116 [vP (some (aM d)),Value.string (ByteArray.mk (Array.mk [32,32]) ++ e ++ ByteArray.mk (Array.mk [10]))] b λa b=>∃ d e,a = vU [iI d,e]/\ax (f + 1)/\c (f + 1) b/\k (f + 1) b < k f l) (ax (e + 1)/\b (e + 1) l/\h (e + 1) l < h e i))) (rE 121 [vP (some (aM d))] i λa b=>∃ c,a = Value.string c/\R (vU [Value.string c,iI 0]) b))):ρ 64 [φ a i j b k l c m n A d o p] w R:=rv Tryz.func64 xS (by kernel_rfl) h
abbrev Ey:FuncId:=65
def A7:bm:={ rngs:=[],loops:=[],joins:=[],blocks:=[] }
theorem A8 (h:new w (ψ a i j b k l c m n A d o p) λa b=>new b (oC [iI 0,iI 0,iI 0,iI 0] 214) λb c=>da c (aM b) [iI 0,iI 2,iI 1,iI 3] λc=>∃ d e f,cL c (Addr.add (aM a) 4) (vS d e f)/\idx d e B 3 λd=>∃ e,cL c (Addr.add d 2) (iI e)/\∃ d f g,cL c (aM a) (vS d f g)/\idx d f C 2 λd=>∃ f,cL c (Addr.add d 1) (iI f)/\br (e == 0) (R (iI 0) c) (br (f == 0) (R (iI 0) c) (br (decide (f < e)) (R (iI 2) c) (br (decide (e < f)) (R (iI 1) c) (∃ d f g,cL c (Addr.add (aM a) 2) (vS d f g)/\ax (e - 1)/\idx d f (e - 1) 1 λa=>∃ d,cL c a (iI d)/\idx (some (aM b)) 4 d 1 λa=>∃ b,cL c a (iI b)/\R (iI b) c))))):ρ 65 [φ a i j b k l c m n A d o p,(.int .i64 B),(.int .i64 C)] w R:=rv Tryz.func65 A7 (by kernel_rfl) h
abbrev zz:FuncId:=67
def wB:bm:={ rngs:=[],loops:=[(3,[(5,(.one (.int .i64))),(11,(.one (.int .i64)))])],joins:=[(16,[(8,(.one (.int .i64)))])],blocks:=[] }
theorem wC (h:new w (ψ a i j b k l c m n A d o p) λa b=>τ [(5,aB),(11,aB)] λc d=>c (-1) 0 b/\∀ (_:ν) b f g,c b f g->br (decide (f < (q:Int))) (idx e q f 2 λe=>∃ h i,rA g e 2 [iI h,iI i]/\new g (oC [iI 0,iI 0] 62) λe j=>da j (aM e) [iI h,iI i] λh=>∃ (i:lP [(8,aB)]),(∃ b,cL h (aM e) (iI b)/\br (b == 1) (∃ a,cL h (Addr.add (aM e) 1) (iI a)/\br (decide (0<=a)) (i 0 h) (i (-1) h)) (br (b == 3) (∃ a,cL h (Addr.add (aM e) 1) (iI a)/\br (a == 0) (i 1 h) (i (-1) h)) (br (b == 2) (∃ b,cL h (Addr.add (aM e) 1) (iI b)/\br (decide (0 < b)) (∃ b,cL h (Addr.add (aM e) 1) (iI b)/\∃ c d f,cL h (Addr.add (aM a) 4) (vS c d f)/\br (decide (b < (d:Int))) (∃ a,cL h (Addr.add (aM e) 1) (iI a)/\ax (1 + a)/\i (1 + a) h) (i (-1) h)) (i (-1) h)) (i (-1) h))))/\∀ (_:ν) a e,i a e->br (decide (a<=b)) (R (vB false) e) (ax (f + 1)/\c a (f + 1) e/\d a (f + 1) e < d b f g)) (R (vB true) g)):ρ 67 [φ a i j b k l c m n A d o p,(.slice e q r)] w R:=rv Tryz.func67 wB (by kernel_rfl) h
abbrev zA:FuncId:=68
def wD:bm:={ rngs:=[],loops:=[],joins:=[],blocks:=[] }
theorem wE (h:new w (ψ a i j b k l c m n A d o p) λa b=>new b (oC [iI B,iI C,vS e q r] 60) λb c=>new c (oC [iI 0,iI 0] 62) λc d=>χ d (aM a) λa=>∃ e,cL d (Addr.add (aM b) 1) (iI e)/\∃ f g h,cL d (Addr.add (aM b) 2) (vS f g h)/\rE 122 [a,iI e,vS f g h] d λa b=>∃ d e f g,a = vU [vS d e f,vB g]/\br (decide (1 < (e:Int))) (∀ a,drawn b a->∃ (b:WP),b a/\idx d e 0 2 λg=>∃ h i,(∀ a,b a->rA a g 2 [iI h,iI i])/\rE 123 [vS d e f] a λa d=>∃ e f g,a = vS e f g/\b d/\da d (aM c) [iI h,iI i] λa=>∃ b d,rA a (aM c) 2 [iI b,iI d]/\R (vU [vG [iI b,iI d],vS e f g]) a) (br ((e:Int) == 1) (idx d e 0 2 λa=>∃ d e,rA b a 2 [iI d,iI e]/\da b (aM c) [iI d,iI e] λa=>∃ b d,rA a (aM c) 2 [iI b,iI d]/\R (vU [vG [iI b,iI d],vS none 0 0]) a) (br g (da b (aM c) [iI 4,iI 0] λa=>∃ b d,rA a (aM c) 2 [iI b,iI d]/\R (vU [vG [iI b,iI d],vS none 0 0]) a) (da b (aM c) [iI 0,iI 0] λa=>∃ b d,rA a (aM c) 2 [iI b,iI d]/\R (vU [vG [iI b,iI d],vS none 0 0]) a)))):ρ 68 [φ a i j b k l c m n A d o p,(.agg #[(.int .i64 B),(.int .i64 C),(.slice e q r)])] w R:=rv Tryz.func68 wD (by kernel_rfl) h
abbrev Ez:FuncId:=122
def A9:bm:={ rngs:=[],loops:=[(7,[(8,(.one .bool)),(9,(.one .bool)),(10,(.one .slice)),(29,(.one (.int .i64)))])],joins:=[(2,[(23,(.one .bool))])],blocks:=[] }
theorem A_ (h:new w (ψ a i j b k l c m n A d o p) λa b=>∃ (c:lP [(23,jD)]),br ((q:Int) == 0) (c true b) (idx e q 0 2 λa=>∃ d,cL b a (iI d)/\c (d != 1) b)/\∀ (_:ν) b d,c b d->br b (rE 176 [vS e q r] d λa b=>∃ c d e,a = vS c d e/\R (vU [vS c d e,vB false]) b) (lR e q r (some 1) none none 2 λ(b:aa3) (c _:Nat)=>τ [(8,jD),(9,jD),(10,fD),(29,aB)] λf g=>f true false none 0 0 0 d/\∀ (_:ν) d h i j k l m,f d h i j k l m->br (decide (l < (c:Int))) (idx b c l 2 λb=>∃ c e,rA m b 2 [iI c,iI e]/\new m (oC [iI 0,iI 0] 62) λb n=>da n (aM b) [iI c,iI e] λc=>∃ e,cL c (aM b) (iI e)/\br (e == 2) (χ c (aM a) λa=>∃ e,cL c (Addr.add (aM b) 1) (iI e)/\rE 65 [a,iI e,iI B] c λa c=>∃ e,a = iI e/\br (e == 3) (ax (l + 1)/\f false true i j k (l + 1) c/\g false true i j k (l + 1) c < g d h i j k l m) (br (e == 2) (∃ a e,rA c (aM b) 2 [iI a,iI e]/\new c (oC [iI a,iI e] 62) λa b=>rS (fe 38 (Array.mk [vS i j k,vS (some (aM a)) 1 1])) b λa b=>∃ c e n,a = vS c e n/\ax (l + 1)/\f false h c e n (l + 1) b/\g false h c e n (l + 1) b < g d h i j k l m) (br (e == 0) (∃ a e,rA c (aM b) 2 [iI a,iI e]/\new c (oC [iI a,iI e] 62) λa b=>rS (fe 38 (Array.mk [vS i j k,vS (some (aM a)) 1 1])) b λa b=>∃ c e n,a = vS c e n/\ax (l + 1)/\f d h c e n (l + 1) b/\g d h c e n (l + 1) b < g d h i j k l m) (ax (l + 1)/\f d h i j k (l + 1) c/\g d h i j k (l + 1) c < g d h i j k l m)))) (br (0 == 3) (ax (l + 1)/\f false true i j k (l + 1) c/\g false true i j k (l + 1) c < g d h i j k l m) (br (0 == 2) (∃ a e,rA c (aM b) 2 [iI a,iI e]/\new c (oC [iI a,iI e] 62) λa b=>rS (fe 38 (Array.mk [vS i j k,vS (some (aM a)) 1 1])) b λa b=>∃ c e n,a = vS c e n/\ax (l + 1)/\f false h c e n (l + 1) b/\g false h c e n (l + 1) b < g d h i j k l m) (br (0 == 0) (∃ a e,rA c (aM b) 2 [iI a,iI e]/\new c (oC [iI a,iI e] 62) λa b=>rS (fe 38 (Array.mk [vS i j k,vS (some (aM a)) 1 1])) b λa b=>∃ c e n,a = vS c e n/\ax (l + 1)/\f d h c e n (l + 1) b/\g d h c e n (l + 1) b < g d h i j k l m) (ax (l + 1)/\f d h i j k (l + 1) c/\g d h i j k (l + 1) c < g d h i j k l m))))) (br d (idx e q 0 2 λa=>∃ b c,rA m a 2 [iI b,iI c]/\new m (oC [iI b,iI c] 62) λa b=>rE 177 [vS i j k,iI 0,vS (some (aM a)) 1 1] b λa b=>∃ c d e,a = vS c d e/\R (vU [vS c d e,vB h]) b) (R (vU [vS i j k,vB h]) m)))):ρ 122 [φ a i j b k l c m n A d o p,(.int .i64 B),(.slice e q r)] w R:=rv Tryz.func122 A9 (by kernel_rfl) h
def fQ:bm:={ rngs:=[],loops:=[],joins:=[],blocks:=[] }
theorem fR (h:lR a i j none (some (i:Int)) (some (i:Int)) 2 λ(a:aa3) (b c:Nat)=>R (vS a b c) w):ρ 123 [(.slice a i j)] w R:=rv Tryz.func123 fQ (by kernel_rfl) h
abbrev gl:FuncId:=176
def fB:bm:={ rngs:=[],loops:=[],joins:=[],blocks:=[] }
theorem fC (h:br (Option.isNone a) (R (vS none 0 0) w) (new w (oC [] 62) λb c=>rS (fe 38 (Array.mk [vS (some (aM b)) 0 0,vS a i j])) c λa b=>∃ c d e,a = vS c d e/\R (vS c d e) b)):ρ 176 [(.slice a i j)] w R:=rv Tryz.func176 fB (by kernel_rfl) h
abbrev fS:FuncId:=177
def ft:bm:={ rngs:=[],loops:=[],joins:=[],blocks:=[] }
theorem fu (h:lR a i j (some A) none none 2 λ(_:aa3) (_ _:Nat)=>br ((k:Int) == 0) (R (vS a i j) w) (br (A == (i:Int)) (rS (fe 38 (Array.mk [vS a i j,vS b k l])) w λa b=>∃ c d e,a = vS c d e/\R (vS c d e) b) (ax ((i:Int) + (k:Int))/\rS (Builtin.cap_ (Array.mk [38]) 3 (Array.mk [vS a i j])) w λc d=>∃ e,c = iI e/\br (decide (e < (i:Int) + (k:Int))) (lR a i j none (some A) none 2 λ(c:aa3) (e f:Nat)=>ax ((i:Int) + (k:Int))/\ax ((i:Int) + (k:Int) - A)/\rS (Builtin.append_ (Array.mk [38,3]) 38 (Array.mk [vS c e f,iI ((i:Int) + (k:Int) - A)])) d λc d=>∃ e f g,c = vS e f g/\lR e f g (some A) none none 2 λ(c:aa3) (h m:Nat)=>rS (Builtin.copy_ (Array.mk [38,38]) 3 (Array.mk [vS c h m,vS b k l])) d λb c=>∃ d,b = iI d/\∀ b,drawn c b->∃ (c:WP),c b/\ax (A + (k:Int))/\lR e f g (some (A + (k:Int))) none none 2 λ(c:aa3) (d h:Nat)=>lR a i j (some A) none none 2 λ(a:aa3) (i j:Nat)=>rS (Builtin.copy_ (Array.mk [38,38]) 3 (Array.mk [vS c d h,vS a i j])) b λa b=>∃ c,a = iI c/\R (vS e f g) b) (ax ((i:Int) + (k:Int))/\lR a i j none (some ((i:Int) + (k:Int))) none 2 λ(a:aa3) (c e:Nat)=>ax (A + (k:Int))/\lR a c e (some (A + (k:Int))) none none 2 λ(f:aa3) (g h:Nat)=>U2 Proofs.Tryz.prog 230 [vS b k l,vS f g h] d λd f=>∃ g,d = vB g/\br (!g) (∀ d,drawn f d->∃ (f:WP),f d/\ax (A + (k:Int))/\lR a c e (some (A + (k:Int))) none none 2 λ(f:aa3) (g h:Nat)=>lR a c e (some A) none none 2 λ(i:aa3) (j m:Nat)=>rS (Builtin.copy_ (Array.mk [38,38]) 3 (Array.mk [vS f g h,vS i j m])) d λd f=>∃ g,d = iI g/\lR a c e (some A) none none 2 λ(d:aa3) (g h:Nat)=>rS (Builtin.copy_ (Array.mk [38,38]) 3 (Array.mk [vS d g h,vS b k l])) f λb d=>∃ f,b = iI f/\R (vS a c e) d) (lR a c e (some (i:Int)) none none 2 λ(d:aa3) (g h:Nat)=>rS (Builtin.copy_ (Array.mk [38,38]) 3 (Array.mk [vS d g h,vS b k l])) f λb d=>∃ f,b = iI f/\lR a c e (some A) none none 2 λ(b:aa3) (f g:Nat)=>rE 231 [vS b f g,iI (k:Int)] d λb d=>b = vU []/\R (vS a c e) d))))):ρ 177 [(.slice a i j),(.int .i64 A),(.slice b k l)] w R:=rv Tryz.func177 ft (by kernel_rfl) h
end
end
theorem Rz {h:Hp} {xs:List aJ} {a:aa3} {l:Nat} (r:bh h xs a l):fo a (cJ xs) h:=by
 cases xs with
 | nil=>exact .inl rfl
 | cons x0 xs' =>
  obtain ⟨u,vs,rfl,_⟩:=r.2 0 x0 rfl;refine .inr ⟨u,rfl,vf (n:=2) (λ_=>rfl) _ u λi x G=>?_⟩;obtain ⟨O,vs,e,z,R⟩:=r.2 i x G;cases e;rw [show vs = cf x from R] at z;exact z
theorem Na (xs:List aJ):∀ v∈cJ xs,aG v = true:=λv hv=>by
 obtain ⟨x,_,hv⟩:=aaa.1 hv
 rcases Ze.1 hv with rfl | hv
 ·rfl
 ·rw [Zl] at hv; subst hv; rfl
section
variable {w:aa4} {L:List az} {g:af} {x:GA}
theorem RA {xs:List aJ} {a:aa3} {l c:Nat} (hr:bh (hp w) xs a l) (hb:l * 16<=140737488355328):ρ gl [.slice a l c] w λv w'=>∃ o c',v = .slice o l c'/\St w' (own 2 o l c' (cJ xs) :: all w):=by
 have z:=hr.1
 refine fC (ae (λh=>?_) λh=>?_)
 ·have O:a = none:=by simpa using h
  subst O
  have G:xs = []:=by
   cases xs with
   | nil=>rfl
   | cons x _=>obtain ⟨W,_,e,_⟩:=hr.2 0 x rfl; cases e
  subst G;have:l = 0:=z.symm;subst this;exact ⟨_,_,rfl,ay 2 (St.all w)⟩
 ·refine ag (St.all w) λk u h=>?_;have V:Gr w u:=h.aW;have h:St u (own 2 (some (aM k)) 0 0 [] :: all w):=dz (cs:=[]) h rfl rfl (Zc _);refine (qD (us:=[]) (news:=cJ xs) aQ (rfl:aj Ty _ = .slice _) (rfl:aj Ty _ = .slice _) rfl rfl rfl h (by rw [gi,z]) (by show 0 < 2; decide) (Rz (hr.mono V)) (Na xs) (by show (0 + l) * 16<=_; omega) ω).mono ?_;rintro _ U ⟨o,c',rfl,h⟩;refine ⟨_,_,_,rfl,o,c',σ,?_⟩;have R:St U (own 2 o (0 + l) c' (cJ xs) :: all w):=h;rwa [ZV] at R
theorem Ov {xs:List aJ} {y:aJ} {o:aa3} {c k:Nat} (h:St w (aH k (cf y) :: own 2 o xs.length c (cJ xs) :: L)) (hb:xs.length<=100000) :
  ρ fS [.slice o xs.length c,.int .i64 0,.slice (some (aM k)) 1 1] w λv w'=>∃ o' c',v = .slice o' (xs.length + 1) c'/\St w' (own 2 o' (xs.length + 1) c' (cJ (y :: xs)) :: L):=by
 obtain ⟨n,hn⟩ : ∃ n,n = xs.length:=⟨_,rfl⟩;have G:(cJ xs).length = n * 2:=by rw [gi,hn]
 have a0:=dI (h.pick 2 [1]);have he:cJ (y :: xs) = cf y ++ cJ xs:=rfl;have a6:0 < xs.length->xs≠[]:=λh e=>by rw [e] at h; simp at h
 rw [<- hn] at h a0 hb ⊢;rw [he];have hy:∀ u∈cf y,aG u = true:=by simp [cf,aG]
 have Y:=Na xs;have rk:fo (some (aM k)) (cf y) (hp w):=.inr ⟨_,rfl,ah 0 h.l⟩;obtain ⟨X,hX⟩ : ∃ X,X = cJ xs:=⟨_,rfl⟩;rw [<- hX] at h G Y ⊢
 refine fu (J9 a0 (yB σ (ae (λU=>?_) λU=>?_)))
 ·have U:n = 0:=by
   have:(0:Int) = (n:Int):=by simpa using U
   omega
  subst U;have e:X = []:=Y9 ω;subst e;refine (aL (us:=[]) aQ (rfl:aj Ty _ = .slice _) (rfl:aj Ty _ = .slice _) rfl rfl rfl h rfl hy (by show (0 + 1) * 16<=_; omega) ω).mono ?_;rintro _ w2 ⟨o',c',rfl,h⟩;exact ⟨_,_,_,rfl,o',c',rfl,by rw [Zm]; exact h.pick 2 [0]⟩
 have U:0 < n:=by
  have:¬ (0:Int) = (n:Int):=by simpa using U
  omega
 have i1:ax ((n:Int) + ((1:Nat):Int)):=⟨ω,ω⟩
 refine ⟨i1,⟨_,w,TY aQ (rfl:aj Ty _ = .slice _) o n c w,Ev.refl w,_,rfl,ae (λz=>?_) λz=>?_⟩⟩
 ·have z:c = n:=by have:=YR z; omega
  subst z;refine nJ (hi:=0) (Y4 _) ⟨i1,⟨ω,ω⟩,?_⟩;have ez:(c:Int) + ((1:Nat):Int) - 0 = ((c + 1:Nat):Int):=ω
  rw [ez];refine (Oo (i:=_) aQ (rfl:aj Ty _ = .slice _) (rfl:aj Ty _ = .int .i64) rfl rfl rfl (by show 0 < 2; decide) h ω ω (by show (c + 1) * 16<=_; omega) ω).mono ?_;rintro _ w3 ⟨o4,c4,us,rfl,R,h⟩;have R:us.length = (c + 1) * 2:=R;have h:St w3 (own 2 o4 (c + 1) c4 us :: aH k (cf y) :: own 2 o c c X :: L):=h;have V:=dI h;refine ⟨_,_,_,rfl,J9 V ?_⟩;have O:=CH (k:=0) (n:=1) (news:=cf y) (t:=38) (tx:=38) (ty:=3) aQ (rfl:aj Ty _ = .slice _) rfl (by show 0 < 2; decide) h rfl (.inr ⟨aM k,rfl,ah 1 h.l⟩) hy (by decide) ω (sl:=1) (dl:=c + 1) (c2:=1) (dc:=c4) (aak ω);rw [N6] at O;refine O.mono ?_;rintro _ w4 ⟨rfl,h⟩;refine ⟨_,rfl,λw5 hd=>?_⟩;have h:=h.drawn hd;refine ⟨λ_=>True,trivial,⟨ω,ω⟩,?_⟩;rw [show (0:Int) + ((1:Nat):Int) = ((1:Nat):Int) from rfl];refine ct (lo:=1) ω V (J9 (Zc _) ?_);have W:=CH (k:=1) (n:=c) (news:=X) (t:=38) (tx:=38) (ty:=3) aQ (rfl:aj Ty _ = .slice _) rfl (by show 0 < 2; decide) h G (dJ 2 h.l) Y U ω (sl:=c) (dl:=c + 1 - 1) (c2:=c) (dc:=c4 - 1) (by show min c (c + 1 - 1) = c; omega);refine W.mono ?_;rintro _ w6 ⟨rfl,h⟩;refine ⟨_,rfl,o4,c4,rfl,?_⟩;have h:St w6 (own 2 o4 (c + 1) c4 ((us.take (0 * 2) ++ cf y ++ us.drop (0 * 2 + (cf y).length)).take (1 * 2) ++ X ++ (us.take (0 * 2) ++ cf y ++ us.drop (0 * 2 + (cf y).length)).drop (1 * 2 + X.length)) :: aH k (cf y) :: own 2 o c c X :: L):=h;have e1:(us.take (0 * 2) ++ cf y ++ us.drop (0 * 2 + (cf y).length)).take (1 * 2) = cf y:=by simp [cf]
  have e2:(us.take (0 * 2) ++ cf y ++ us.drop (0 * 2 + (cf y).length)).drop (1 * 2 + X.length) = []:=List.drop_eq_nil_of_le (by simp [cf]; omega);rw [e1,e2,Zm] at h;exact h.pick 3 [0]
 have z:n + 1<=c:=by have:=YS z; omega
 obtain ⟨us,R,h⟩:=Rm (m:=1) (h.pick 2 [1,0]) z;refine ⟨i1,nJ (hi:=n + 1) z ⟨⟨ω,ω⟩,?_⟩⟩;rw [N6,show (0:Int) + ((1:Nat):Int) = ((1:Nat):Int) from rfl];refine ct (lo:=1) ω z ?_
 rcases cX h with ⟨_,he,_,_⟩ | ⟨b,pre,cs,a5,rfl,a1,_,_,_⟩
 ·omega
 have Z:fT (some ⟨b,pre.length,none⟩) 1 c 2 = some ⟨b,pre.length + 2,none⟩:=by
  unfold fT;rw [YZ ω]
  show some (Addr.add ⟨b,pre.length,none⟩ (1 * 2)) = _
  rw [add_lit]
 rw [Z];refine J_ (tR:=4) aQ jG (by kernel_rfl) (by kernel_rfl) (by kernel_rfl) (by kernel_rfl) (rfl:aj Ty 38 = .slice _) rfl (a1.pick 2 [1,0]) (λe=>by have:=congrArg List.length e; simp [G] at this; omega) ⟨_,rfl,vC rfl λw8 hd=>?_⟩;clear a1 Z;have h:=h.drawn hd;refine ⟨λ_=>True,trivial,⟨ω,ω⟩,ct (lo:=1) ω z (J9 z ?_)⟩
 have a4:fo (some ⟨b,pre.length,none⟩) X (hp w8):=by
  rcases dJ 0 h.l with e | ⟨ad,e,hr⟩
  ·have:=congrArg List.length e;simp [G] at this; omega
  ·exact .inr ⟨ad,e,λj v hj=>hr j v (by rw [Y8 (YT.1 hj).1]; exact hj)⟩
 have W:=CH (k:=1) (n:=n) (news:=X) (t:=38) (tx:=38) (ty:=3) aQ (rfl:aj Ty _ = .slice _) rfl (by show 0 < 2; decide) h G a4 Y U ω (sl:=n + 1) (dl:=n + 1 - 1) (c2:=c) (dc:=c - 1) (by show min (n + 1) (n + 1 - 1) = n; omega);refine W.mono ?_;rintro _ w9 ⟨rfl,h⟩;refine ⟨_,rfl,J9 z ?_⟩;have h:St w9 (own 2 (some ⟨b,pre.length,none⟩) (n + 1) c ((X ++ us).take (1 * 2) ++ X ++ (X ++ us).drop (1 * 2 + X.length)) :: aH k (cf y) :: L):=h;have e2:(X ++ us).drop (1 * 2 + X.length) = []:=List.drop_eq_nil_of_le (by simp [R]; omega);rw [e2,Zm] at h;have O:=CH (k:=0) (n:=1) (news:=cf y) (t:=38) (tx:=38) (ty:=3) aQ (rfl:aj Ty _ = .slice _) rfl (by show 0 < 2; decide) h rfl (.inr ⟨aM k,rfl,ah 1 h.l⟩) hy (by decide) ω (sl:=1) (dl:=n + 1) (c2:=1) (dc:=c) (aak ω);rw [N6] at O;refine O.mono ?_;rintro _ a3 ⟨rfl,h⟩;refine ⟨_,rfl,_,c,rfl,?_⟩;have h:St a3 (own 2 (some ⟨b,pre.length,none⟩) (n + 1) c (((X ++ us).take (1 * 2) ++ X).take (0 * 2) ++ cf y ++ ((X ++ us).take (1 * 2) ++ X).drop (0 * 2 + (cf y).length)) :: aH k (cf y) :: L):=h
 have e3:((X ++ us).take (1 * 2) ++ X).drop (0 * 2 + (cf y).length) = X:=by
  have:((X ++ us).take (1 * 2)).length = 2:=by simp; omega
  rw [show 0 * 2 + (cf y).length = ((X ++ us).take (1 * 2)).length from by rw [this]; rfl,List.drop_left]
 rw [e3,Nat.zero_mul,List.take_zero,Zz] at h;exact h.pick 2 [0]
theorem Gp {h:Hp} {ts:List jM} {a:aa3} {l i:Nat} (r:bh h ts a l) (hi:i < l):∃ t ad,ts[i]? = some t/\a = some ad/\au h (ad.add (cE i 2)) [.string t.name,.int .i64 t.level]:=by
 obtain ⟨t,ad,vs,O,z,G,u⟩:=r.get hi;exact ⟨t,ad,O,z,(show vs = _ from u) ▸ G⟩
theorem Gq {h:Hp} {ts:List aP} {a:aa3} {l i:Nat} (r:bh h ts a l) (hi:i < l):∃ t ad b m c,ts[i]? = some t/\a = some ad/\au h (ad.add (cE i 3)) [.int .i64 t.left,.slice b m c,.int .i64 t.level]/\m<=c/\bh h t.right b m:=by
 obtain ⟨t,ad,vs,R,G,O,b,m,c,u,U,z⟩:=r.get hi;subst u;exact ⟨t,ad,b,m,c,R,G,O,U,z⟩
theorem RB {p t:Nat} (hc:ak g) (hg:gR (hp w) g x) (hp1:p < g.prods.length) (ht:t < g.T):ρ Ey [.agg ⟨x.cells⟩,.int .i64 (p:Int),.int .i64 (t:Int)] w λv w'=>v = .int .i64 (d_ g p t)/\Gr w w':=by
 refine A8 (cG hg λk1 w1 gw a3 B=>ag (St.all w1) λk2 w2 h=>aU h rfl (by simp [aG]) λw3 h=>?_);have G:Gr w1 w3:=h.aW;have r2:au (hp w3) (aM k2) [.int .i64 0,.int .i64 2,.int .i64 1,.int .i64 3]:=ah 0 h.l;clear h;have u:=a3.mono G;have U:=gw.trans G;have pl:=u.p.1;have tl:=u.t.1;have ll:=u.l.1;have eT:g.T = g.terms.length:=rfl;obtain ⟨y,ad,_,_,_,hy,ha,ry,_,_⟩:=Gq u.p (i:=p) ω;obtain ⟨z,a6,hz,Z,rz⟩:=Gp u.t (i:=t) ω;have Y:TW g p = y.level:=by unfold TW; rw [hy]
 have X:V_ g t = z.level:=by unfold V_; rw [hz]
 obtain ⟨p0,p1⟩:=Rg hc hy;refine ⟨_,_,_,B.c4 G,aq ha ω ⟨_,ry.cell (sub.refl _) (j:=2) rfl,_,_,_,B.c0 G,aq Z ω ⟨_,rz.cell (sub.refl _) (j:=1) rfl,?_⟩⟩⟩;have fin:∀ z:Int,z = d_ g p t->(.int .i64 z:Value) = .int .i64 (d_ g p t)/\Gr w w3:=λz e=>⟨by rw [e],U⟩
 refine ae (λR=>fin _ ?_) λR=>ae (λO=>fin _ ?_) λO=>ae (λV=>fin _ ?_) λV=>ae (λW=>fin _ ?_) λW=>?_
 ·have R:y.level = 0:=by simpa using R
  unfold d_;rw [Y5 (.inl (by rw [Y]; exact R))]
 ·have O:z.level = 0:=by simpa using O
  unfold d_;rw [Y5 (.inr (by rw [X]; exact O))]
 ·have R:¬ y.level = 0:=by simpa using R
  have O:¬ z.level = 0:=by simpa using O
  have V:=YR V;unfold d_;rw [Y,X,YZ ω,Y5 V]
 ·have R:¬ y.level = 0:=by simpa using R
  have O:¬ z.level = 0:=by simpa using O
  have W:=YR W;unfold d_;rw [Y,X,YZ ω,YZ ω,Y5 W]
 have R:¬ y.level = 0:=by simpa using R
 have O:¬ z.level = 0:=by simpa using O
 have V:=YS V;have W:=YS W;obtain ⟨v,hv,ev,v1,v3⟩:=Rh hc (l:=y.level) ω p1;obtain ⟨a0,a1,rv⟩:=u.l.at hv
 have es:d_ g p t = if v = 1 then 2 else if v = 2 then 1 else 3:=by
  unfold d_;rw [Y,X,YZ ω,YZ V,YZ W,ev]
 have a7:=(YT.1 hv).1;have a5:=xj hc.2.1;refine ⟨_,_,_,B.c2 G,⟨ω,ω⟩,a0,a1,ω,ω,v,rv _ (sub.refl _),aM k2,rfl,ω,ω,?_⟩;rw [es];have a4:v = 1\/v = 2\/v = 3:=ω
 rcases a4 with rfl | rfl | rfl
 ·exact ⟨2,r2.cell (sub.refl _) (j:=1) rfl,rfl,U⟩
 ·exact ⟨1,r2.cell (sub.refl _) (j:=2) rfl,rfl,U⟩
 ·exact ⟨3,r2.cell (sub.refl _) (j:=3) rfl,rfl,U⟩
def Xs (g:af) (p t z f:Int):Prop:=(¬ (ak g/\0<=p/\p < g.prods.length/\0<=t/\t < g.T)/\z = 0/\f = 1)\/(ak g/\∃ i j:Nat,p = i/\t = j/\i < g.prods.length/\j < g.T/\z = d_ g i j/\f = 0)
theorem Wc {p t:Int} (hg:gR (hp w) g x) (hb:jd g):ρ Ew [.agg ⟨x.cells⟩,.int .i64 p,.int .i64 t] w λv w'=>∃ z f:Int,v = .tuple #[.int .i64 z,.int .i64 f]/\Xs g p t z f/\Gr w w':=by
 refine A2 (cG hg λk1 w1 gw U B=>?_);have pl:=U.p.1;have tl:=U.t.1;have eT:g.T = g.terms.length:=rfl
 refine ⟨λb u=>Gr w1 u/\(b = false↔(ak g/\0<=p/\p < g.prods.length/\0<=t/\t < g.T)),⟨_,_,_,_,_,_,_,_,_,_,_,_,_,B.row (sub.refl _),(yK U hb).mono ?_⟩,?_⟩
 ·rintro _ w2 ⟨⟨r,rfl,hr⟩,G⟩
  refine ⟨_,rfl,ae (λR=>⟨G,?_⟩) λR=>ae (λW=>⟨G,?_⟩) λW=>⟨_,_,_,B.c4 G,ae (λX=>⟨G,?_⟩) λX=>ae (λY=>⟨G,?_⟩) λY=>⟨_,_,_,B.c0 G,G,?_⟩⟩⟩
  ·have:r = false:=by simpa using R
   exact ⟨λh=>(by cases h),λh=>by rw [hr.2 h.1] at this; cases this⟩
  ·have:=YR W;exact ⟨λh=>(by cases h),λh=>ω⟩
  ·have:=YR X;exact ⟨λh=>(by cases h),λh=>ω⟩
  ·have:=YR Y;exact ⟨λh=>(by cases h),λh=>ω⟩
  ·have R:r = true:=by simpa using R
   have W:=YS W;have X:=YS X;have Y:=YS Y;refine ⟨λh=>?_,λh=>Zu ω⟩;have:=YS h;exact ⟨hr.1 R,ω,ω,ω,ω⟩
 rintro _ b w3 ⟨O,V⟩
 refine ae (λR=>?_) λR=>?_
 ·subst R;exact ⟨0,1,rfl,.inl ⟨λh=>(by cases V.2 h),rfl,rfl⟩,gw.trans O⟩
 subst R;obtain ⟨hc,p0,p1,t0,t1⟩:=V.1 rfl;obtain ⟨i,rfl⟩ : ∃ i:Nat,p = i:=⟨p.toNat,ω⟩;obtain ⟨j,rfl⟩ : ∃ j:Nat,t = j:=⟨t.toNat,ω⟩;refine ⟨_,_,_,_,_,_,_,_,_,_,_,_,_,B.row O,(RB hc (U.mono O) ω ω).mono ?_⟩;rintro _ w4 ⟨rfl,Z⟩;exact ⟨_,rfl,_,0,rfl,.inr ⟨hc,i,j,rfl,rfl,ω,ω,rfl,rfl⟩,gw.trans (O.trans Z)⟩
end
section
variable {g:af}
theorem Wd {n:Nat} (hn:1<=n) (a:aJ):tB n a<=n:=by
 unfold tB
 split
 ·omega
 ·split
  ·omega
  ·split <;> omega
theorem Ke {n:Nat} (hn:1<=n):∀ {l:List aJ} {last:Int},B9 n last l->l = []\/(l.length:Int) + last<=n
 | [],_,_=>.inl rfl
 | a :: l,last,h=>by
  right
  have h1:=h.1
  have h2:=Wd hn a
  rcases Ke hn h.2 with rfl | h3
  ·simp; omega
  ·rw [ZC]; omega
theorem Nb {n:Nat} (hn:1<=n) {l:List aJ} (h:uX n l):l.length<=n + 1:=by
 rcases Ke hn h with rfl | h
 ·simp
 ·omega
def Xt (g:af) (t:Int) (xs:List aJ) (a:aJ) (l:List aJ) (e:Int):Prop:=(¬ (ak g/\0<=t/\t < g.T/\uX g.prods.length xs)/\a = ⟨0,0⟩/\l = []/\e = 1)\/(ak g/\uX g.prods.length xs/\∃ j:Nat,t = j/\j < g.T/\a = rM (cW g j xs)/\l = lq (cW g j xs).1/\e = 0)
end
section
variable {w:aa4} {L:List az} {g:af} {x:GA}
theorem Ow {xs:List aJ} {a:aa3} {l c:Nat} (hg:gR (hp w) g x) (hb:jd g) (hr:bh (hp w) xs a l) (hl:l<=4611686018427387904):ρ zz [.agg ⟨x.cells⟩,.slice a l c] w λv w'=>v = .bool (decide (uX g.prods.length xs))/\Gr w w':=by
 have a1:=hr.1;have a3:=hb.2.2.2.1;refine wC (cG hg λk1 w1 gw a0 B=>?_);have pl:=a0.p.1;have hr:=hr.mono gw;refine ⟨λW z u=>∃ i:Nat,z = i/\i<=l/\(uX g.prods.length xs↔B9 g.prods.length W (xs.drop i))/\Gr w1 u,λ_ z _=>l - z.toNat,⟨0,rfl,Y4 _,by rw [List.drop_zero]; exact Iff.rfl,Gr.refl _⟩,?_⟩;rintro _ W _ w2 ⟨i,rfl,hi,ho,U⟩;refine ae (λV=>?_) λV=>?_
 rotate_left
 ·have V:i = l:=by have:=YS V; omega
  rw [List.drop_eq_nil_of_le ω] at ho;exact ⟨by rw [Zp (ho.2 trivial)],gw.trans U⟩
 have V:i < l:=by have:=YR V; omega
 obtain ⟨y,ad,hy,rfl,ry⟩:=ib (hr.mono U) V;rw [Om hy] at ho;refine aq rfl V ⟨_,_,ry.at (sub.refl _) rfl,ag (St.all w2) λk2 w3 h=>aU h rfl (by simp [aG]) λw4 h=>?_⟩;have r2:au (hp w4) (aM k2) [.int .i64 y.kind,.int .i64 y.to]:=ah 0 h.l;have X:Gr w2 w4:=h.aW;clear h;have c0:=r2.cell0 (sub.refl _);have c1:=r2.cell (sub.refl _) (j:=1) rfl
 refine ⟨λr u=>r = tB g.prods.length y/\u = w4,⟨_,c0,ae (λG=>?_) λG=>ae (λO=>?_) λO=>ae (λR=>?_) λR=>?_⟩,?_⟩
 ·have G:y.kind = 1:=by simpa using G
  refine ⟨_,c1,ae (λO=>⟨?_,rfl⟩) λO=>⟨?_,rfl⟩⟩
  ·have O:=YR O;unfold tB; rw [Y5 ⟨G,O⟩]
  ·have O:=YS O;unfold tB; rw [YZ (λh=>O h.2),YZ ω,YZ ω]
 ·have G:¬ y.kind = 1:=by simpa using G
  have O:y.kind = 3:=by simpa using O
  refine ⟨_,c1,ae (λR=>⟨?_,rfl⟩) λR=>⟨?_,rfl⟩⟩
  ·have R:y.to = 0:=by simpa using R
   unfold tB; rw [YZ (λh=>G h.1),Y5 ⟨O,R⟩]
  ·have R:¬ y.to = 0:=by simpa using R
   unfold tB; rw [YZ (λh=>G h.1),YZ (λh=>R h.2),YZ ω]
 ·have G:¬ y.kind = 1:=by simpa using G
  have O:¬ y.kind = 3:=by simpa using O
  have R:y.kind = 2:=by simpa using R
  refine ⟨_,c1,ae (λY=>⟨_,c1,_,_,_,B.c4 (U.trans X),ae (λZ=>?_) λZ=>⟨?_,rfl⟩⟩) λY=>⟨?_,rfl⟩⟩
  ·have Y:=YR Y;have Z:=YR Z;refine ⟨_,c1,⟨ω,ω⟩,?_,rfl⟩;unfold tB; rw [YZ (λh=>G h.1),YZ (λh=>O h.1),Y5 ⟨R,Y,ω⟩]
  ·have Z:=YS Z;unfold tB; rw [YZ (λh=>G h.1),YZ (λh=>O h.1),YZ ω]
  ·have Y:=YS Y;unfold tB; rw [YZ (λh=>G h.1),YZ (λh=>O h.1),YZ ω]
 ·have G:¬ y.kind = 1:=by simpa using G
  have O:¬ y.kind = 3:=by simpa using O
  have R:¬ y.kind = 2:=by simpa using R
  refine ⟨?_,rfl⟩;unfold tB; rw [YZ (λh=>G h.1),YZ (λh=>O h.1),YZ (λh=>R h.1)]
 rintro _ _ _ ⟨rfl,rfl⟩
 refine ae (λG=>?_) λG=>?_
 ·have G:=YR G;exact ⟨by rw [Zu λh=>by have:=(ho.1 h).1; omega],gw.trans (U.trans X)⟩
 ·have G:=YS G;exact ⟨⟨ω,ω⟩,⟨i + 1,σ,V,ho.trans ⟨λh=>h.2,λh=>⟨ω,h⟩⟩,U.trans X⟩,bn V⟩
theorem We {xs:List aJ} {a:aa3} {c t:Nat} (hc:ak g) (hg:gR (hp w) g x) (hr:bh (hp w) xs a xs.length) (hcl:xs.length<=c) (ho:uX g.prods.length xs) (ht:t < g.T):ρ Ez [.agg ⟨x.cells⟩,.int .i64 (t:Int),.slice a xs.length c] w λv w'=>∃ (o:aa3) (c' : Nat),v = .tuple #[.slice o (cW g t xs).1.length c',.bool (cW g t xs).2]/\St w' (own 2 o (cW g t xs).1.length c' (cJ (cW g t xs).1) :: all w):=by
 obtain ⟨sT,sN,sP,ba,_,_⟩:=hc.b9;have b0:=Nb ω ho;refine A_ (cG hg λk1 w1 gw a9 B=>?_);have a1:=hr.mono gw
 refine ⟨λb u=>w1 = u/\(b = false↔∃ y r,xs = y :: r/\y.kind = 1),ae (λG=>⟨rfl,?_⟩) λG=>?_,?_⟩
 ·have G:xs.length = 0:=by
   have:(xs.length:Int) = 0:=by simpa using G
   omega
  have e:xs = []:=Y9 G;subst e;exact ⟨λh=>(by cases h),λ⟨_,_,h,_⟩=>(by cases h)⟩
 ·have G:0 < xs.length:=by
   have:¬ (xs.length:Int) = 0:=by simpa using G
   omega
  obtain ⟨y,ad,hy,rfl,ry⟩:=ib a1 G
  obtain ⟨r,ab⟩ : ∃ r,xs = y :: r:=by
   cases xs with
   | nil=>simp at G
   | cons z r=>simp at hy; subst hy; exact ⟨r,rfl⟩
  rw [show (cE 0 2) = 0 from rfl] at ry;refine iW rfl G ⟨_,by simpa [Addr.add] using ry.cell0 (sub.refl _),rfl,?_⟩;rw [ab]
  constructor
  ·intro h;exact ⟨y,r,rfl,by simpa using h⟩
  ·rintro ⟨y',r',e,h⟩;cases e;simpa using h
 rintro _ b _ ⟨rfl,hb⟩
 refine ae (λG=>(RA a1 ω).mono ?_) λG=>?_
 ·rintro _ w3 ⟨o,c',rfl,h⟩;subst G
  have e:cW g t xs = (xs,false):=by
   cases xs with
   | nil=>rfl
   | cons y r=>exact AU λhk=>by cases hb.2 ⟨y,r,rfl,hk⟩
  rw [e];exact ⟨_,_,_,rfl,o,c',rfl,St.nf h (bH gw)⟩
 obtain ⟨y0,r,rfl,ac⟩:=hb.1 G;clear hb G;rw [u4 ac];have a0:(y0 :: r).length = r.length + 1:=rfl;have am:bh (hp w1) r (fT a 1 c 2) ((y0 :: r).length - 1):=a1.drop (k:=1) (m:=c) σ hcl;refine ct (lo:=1) σ hcl ?_
 have a8:∀ i,((r.take i).filter (uZ g t)).length<=r.length:=λi=>by
  have G:=Zt (uZ g t) (r.take i);rw [Zj] at G;omega
 refine ⟨λb2 b3 o n c' z u=>∃ i:Nat,z = i/\i<=r.length/\b2 = (r.take i).all (wq g t)/\b3 = (r.take i).any (zG g t)/\n = ((r.take i).filter (uZ g t)).length/\St u (own 2 o n c' (cJ ((r.take i).filter (uZ g t))) :: all w1),λ_ _ _ _ _ z _=>r.length - z.toNat,⟨0,rfl,Y4 _,rfl,rfl,rfl,ay 2 (St.all w1)⟩,?_⟩;rintro _ b2 b3 o3 _ c3 _ w4 ⟨i,rfl,hi,W,Z,rfl,h⟩;have a6:Gr w1 w4:=aR 1 h.l;refine ae (λG=>?_) λG=>?_
 rotate_left
 ·have G:i = r.length:=by have:=YS G; rw [a0] at this; omega
  rw [G,Zi] at W Z h;have a7:=a8 r.length;rw [Zi] at a7;rw [G,Zi]
  refine ae (λO=>?_) λO=>?_
  ·obtain ⟨y,ad,hy,rfl,ry⟩:=ib (a1.mono a6) (show 0 < (y0 :: r).length by simp);simp only [aaK,Option.some.injEq] at hy;subst hy;rw [show (cE 0 2) = 0 from rfl,show ad.add 0 = ad from by simp [Addr.add]] at ry;refine iW rfl σ ⟨_,_,ry.at (sub.refl _) rfl,ag h λbd b1 h=>(Ov (y:=y0) h ω).mono ?_⟩;rintro _ b4 ⟨o',c',rfl,h⟩;rw [O] at W;rw [Y5 W.symm,Z];exact ⟨_,_,_,rfl,o',c',rfl,St.nf h (bH gw)⟩
  ·rw [O] at W;rw [YZ (by rw [<- W]; simp),Z,Zz];exact ⟨_,_,rfl,St.nf h (bH gw)⟩
 have G:i < r.length:=by have:=YR G; rw [a0] at this; omega
 obtain ⟨y,ad,hy,aa,ry⟩:=ib (am.mono a6) (show i < (y0 :: r).length - 1 by rw [a0]; omega);have aT:y∈y0 :: r:=aaH _ (YV hy);have X:r.take (i + 1) = r.take i ++ [y]:=by rw [Y2,hy]; rfl
 have bb:=a8 i;have sd:uY g t y = if y.kind = 2 then d_ g y.to.toNat t else 0:=rfl
 -- the four ends of a round
 have a3:∀ {u:aa4} (R V : Bool),St u (own 2 o3 ((r.take i).filter (uZ g t)).length c3 (cJ ((r.take i).filter (uZ g t))) :: all w1)->uZ g t y = false->R = (b2 && wq g t y)->V = (b3 || zG g t y) ->
   ax ((i:Int) + 1)/\(∃ Y : Nat,(i:Int) + 1 = Y/\Y<=r.length/\R = (r.take Y).all (wq g t)/\V = (r.take Y).any (zG g t)/\((r.take i).filter (uZ g t)).length = ((r.take Y).filter (uZ g t)).length/\St u (own 2 o3 ((r.take i).filter (uZ g t)).length c3 (cJ ((r.take Y).filter (uZ g t))) :: all w1))/\r.length - ((i:Int) + 1).toNat < r.length - (i:Int).toNat:=λ{u} R V hu O U h4=>by
  have e:(r.take (i + 1)).filter (uZ g t) = (r.take i).filter (uZ g t):=by rw [X,Zs,aam (by rw [O]; simp)]; simp
  exact ⟨⟨ω,ω⟩,⟨i + 1,σ,G,by rw [X,aaM,<- W,U]; simp,by rw [X,List.any_append,<- Z,h4]; simp,by rw [e],by rw [e]; exact hu⟩,bn G⟩
 have more:∀ {u:aa4} {k:Nat} (R V : Bool),St u (aH k (cf y) :: own 2 o3 ((r.take i).filter (uZ g t)).length c3 (cJ ((r.take i).filter (uZ g t))) :: all w1)->uZ g t y = true->R = (b2 && wq g t y)->V = (b3 || zG g t y) ->
   bf Tryz.prog (Builtin.append_ (Array.mk [kM,kM]) kM (Array.mk [.slice o3 ((r.take i).filter (uZ g t)).length c3,.slice (some (aM k)) 1 1])) u λv u'=>∃ o4 n4 c4,v = .slice o4 n4 c4/\ax ((i:Int) + 1)/\(∃ Y : Nat,(i:Int) + 1 = Y/\Y<=r.length/\R = (r.take Y).all (wq g t)/\V = (r.take Y).any (zG g t)/\n4 = ((r.take Y).filter (uZ g t)).length/\St u' (own 2 o4 n4 c4 (cJ ((r.take Y).filter (uZ g t))) :: all w1))/\r.length - ((i:Int) + 1).toNat < r.length - (i:Int).toNat:=λ{u k} R V hu O U h4=>by
  have e:(r.take (i + 1)).filter (uZ g t) = (r.take i).filter (uZ g t) ++ [y]:=by rw [X,Zs,aal O]; simp
  refine (aL (us:=cJ ((r.take i).filter (uZ g t))) aQ (rfl:aj Ty _ = .slice _) (rfl:aj Ty _ = .slice _) rfl rfl rfl hu rfl (by simp [cf,aG]) (by show (((r.take i).filter (uZ g t)).length + 1) * 16<=_; omega) ω).mono ?_;rintro _ w9 ⟨o4,c4,rfl,h⟩;refine ⟨_,_,_,rfl,⟨ω,ω⟩,⟨i + 1,σ,G,by rw [X,aaM,<- W,U]; simp,by rw [X,List.any_append,<- Z,h4]; simp,by rw [e]; simp,?_⟩,bn G⟩;rw [e,zx];exact h.pick 2 [0]
 refine aq aa (by rw [a0]; omega) ⟨_,_,ry.at (sub.refl _) rfl,ag h λk8 w5 h=>aU h rfl (by simp [aG]) λw6 h=>?_⟩;have r8:au (hp w6) (aM k8) (cf y):=ah 0 h.l;have a5:Gr w1 w6:=aR 2 h.l;have c0:=r8.cell0 (sub.refl _)
 refine ⟨_,c0,ae (λO=>?_) λO=>?_⟩
 ·have O:y.kind = 2:=by simpa using O
  obtain ⟨be,b5⟩ : 0 < y.to/\y.to < g.prods.length:=by
   rcases Rj ho aT with ⟨h,_⟩ | ⟨h,_⟩ | ⟨_,h⟩
   ·omega
   ·omega
   ·exact h
  obtain ⟨p,hp⟩ : ∃ p:Nat,y.to = p:=⟨y.to.toNat,ω⟩;have es:uY g t y = d_ g p t:=by rw [sd,Y5 O,hp,Za]
  refine ⟨_,_,_,_,_,_,_,_,_,_,_,_,_,B.row a5,_,r8.cell (sub.refl _) (j:=1) rfl,?_⟩;rw [hp];refine (RB hc (a9.mono a5) ω ht).mono ?_;rintro _ w7 ⟨rfl,a4⟩;have h:=h.gr a4;have r8:=r8.mono a4;rw [<- es];have b6:=Rl (g:=g) t y
  refine ⟨_,rfl,ae (λU=>?_) λU=>ae (λh4=>?_) λh4=>ae (λh5=>?_) λh5=>?_⟩
  ·have U:uY g t y = 3:=by simpa using U
   exact a3 false true (h.pick 2 [1]) (Zu ω) (by rw [show wq g t y = false from Zu ω]; simp) (by rw [show zG g t y = true from Zp U]; simp)
  ·have U:¬ uY g t y = 3:=by simpa using U
   have h4:uY g t y = 2:=by simpa using h4
   refine ⟨_,_,r8.at (sub.refl _) rfl,ag (h.pick 2 [1]) λaI w8 h=>more false b3 h (Zp (.inr h4)) (by rw [show wq g t y = false from Zu ω]; simp) (by rw [show zG g t y = false from Zu U]; simp)⟩
  ·have h5:uY g t y = 0:=by simpa using h5
   refine ⟨_,_,r8.at (sub.refl _) rfl,ag (h.pick 2 [1]) λaI w8 h=>more b2 b3 h (Zp (.inl h5)) (by rw [show wq g t y = true from Zp ⟨ω,ω⟩]; simp) (by rw [show zG g t y = false from Zu ω]; simp)⟩
  ·have U:¬ uY g t y = 3:=by simpa using U
   have h4:¬ uY g t y = 2:=by simpa using h4
   have h5:¬ uY g t y = 0:=by simpa using h5
   exact a3 b2 b3 (h.pick 2 [1]) (Zu ω) (by rw [show wq g t y = true from Zp ⟨h4,U⟩]; simp) (by rw [show zG g t y = false from Zu U]; simp)
 ·have O:¬ y.kind = 2:=by simpa using O
  have es:uY g t y = 0:=by rw [sd,YZ O]
  refine yB rfl (yB rfl (vC rfl ⟨_,_,r8.at (sub.refl _) rfl,ag (h.pick 2 [1]) λb7 bc h=>more b2 b3 h (Zp (.inl es)) (by rw [show wq g t y = true from Zp ⟨ω,ω⟩]; simp) (by rw [show zG g t y = false from Zu ω]; simp)⟩))
theorem Gs {xs:List aJ} {a:aa3} {c t:Nat} {st:Int} (hc:ak g) (hg:gR (hp w) g x) (hr:bh (hp w) xs a xs.length) (hcl:xs.length<=c) (ho:uX g.prods.length xs) (ht:t < g.T):ρ zA [.agg ⟨x.cells⟩,.agg #[.int .i64 st,.int .i64 (t:Int),.slice a xs.length c]] w λv w'=>∃ (o:aa3) (c' : Nat),v = .tuple #[.agg ⟨cf (rM (cW g t xs))⟩,.slice o (lq (cW g t xs).1).length c']/\St w' (own 2 o (lq (cW g t xs).1).length c' (cJ (lq (cW g t xs).1)) :: all w):=by
 refine wE (cG hg λk1 W gw a0 B=>ag (St.all W) λk2 w2 h=>ag h λk3 w3 h=>?_);have R:Gr W w3:=aR 2 h.l;have r2:au (hp w3) (aM k2) [.int .i64 st,.int .i64 (t:Int),.slice a xs.length c]:=ah 1 h.l;refine ⟨_,_,_,_,_,_,_,_,_,_,_,_,_,B.row R,_,r2.cell (sub.refl _) (j:=1) rfl,_,_,_,r2.cell (sub.refl _) (j:=2) rfl,(We hc (a0.mono R) (hr.mono (gw.trans R)) hcl ho ht).mono ?_⟩;obtain ⟨l,hl⟩ : ∃ l,l = cW g t xs:=⟨_,rfl⟩;rw [<- hl];rintro _ w4 ⟨o,c',rfl,h4⟩;have h:St w4 (own 2 o l.1.length c' (cJ l.1) :: aH k3 [.int .i64 0,.int .i64 0] :: aH k2 [.int .i64 st,.int .i64 (t:Int),.slice a xs.length c] :: all W):=St.nf h4 h.l;clear h4;obtain ⟨l,b⟩:=l;have fr:∀ {u:aa4} {L' : List az} {h0:Hp},St u (L' ++ [has h0])->sub h0 (hp u):=λh=>St.gone h
 refine ⟨_,_,_,_,rfl,ae (λz=>?_) λz=>ae (λO=>?_) λO=>ae (λU=>?_) λU=>?_⟩
 ·have z:1 < l.length:=by have:(1:Int) < (l.length:Int):=YR z; omega
  have G:lq l = l:=by unfold lq; rw [Y5 ω]
  intro w5 hd;have h:=h.drawn hd
  obtain ⟨y,r,rfl⟩ : ∃ y r,l = y :: r:=by
   cases l with
   | nil=>simp at z
   | cons y r=>exact ⟨y,r,rfl⟩
  obtain ⟨Y,rfl⟩:=gV h (by rw [gi]; simp)
  have ry:au (hp w5) Y (cf y):=au.take (vs:=cJ r) (by
   rcases dJ 0 h.l with e | ⟨Z,e,hr⟩
   ·simp [cJ,cf] at e
   ·cases e; exact hr)
  refine ⟨λu=>Gr w5 u,Gr.refl _,iW rfl (by show 0 < (y :: r).length; simp) ⟨_,_,λu s=>ry.at s rfl,?_⟩⟩;have X:=dI h;refine fR (fL X ⟨_,_,_,rfl,Gr.refl _,?_⟩);refine aU ((fK h).pick 2 [1,0]) rfl (by simp [aG]) λV h=>⟨_,_,(ah 0 h.l).at (sub.refl _) rfl,?_⟩
  show ∃ (o:aa3) (c' : Nat),_/\St V (own 2 o (lq (y :: r)).length c' (cJ (lq (y :: r))) :: all w)
  rw [G];exact ⟨_,_,rfl,St.nf (h.pick 3 [1]) (bH gw)⟩
 ·have z:¬ 1 < l.length:=by have:¬ (1:Int) < (l.length:Int):=YS z; omega
  have O:l.length = 1:=by
   have:(l.length:Int) = 1:=by simpa using O
   omega
  have G:lq l = []:=by unfold lq; rw [YZ ω]
  obtain ⟨y,rfl⟩ : ∃ y,l = [y]:=by
   match l,O with
   | [y],_=>exact ⟨y,rfl⟩
  obtain ⟨Y,rfl⟩:=gV h (by rw [gi]; simp)
  have ry:au (hp w4) Y (cf y):=by
   rcases dJ 0 h.l with e | ⟨Z,e,hr⟩
   ·simp [cJ,cf] at e
   ·cases e; exact hr
  refine iW rfl σ ⟨_,_,ry.at (sub.refl _) rfl,aU (h.pick 2 [1]) rfl (by simp [aG]) λV h=>⟨_,_,(ah 0 h.l).at (sub.refl _) rfl,none,0,?_,?_⟩⟩
  ·rw [G]; rfl
  ·rw [G]; exact ay 2 (St.here (sub.trans gw (aR 2 h.l)))
 ·have z:¬ 1 < l.length:=by have:¬ (1:Int) < (l.length:Int):=YS z; omega
  have O:¬ l.length = 1:=by
   have:¬ (l.length:Int) = 1:=by simpa using O
   omega
  have e:l = []:=Y9 ω;subst e;have U:b = true:=U;subst U;refine aU (h.pick 2 [1]) rfl (by simp [aG]) λV h=>⟨_,_,(ah 0 h.l).at (sub.refl _) rfl,none,0,rfl,ay 2 (St.here (sub.trans gw (aR 2 h.l)))⟩
 ·have z:¬ 1 < l.length:=by have:¬ (1:Int) < (l.length:Int):=YS z; omega
  have O:¬ l.length = 1:=by
   have:¬ (l.length:Int) = 1:=by simpa using O
   omega
  have e:l = []:=Y9 ω;subst e;have U:b = false:=U;subst U;refine aU (h.pick 2 [1]) rfl (by simp [aG]) λV h=>⟨_,_,(ah 0 h.l).at (sub.refl _) rfl,none,0,rfl,ay 2 (St.here (sub.trans gw (aR 2 h.l)))⟩
theorem Wf {xs:List aJ} {a:aa3} {c:Nat} {st t:Int} (hg:gR (hp w) g x) (hb:jd g) (hr:bh (hp w) xs a xs.length) (hcl:xs.length<=c) (hl:xs.length<=4611686018427387904):ρ Ex [.agg ⟨x.cells⟩,.agg #[.int .i64 st,.int .i64 t,.slice a xs.length c]] w λv w'=>∃ (ac:aJ) (l:List aJ) (e:Int) (o:aa3) (c' : Nat),v = .tuple #[.agg ⟨cf ac⟩,.slice o l.length c',.int .i64 e]/\Xt g t xs ac l e/\St w' (own 2 o l.length c' (cJ l) :: all w):=by
 refine A4 (cG hg λk1 w1 gw U B=>ag (St.all w1) λk2 w2 h=>ag h λk3 w3 h=>?_);have G:Gr w1 w3:=aR 2 h.l;have r2:au (hp w3) (aM k2) [.int .i64 st,.int .i64 t,.slice a xs.length c]:=ah 1 h.l;have tl:=U.t.1;have eT:g.T = g.terms.length:=rfl;have V:=hr.mono (gw.trans G)
 refine ⟨λb u=>(b = false↔(ak g/\0<=t/\t < g.T/\uX g.prods.length xs))/\Gr w3 u,⟨_,_,_,_,_,_,_,_,_,_,_,_,_,B.row G,(yK (U.mono G) hb).mono ?_⟩,?_⟩
 ·rintro _ w4 ⟨⟨r,rfl,W⟩,z⟩
  refine ⟨_,rfl,ae (λR=>⟨?_,z⟩) λR=>⟨_,r2.cell z (j:=1) rfl,ae (λY=>⟨?_,z⟩) λY=>⟨_,r2.cell z (j:=1) rfl,_,_,_,B.c0 (G.trans z),ae (λZ=>⟨?_,z⟩) λZ=>⟨_,_,_,_,_,_,_,_,_,_,_,_,_,B.row (G.trans z),_,_,_,r2.cell z (j:=2) rfl,(Ow (U.mono (G.trans z)) hb (V.mono z) hl).mono ?_⟩⟩⟩⟩
  ·have:r = false:=by simpa using R
   exact ⟨λh=>(by cases h),λh=>by rw [W.2 h.1] at this; cases this⟩
  ·have:=YR Y;exact ⟨λh=>(by cases h),λh=>ω⟩
  ·have:=YR Z;exact ⟨λh=>(by cases h),λh=>ω⟩
  ·rintro _ w5 ⟨rfl,a0⟩;have R:r = true:=by simpa using R
   have Y:=YS Y;have Z:=YS Z;refine ⟨_,rfl,?_,z.trans a0⟩;rw [Bool.not_eq_false',decide_eq_true_iff];exact ⟨λh=>⟨W.1 R,ω,ω,h⟩,λh=>h.2.2.2⟩
 rintro _ b w6 ⟨X,O⟩;have h:=h.gr O
 refine ae (λR=>?_) λR=>?_
 ·subst R;refine aU h rfl (by simp [aG]) λw7 h=>⟨_,_,(ah 0 h.l).at (sub.refl _) rfl,⟨0,0⟩,[],1,none,0,rfl,.inl ⟨λhh=>(by cases X.2 hh),rfl,rfl,rfl⟩,ay 2 (St.here (sub.trans gw (aR 2 h.l)))⟩
 subst R;obtain ⟨hc,t0,t1,ho⟩:=X.1 rfl;obtain ⟨j,rfl⟩ : ∃ j:Nat,t = j:=⟨t.toNat,ω⟩;refine ⟨_,_,_,_,_,_,_,_,_,_,_,_,_,B.row (G.trans O),_,_,_,_,_,(r2.mono O).at (sub.refl _) rfl,(Gs hc (U.mono (G.trans O)) (V.mono O) hcl ho ω).mono ?_⟩;rintro _ w8 ⟨o,c',rfl,h8⟩;have h:=St.nf h8 h.l;refine ⟨_,_,_,_,_,rfl,ag h λa3 w9 h=>aU h rfl (by simp [aG]) λa1 h=>?_⟩;refine ⟨_,_,(ah 0 h.l).at (sub.refl _) rfl,?_⟩;refine aU (h.pick 3 [2,0,1]) rfl (by simp [aG]) λa4 h=>?_;refine ⟨_,_,(ah 0 h.l).at (sub.refl _) rfl,?_⟩;exact ⟨_,_,0,o,c',rfl,.inr ⟨hc,ho,j,rfl,ω,rfl,rfl,rfl⟩,St.nf (h.pick 4 [2]) (bH gw)⟩
end
theorem EA {α : Type} {f:α->List Value} {n:Nat} (hf:∀ x,(f x).length = n):∀ (xs:List α) (i:Nat) (y:α),i < xs.length->(xs.flatMap f).take (i * n) ++ f y ++ (xs.flatMap f).drop (i * n + n) = (xs.set i y).flatMap f
 | [],i,y,h=>by simp at h
 | x :: xs,0,y,_=>by
  rw [Zw,aaU,Zw]
  rw [show 0 * n = 0 from Nat.zero_mul n,List.take_zero,Zz,ZV,List.drop_append,aab (by rw [hf]; omega),hf,Z0]
  rfl
 | x :: xs,i + 1,y,h=>by
  have hx:=hf x
  have ih:=EA hf xs i y (by simpa using h)
  rw [Zw,List.set_cons_succ,Zw,<- ih]
  have e:(i + 1) * n = n + i * n:=by rw [aao,aaQ]
  rw [e,List.take_append,List.drop_append,Zb ω,aab ω,hx,ZS,show n + i * n + n - n = i * n + n from ω]
  simp
theorem RC {w:aa4} {L:List az} {n c i:Nat} {o:aa3} {ds:List q9} {b:q9} (h:St w (own 3 o n c (rP ds) :: L)) (hb:ds[i]? = some b):∃ ad,o = some ad/\au (hp w) (ad.add (cE i 3)) (Rw b):=by
 rcases dJ 0 h.l with e | ⟨ad,e,u⟩
 ·have z:=congrArg List.length e;rw [M8,ZJ] at z;have:=(YT.1 hb).1; omega
 ·exact ⟨ad,e,bY (n:=3) (λ_=>rfl) ds ad u i b hb⟩
section
variable {w:aa4} {L:List az} {g:af} {x:GA}
theorem RD {ss ss' : List SQ} {nn nn' : List Bool} {a i f a' i' f' : Int} (hR:sV g ss a i f) (hn:f = 0->j6 g nn) (hR' : sV g ss' a' i' f') (hn' : f' = 0->j6 g nn'):f' = f/\(∀ l,gn g nn' ss' l = gn g nn ss l)/\(f = 0->∀ q t,cM g nn' ss' q t = cM g nn ss q t)/\ss'.length = ss.length:=by
 obtain ⟨z,u,_,_,rfl,G⟩:=hR.one hR';have z:ss.map (·.1.2) = ss'.map (·.1.2):=z
 refine ⟨rfl,λl=>?_,λhf q t=>?_,G.symm⟩
 ·by_cases hf:f = 0
  ·rw [(hn' hf).inj (hn hf)]; exact (Kc u z).symm
  ·rw [hR.nil hf,hR'.nil hf]; rfl
 ·rw [(hn' hf).inj (hn hf)]; exact (M9 u z q t).symm
theorem HQ {ss:List SQ} {nn:List Bool} {a i f:Int} {l:Nat} (hR:sV g ss a i f):(gn g nn ss l).length<=16640:=by
 by_cases hf:f = 0
 ·obtain ⟨G,hA⟩:=hR.HZ hf;have u:=hA.dn.2.1;obtain ⟨z,_⟩:=G.b9;have R:=AR (g:=g) (nn:=nn) (ss:=ss) (least:=l) (n:=ss.length);have O:ss.length * g.T<=256 * 65:=aaG ω z;unfold gn;omega
 ·rw [hR.nil hf]; exact Y4 _
theorem T3 {ss:List SQ} {nn:List Bool} {l:Nat} (hb:jd g):∀ c∈gn g nn ss l,c.acts.length<=4611686018427387904:=λc u=>by
 obtain ⟨q,t,_,_,_,rfl⟩:=lY.1 u
 have:=J7 (g:=g) (nn:=nn) (ss:=ss) (q:=q) (t:=t)
 have:=hb.2.2.2.1
 show (cM g nn ss q t).length<=_
 omega
theorem Wg (hg:gR (hp w) g x) (hb:jd g) (hbT:g.terms.length * 24<=140737488355328) (hbN:g.nons.length * 16<=140737488355328):ρ kX [.agg ⟨x.cells⟩] w λv w'=>∃ y:GA,v = .agg ⟨y.cells⟩/\gR (hp w') g y/\Gr w w':=by
 refine (VA (x:=x) hg hb hbT hbN).mono ?_;rintro _ O ⟨y,os,rfl,G,u,z⟩;exact ⟨y,rfl,S0 G u z,aR 5 z.l⟩
end
section
variable {g:af} {nn:List Bool} {ss ss' : List SQ} {w:aa4} {L:List az}
def EB (g:af) (es:List aS):List Int:=(List.range g.N).map λj=>match es.find? λe=>decide (e.sym = ((g.T + j:Nat):Int)) with
 | some e=>e.to
 | none=>-1
theorem Kf {es:List aS}:(EB g es).length = g.N:=by simp [EB]
theorem RE:EB g [] = List.replicate g.N (-1):=by
 show (List.range g.N).map (λ_=>(-1:Int)) = _
 rw [List.map_const',ZX]
theorem Gt {es:List aS} {e:aS} (hn:∀ x∈es,x.sym≠e.sym) (h1:e.sym < g.T + g.N):EB g (es ++ [e]) = if (g.T:Int)<=e.sym then (EB g es).set (e.sym - g.T).toNat e.to else EB g es:=by
 refine ZK λj=>?_
 have u:∀ es:List aS,(EB g es)[j]? = if j < g.N then some (match es.find? λe=>decide (e.sym = ((g.T + j:Nat):Int)) with | some e=>e.to | none=>-1) else none:=λes=>by
  unfold EB;rw [YW]
  by_cases h:j < g.N
  ·rw [Z8 h,Y5 h]; rfl
  ·rw [Zf (by simp; omega),YZ h]; rfl
 have z:e.sym = ((g.T + j:Nat):Int)->es.find? (λe=>decide (e.sym = ((g.T + j:Nat):Int))) = none:=λG=>by
  rw [List.find?_eq_none];intro x V W;exact hn x V (by rw [YR W,G])
 rw [u,List.find?_append]
 by_cases G:e.sym = ((g.T + j:Nat):Int)
 ·have O:(g.T:Int)<=e.sym:=ω
  have U:j < g.N:=ω
  have R:(e.sym - (g.T:Int)).toNat = j:=ω
  rw [z G,Y5 O,Y5 U,ZN,Y5 R,Kf,Y5 ω];simp [G]
 ·have X:([e].find? λe=>decide (e.sym = ((g.T + j:Nat):Int))) = none:=by rw [List.find?_cons_of_neg (by simpa using G)]; rfl
  rw [X,Option.or_none,<- u]
  by_cases O:(g.T:Int)<=e.sym
  ·rw [Y5 O,ZN,YZ ω]
  ·rw [YZ O]
def lL (g:af) (ss:List SQ) (q:Nat):List Int:=(List.range g.N).map λj=>kE ss q ((g.T + j:Nat):Int)
theorem RF {q:Nat} {r:SQ} (hr:ss[q]? = some r):EB g r.2.2 = lL g ss q:=by
 unfold EB lL;refine ZP λj _=>?_;unfold kE;rw [mu hr];cases r.2.2.find? λe=>decide (e.sym = ((g.T + j:Nat):Int)) with
 | none=>rfl
 | some e=>rfl
theorem HR (h:bq ss = bq ss'):Fg g ss = Fg g ss':=by
 unfold Fg;rw [DV h];refine ZP λq _=>ZP λj _=>?_;unfold kE;rw [DU h]
theorem HS:∀ n,ir n [.int .i64 0,.int .i64 0] = cJ (List.replicate n ⟨0,0⟩)
 | 0=>rfl
 | n + 1=>by
  rw [aar]
  show [.int .i64 0,.int .i64 0] ++ ir n _ = cf ⟨0,0⟩ ++ cJ (List.replicate n ⟨0,0⟩)
  rw [HS n]; rfl
theorem T4 (h:bq ss = bq ss') (hk:ss.map (·.1.2) = ss'.map (·.1.2)):zv g nn ss = zv g nn ss':=by
 unfold zv; rw [Kc h hk]
def Nc (oa:aa3) (ca:Nat) (og:aa3) (cg:Nat) (oc:aa3) (cc:Nat) (AL:List (Lq aJ)) (GL:List (Lq Int)) (CL:List q9):List az :=
 [own 1 oa AL.length ca (AL.map bF),aC (AL.map (bB 2 cJ)),own 1 og GL.length cg (GL.map bF),aC (GL.map (bB 1 iv)),own 3 oc CL.length cc (rP CL),aC (kR CL)]
def Yb (g:af) (w:aa4) (v:Value) (w' : aa4):Prop:=∃ (ss:List SQ) (ask int f:Int) (nn:List Bool) (oa:aa3) (ca:Nat) (og:aa3) (cg:Nat) (oc:aa3) (cc:Nat) (AL:List (Lq aJ)) (GL:List (Lq Int)) (CL:List q9),
 v = .tuple #[.agg #[.slice oa AL.length ca,.slice og GL.length cg,.slice oc CL.length cc],.int .i64 f]/\sV g ss ask int f/\(f = 0->j6 g nn)/\AL.map (·.2) = B_ g nn ss/\GL.map (·.2) = Fg g ss/\CL.map jY = zv g nn ss/\St w' (Nc oa ca og cg oc cc AL GL CL ++ all w)
theorem Xu {ds:List q9} {i:Nat} {b:q9} (h:St w (aC (kR ds) :: L)) (hb:ds[i]? = some b):b.2.2.length<=b.2.1.2/\bh (hp w) b.2.2 b.2.1.1 b.2.2.length:=by
 have hA:(kR ds)[i]? = some (bB 2 cJ b.2):=by unfold kR; rw [YW,hb]; rfl
 have u:=St.out h hA;exact ⟨dI u,vq rfl (dJ 0 u.l)⟩
theorem RG {n c q t:Nat} {o:aa3} {AL:List (Lq aJ)} {b:Lq aJ} {y:aJ} {X:aa4->Prop} (hq:AL[q]? = some b) (ht:t < b.2.length) (h:St w (own 1 o n c (AL.map bF) :: aC (AL.map (bB 2 cJ)) :: L))
  (hX:∀ w',St w' (own 1 o n c ((AL.set q (b.1,b.2.set t y)).map bF) :: aC ((AL.set q (b.1,b.2.set t y)).map (bB 2 cJ)) :: L)->X w'):idx b.1.1 b.2.length (t:Int) 2 λa=>da w a [.int .i64 y.kind,.int .i64 y.to] X:=by
 have u:=(YT.1 hq).1;have hA:(AL.map (bB 2 cJ))[q]? = some (bB 2 cJ b):=by rw [YW,hq]; rfl
 have h:=St.Ac (h.pick 2 [1,0]) hA;have h:St w (own 2 b.1.1 b.2.length b.1.2 (cJ b.2) :: aC ((AL.map (bB 2 cJ)).take q ++ (AL.map (bB 2 cJ)).drop (q + 1)) :: own 1 o n c (AL.map bF) :: L):=h;obtain ⟨R,z⟩:=gV h (by rw [gi]; omega);refine aq z ht ?_;rw [aN];refine yR (i:=t * 2) h z (by rw [gi]; simp; omega) (by simp [aG]) σ λw' h=>hX w' ?_;have e:=EA (f:=cf) (n:=2) (λ_=>rfl) b.2 t y ht;have h:St w' (own 2 b.1.1 b.2.length b.1.2 ((b.2.flatMap cf).take (t * 2) ++ cf y ++ (b.2.flatMap cf).drop (t * 2 + 2)) :: aC ((AL.map (bB 2 cJ)).take q ++ (AL.map (bB 2 cJ)).drop (q + 1)) :: own 1 o n c (AL.map bF) :: L):=h;rw [e] at h;have G:bB 2 cJ (b.1,b.2.set t y) = own 2 b.1.1 b.2.length b.1.2 ((b.2.set t y).flatMap cf):=by unfold bB; rw [Zn]; rfl
 rw [<- G] at h
 have O:(AL.set q (b.1,b.2.set t y)).map bF = AL.map bF:=by
  rw [ZM];refine pG ?_;rw [YW,hq]
  show some (bF b) = some (bF (b.1,b.2.set t y))
  unfold bF; simp
 rw [O,ZM];exact (St.Dy (M:=AL.map (bB 2 cJ)) (n:=q) (by rw [Y3]; exact u) h).swap
end
end Go.Proofs.YtndaepmjkbmjmaaGreatDoor
