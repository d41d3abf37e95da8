/- Texts of this claim, one behind the other. -/
import Derived.Test.YtndaepmjkbmjmaaGreatDoorG3
import Derived.Test.YtndaepmjkbmjmaaGreatDoorG1
import Derived.Laws.StructEq
import Derived.Test.YtndaepmjkbmjmaaGreatDoorG2
set_option linter.unusedVariables false
set_option linter.unusedSectionVars false
set_option maxRecDepth 100000
set_option maxHeartbeats 16000000
namespace Go.V
end Go.V
namespace Go.Proofs.YtndaepmjkbmjmaaGreatDoor
end Go.Proofs.YtndaepmjkbmjmaaGreatDoor
open Go.V Go.Proofs.YtndaepmjkbmjmaaGreatDoor
namespace Go.Proofs.YtndaepmjkbmjmaaGreatDoor
def vN (h:Hp) (ss:List SQ) (o:aa3):Prop:=∀ (i:Nat) q,ss[i]? = some q->∃ ad,o = some ad/\au h (ad.add (cE i 2)) (N3 q)/\bh h q.1.2 q.1.1.1 q.1.2.length/\bh h q.2.2 q.2.1.1 q.2.2.length
theorem vN.mono {h h' : Hp} {ss:List SQ} {o:aa3} (s:sub h h') (r:vN h ss o):vN h' ss o:=λi q U=>by
 obtain ⟨z,R,G,O,u⟩:=r i q U
 exact ⟨z,R,G.mono s,O.mono s,u.mono s⟩
theorem Tk {h:Hp} {xs:List aS} {a:aa3} {l:Nat} (hl:xs.length = l) (r:fo a (Kq xs) h):bh h xs a l:=by
 refine ⟨hl,λi x z=>?_⟩
 rcases r with e | ⟨u,rfl,G⟩
 ·have O:=congrArg List.length e;rw [Tb,ZJ] at O;have:=(YT.1 z).1; omega
 ·exact ⟨u,P_ x,rfl,bY (n:=2) (λ_=>rfl) xs u G i x z,rfl⟩
theorem kC {h:Hp} {xs:List aS} {a:aa3} {l:Nat} (r:bh h xs a l) {i:Nat} (hi:i < l):∃ x ad,xs[i]? = some x/\a = some ad/\au h (ad.add (cE i 2)) (P_ x):=by
 obtain ⟨x,ad,vs,z,G,u,e⟩:=r.get hi;rw [show vs = P_ x from e] at u;exact ⟨x,ad,z,G,u⟩
theorem nL {h:Hp} {L:List az} {ss:List SQ} {o:aa3} {n c:Nat} (hs:aD (own 2 o n c (xZ ss) :: aC (BU ss) :: aC (x_ ss) :: L) h):vN h ss o:=λi q u=>by
 obtain ⟨z,e,r⟩:=Af (dJ 0 hs) u
 obtain ⟨V,O,R⟩:=lF (aY hs) (Hm u)
 obtain ⟨U,G,a2⟩:=lF (aY (aY hs)) (MI u)
 exact ⟨z,e,r,(Hn R).mono O,(Tk rfl (cP a2)).mono G⟩
def eW (g:af) (K:cQ) (s:Nat):List Nat:=(List.range s).filter λs=>decide (aO g K s≠[])
section
variable {g:af} {K:cQ} {ss:List SQ} {asked:Int} {i s:Nat} {es:List aS}
theorem kD:eW g K (s + 1) = eW g K s ++ if aO g K (s:Int)≠[] then [s] else []:=by
 unfold eW;rw [Z1,Zs];congr 1
 by_cases h:aO g K (s:Int)≠[]
 ·simp [h]
 ·simp [h]
theorem DN:∀ (s n:Nat),s<=n->∃ t,eW g K n = eW g K s ++ t
  | s, 0, h => ⟨[], by have : s = 0 := ω
                       subst this; simp⟩
  | s,n + 1,h=>by
    by_cases e:s = n + 1
    · subst e; exact ⟨[],σ⟩
    · obtain ⟨t,ht⟩:=DN s n ω
      exact ⟨t ++ if aO g K (n:Int)≠[] then [n] else [],by rw [kD,ht,Y6]⟩
theorem Jv (h:s<=g.T + g.N):eW g K s = (bL g K).take (eW g K s).length:=by
 obtain ⟨t,ht⟩:=DN (g:=g) (K:=K) s _ h;rw [show bL g K = eW g K (g.T + g.N) from rfl,ht,List.take_left' rfl]
theorem Qf (hc:ak g) (hf:∀ x∈K,kN g x):aO g K 0 = []:=by
 refine Z3 λh=>?_;have:=uv (s:=0) hc hf (Int.le_refl _) h;omega
structure N7 (g:af) (ss:List SQ) (asked:Int) (i:Nat):Prop where
 ks:bV ss = (cN g i).1
 es:bq ss = (cN g i).2 ++ List.replicate (ss.length - i) []
 lt:∀ j,j < i->j < (cN g j).1.length
 le:ss.length<=256
 ask:asked = 1 + (y6 (cN g i).2:Int)
structure y7 (g:af) (K:cQ) (ss:List SQ) (asked:Int) (i s:Nat) (es:List aS):Prop where
 ks:bV ss = (lW g K (eW g K s) ((cN g i).1,[])).1
 ed:es = (lW g K (eW g K s) ((cN g i).1,[])).2
 eL:bq ss = (cN g i).2 ++ es :: List.replicate (ss.length - i - 1) []
 le:ss.length<=256
 ask:asked = 1 + (y6 (cN g i).2:Int) + es.length
theorem N7.start {b:aa3} {d:Nat}:N7 g [(((b,d),[⟨0,0⟩]),((none,0),[]))] 1 0:=⟨rfl,rfl,λj u=>ω,σ,rfl⟩
theorem N7.inner (h:N7 g ss asked i) (hi:i < ss.length) (h0:aO g K 0 = []):y7 g K ss asked i 1 []:=by
 have e:eW g K 1 = []:=by rw [show (1:Nat) = 0 + 1 from rfl,kD]; simp [h0,eW]
 refine ⟨by rw [e]; exact h.ks,by rw [e]; rfl,?_,h.le,by rw [h.ask]; simp⟩;rw [h.es,show ss.length - i = (ss.length - i - 1) + 1 by omega,aar]; simp
theorem y7.skip (h:y7 g K ss asked i s es) (hk:aO g K (s:Int) = []):y7 g K ss asked i (s + 1) es:=by
 have e:eW g K (s + 1) = eW g K s:=by rw [kD]; simp [hk]
 exact ⟨by rw [e]; exact h.ks,by rw [e]; exact h.ed,h.eL,h.le,h.ask⟩
theorem Tl (ss:List SQ) (b:aa3) (d:Nat) (K:cQ):bq (fM ss b d K) = bq ss ++ List.replicate ((fM ss b d K).length - ss.length) []:=by
 unfold fM
 split
 ·simp
 ·simp [bq]
theorem y7.next (h:y7 g K ss asked i s es) (hk:aO g K (s:Int)≠[]) (hi:i < ss.length) (hes:(cN g i).2.length = i) {b:aa3} {d:Nat} (hle:(fM ss b d (aO g K s)).length<=256) {q:SQ} (hq:(fM ss b d (aO g K s))[i]? = some q) (E:Lq aS)
  (hE:E.2 = es ++ [⟨(s:Int),(((bV ss).idxOf (aO g K s):Nat):Int)⟩]):y7 g K ((fM ss b d (aO g K s)).set i (q.1,E)) (asked + 1) i (s + 1) E.2:=by
 have e:eW g K (s + 1) = eW g K s ++ [s]:=by rw [kD,Y5 hk]
 have u:=Ah hq E;have z:=DM ss b d (aO g K s)
 refine ⟨?_,?_,?_,by rw [Zn]; exact hle,by rw [h.ask,hE]; simp; omega⟩
 ·rw [u.1,Ct,e,yU,h.ks]
 ·rw [hE,e,yU,h.ed,h.ks]
 ·rw [u.2.2.1,Tl,h.eL,Zn,Y6,aae _ _ ω,hes,Z0,List.cons_append,aaU,List.replicate_append_replicate];congr 3;omega
theorem y7.done (h:y7 g K ss asked i (g.T + g.N) es) (hb:∀ j,j < i->j < (cN g j).1.length) (hK:(cN g i).1[i]? = some K):N7 g ss asked (i + 1):=by
 have u:=ff hK
 refine ⟨by rw [u]; exact h.ks,?_,λj G=>?_,h.le,?_⟩
 ·rw [u,h.eL,h.ed,Y6]; rfl
 ·by_cases z:j = i
  ·subst z; exact (YT.1 hK).1
  ·exact hb j ω
 ·rw [u,Ag,h.ask,h.ed]
  show _ = 1 + ((y6 (cN g i).2 + (lW g K (bL g K) ((cN g i).1,[])).2.length:Nat):Int)
  rw [show bL g K = eW g K (g.T + g.N) from rfl];omega
theorem y7.len (h:y7 g K ss asked i s es) (hs:s<=g.T + g.N):es.length<=s:=by
 rw [h.ed,ml];have:=Zt (λs=>decide (aO g K (s:Nat)≠[])) (List.range s);rw [ZX] at this;simpa [eW] using this
theorem y7.get (h:y7 g K ss asked i s es) (hes:(cN g i).2.length = i) {q:SQ} (hq:ss[i]? = some q):q.2.2 = es:=by
 have u:(bq ss)[i]? = some q.2.2:=by unfold bq; rw [YW,hq]; rfl
 rw [h.eL,Y_ ω,hes,Z0] at u;simpa using u.symm
end
section
variable {w:aa4} {L:List az} {g:af} {x:GA} {a a2:aa3} {l c l2 c2:Nat} {I J:List ai}
theorem Tm {ss:List SQ} {o:aa3} (hs:vN (hp w) ss o) (hx:bh (hp w) I a l) (hn:ss.length<=300) (hk:∀ q∈ss,q.1.2.length<=4611686018427387904):ρ uw [.slice o ss.length c,.slice a l c2] w λv w'=>v = .int .i64 (if I∈bV ss then (((bV ss).idxOf I:Nat):Int) else -1)/\hp w' = hp w:=by
 refine qI ⟨λz w'=>∃ j:Nat,z = j/\j<=ss.length/\I∉(bV ss).take j/\hp w' = hp w,λz _=>ss.length - z.toNat,⟨0,rfl,Y4 _,σ,rfl⟩,?_⟩;rintro _ _ w1 ⟨j,rfl,hj,u,U⟩;refine ae (λO=>?_) λO=>?_
 rotate_left
 ·have O:j = ss.length:=by have:=YS O; omega
  rw [O,Zb (by rw [dZ]; exact Zc _)] at u;exact ⟨by rw [YZ u],U⟩
 have O:j < ss.length:=by have:=YR O; omega
 have W:ss[j]? = some ss[j]:=YU O;obtain ⟨ad,rfl,r,rk,_⟩:=hs j _ W;have G:(bV ss)[j]? = some (ss[j]).1.2:=by unfold bV; rw [YW,W]; rfl
 refine aq rfl O ⟨_,_,_,r.cell0 (xd U),(Jt (by rw [U]; exact rk) (by rw [U]; exact hx) (hk _ (YV W))).mono ?_⟩;rintro _ w2 ⟨rfl,Z⟩
 refine ⟨_,rfl,ae (λR=>?_) λR=>?_⟩
 ·have R:(ss[j]).1.2 = I:=YR R;rw [R] at G;have X:=YV G;rw [Y5 X];have Y:j < (bV ss).length:=(YT.1 G).1
  have:(bV ss).idxOf I = j:=by
   refine Nat.le_antisymm (aax λV=>?_) (aax λV=>u ?_)
   ·have e3:(bV ss).idxOf I<=j:=by
     have e4:bV ss = (bV ss).take j ++ I :: (bV ss).drop (j + 1):=by
      rw [<- (YT.1 G).2,<- Zy Y,Zk]
     rw [e4,List.idxOf_append,YZ u];simp; omega
    omega
   ·have:=List.getElem_idxOf (aaN X);refine YV (i:=(bV ss).idxOf I) ?_;rw [ZT,Y5 V,YU (aaN X),this]
  rw [this];exact ⟨rfl,Z.trans U⟩
 ·have R:(ss[j]).1.2≠I:=YS R;exact ⟨⟨ω,ω⟩,⟨j + 1,σ,O,by rw [Y2,G,YY]; simp [u,aaw R],Z.trans U⟩,bn O⟩
theorem Qg {kt c i:Nat} {s t:Int} {o:aa3} {rest:List Value} {ss:List SQ} {q:SQ} {X:aa4->Prop} (h:St w (aH kt (.slice o ss.length c :: rest) :: own 2 o ss.length c (xZ ss) :: aC (x_ ss) :: L)) (hq:ss[i]? = some q) (hsz:q.2.2.length<=1000)
  (hX:∀ (w' : aa4) (E:Lq aS),E.2 = q.2.2 ++ [⟨s,t⟩]->St w' (aH kt (.slice o ss.length c :: rest) :: own 2 o ss.length c (xZ (ss.set i (q.1,E))) :: aC (x_ (ss.set i (q.1,E))) :: L)->X w') :
  ∀ w1,drawn w w1->∃ C:aa4->Prop,C w1/\∃ o1 k1 k2,(∀ u,C u->u.cell? (aM kt) = some (vS o1 k1 k2))/\∃ o2 k3 k4,(∀ u,C u->u.cell? (aM kt) = some (vS o2 k3 k4))/\idx o2 k3 (i:Int) 2 λa2=>∃ o3 k5 k6,(∀ u,C u->u.cell? (Addr.add a2 1) = some (vS o3 k5 k6)) /\
   new w1 (oC [.int .i64 s,.int .i64 t] IP) λk7 w2=>C w2/\bf Tryz.prog (fe E3 (Array.mk [vS o3 k5 k6,vS (some (aM k7)) 1 1])) w2 λv w3=>∃ o4 k8 k9,v = vS o4 k8 k9/\C w3/\idx o1 k1 (i:Int) 2 λa3=>st1 w3 (Addr.add a3 1) (vS o4 k8 k9) X:=by
 intro w1 hd;have h:=h.eq (aE hd);have z:=(YT.1 hq).1;obtain ⟨G,rfl,_⟩:=Af (dJ 1 h.l) hq;have cA:∀ {u:aa4} {L' : List az},St u (aH kt (.slice (some G) ss.length c :: rest) :: L')->u.cell? (aM kt) = some (vS (some G) ss.length c):=λh=>(ah 0 h.l).cell0 (sub.refl _)
 have R:∀ {u:aa4} {L' : List az},St u (own 2 (some G) ss.length c (xZ ss) :: L')->u.cell? ((G.add (cE i 2)).add 1) = some (bF q.2):=λh=>by
  obtain ⟨a0,e,r⟩:=Af (dJ 0 h.l) hq;cases e;exact r.cell (sub.refl _) (j:=1) rfl
 refine ⟨λu=>u.cell? (aM kt) = some (vS (some G) ss.length c)/\u.cell? ((G.add (cE i 2)).add 1) = some (bF q.2),⟨cA h,R (h.pick 2 [1])⟩,_,_,_,λu O=>O.1,_,_,_,λu O=>O.1,aq rfl z ⟨_,_,_,λu O=>O.2,?_⟩⟩;have h:=St.Ac (h.pick 3 [2,0,1]) (MI hq);refine ag h λk7 w2 h=>⟨⟨cA (h.pick 4 [3]),R (h.pick 5 [4])⟩,?_⟩;have U:(q.2.2.length + 1) * 16<=140737488355328/\q.2.2.length < 9223372036854775807:=ω
 refine (aL (us:=Kq q.2.2) aQ (rfl:aj Ty _ = .slice _) (rfl:aj Ty _ = .slice _) rfl rfl rfl h rfl (by simp [aG]) U.1 U.2).mono ?_;rintro _ w3 ⟨o4,c4,rfl,h⟩;refine ⟨_,_,_,rfl,⟨cA (h.pick 4 [3]),R (h.pick 5 [4])⟩,aq rfl z ?_⟩;rw [add_add,aN];refine nF (h.pick 5 [4,0,2,3]) rfl (by rw [Hl]; omega) λV h=>?_;have Z:=MJ hq ((o4,c4),q.2.2 ++ [⟨s,t⟩]);have Y:=Ah hq ((o4,c4),q.2.2 ++ [⟨s,t⟩]);have W:(q.2.2 ++ [(⟨s,t⟩ : aS)]).length = q.2.2.length + 1:=σ
 have e4:Kq (q.2.2 ++ [⟨s,t⟩]) = Kq q.2.2 ++ [.int .i64 s,.int .i64 t]:=by unfold Kq; rw [ZB]; rfl
 refine hX V ((o4,c4),q.2.2 ++ [⟨s,t⟩]) rfl ?_;rw [<- Z,Y.2.2.2];have h:=St.Dy (M:=x_ ss) (n:=i) (by unfold x_; rw [Y3]; exact z) (h.pick 4 [1,2,0,3]);unfold bB bF;rw [W,e4];exact h.pick 3 [2,1,0]
variable {w:aa4} {L:List az} {g:af} {x:GA}
theorem Tn (hg:gR (hp w) g x) (hb:jd g):ρ kB [.agg ⟨x.cells⟩] w λv w' =>
  (¬ak g/\v = .tuple #[.agg #[.slice none 0 0,.int .i64 0,.int .i64 0],.int .i64 1]/\Gr w w') \/
  (ak g/\S6 g/\v = .tuple #[.agg #[.slice none 0 0,.int .i64 0,.int .i64 0],.int .i64 11]/\Gr w w') \/
  (ak g/\∃ (o:aa3) (c:Nat) (ss:List SQ),bw g ss/\v = .tuple #[.agg #[.slice o ss.length c,.int .i64 (1 + (y6 (bq ss):Int)),.int .i64 (ss.length:Int)],.int .i64 0] /\
   St w' (own 2 o ss.length c (xZ ss) :: aC (BU ss) :: aC (x_ ss) :: all w)):=by
 refine qG (cG hg λk1 w1 gw hg B=>?_);refine ag (St.all w1) λk2 w2 h=>?_;refine ⟨_,_,_,_,_,_,_,_,_,_,_,_,_,B.row h.aW,(I0 (hg.mono h.aW) hb).mono ?_⟩;rintro _ w3 ⟨⟨rb,rfl,ac⟩,g3⟩;have h:=h.gr g3
 refine ⟨_,rfl,ae (λY=>?_) λY=>?_⟩
 ·have hn:¬ak g:=λhc=>by rw [ac.2 hc] at Y; simp at Y
  exact aU h rfl (by simp [aG]) λw4 h=>⟨_,_,_,_,_,(ah 0 h.l).at (sub.refl _) rfl,.inl ⟨hn,rfl,gw.trans h.aW⟩⟩
 have hc:ak g:=ac.1 (by simpa using Y);obtain ⟨hT,hN,hP,d8,cx,cC⟩:=hc.b9;refine ag h λkt w5 h=>aU h rfl (by simp [aG]) λw6 h=>⟨_,_,_,(ah 0 h.l).cell0 (sub.refl _),ag h λa0 w7 h=>ag h λd0 w8 h=>?_⟩;refine (aL (us:=[]) aQ (rfl:aj Ty _ = .slice _) (rfl:aj Ty _ = .slice _) rfl rfl rfl ((ay 2 h).pick 2 [1,0]) rfl (by simp [aG]) (by decide) (by decide)).mono ?_;rintro _ w9 ⟨o7,c7,rfl,h⟩;refine ⟨_,_,_,rfl,bj (h.pick 4 [3,0,2]) σ λba h=>?_⟩;have h:St ba (aH kt [.slice o7 1 c7,.int .i64 1,.int .i64 1] :: own 2 o7 1 c7 [.slice (some (aM a0)) 1 1,.slice none 0 0] :: aH a0 [.int .i64 0,.int .i64 0] :: aH k2 z3 :: all w1):=h;have h:St ba (own 2 (some (aM a0)) 1 1 (tv [⟨0,0⟩]) :: aH kt [.slice o7 1 c7,.int .i64 1,.int .i64 1] :: own 2 o7 1 c7 [.slice (some (aM a0)) 1 1,.slice none 0 0] :: aH k2 z3 :: all w1):=dz (cs:=[]) (h.pick 3 [2,0,1]) rfl rfl (Zc _);have h:=St.snoc (M:=[]) (((St.flat (M:=[])).2 h).pick 2 [1,0]);have h:=St.snoc (M:=[]) ((ay 2 ((St.flat (M:=[])).2 h)).pick 2 [0,1])
 refine ⟨λz w'=>∃ (i:Nat) (ss:List SQ) (o:aa3) (c:Nat) (asked:Int),z = i/\i<=ss.length/\N7 g ss asked i/\St w' (aH kt [.slice o ss.length c,.int .i64 asked,.int .i64 (ss.length:Int)] :: own 2 o ss.length c (xZ ss) :: aC (BU ss) :: aC (x_ ss) :: aH k2 z3 :: all w1),λz _=>300 - z.toNat,
  ⟨0,[(((some (aM a0),1),[⟨0,0⟩]),((none,0),[]))],o7,c7,1,rfl,Y4 _,.start,h.pick 5 [2,3,1,0,4]⟩,?_⟩
 clear h;rintro _ _ c9 ⟨i,ss,o,c,asked,rfl,hi,hB,h⟩;have b2:ss.length<=256:=hB.le;refine ⟨_,_,_,(ah 0 h.l).cell0 (sub.refl _),ae (λY=>?_) λY=>?_⟩
 rotate_left
 ·have Y:i = ss.length:=by have:=YS Y; omega
  subst Y;have bC:=dZ ss;have X:=hB.es;rw [Z0,List.replicate_zero,Zm] at X;have hA:bw g ss:=⟨⟨by rw [<- hB.ks,bC],b2,hB.lt⟩,hB.ks,X⟩;have r0:au (hp c9) (aM kt) [.slice o ss.length c,.int .i64 asked,.int .i64 (ss.length:Int)]:=ah 0 h.l
  refine ⟨_,_,_,_,_,r0.at (sub.refl _) rfl,aU (h.pick 6 [4,1,2,3,5]) rfl (by simp [aG]) λd7 h=>⟨_,_,_,_,_,(ah 0 h.l).at (sub.refl _) rfl,.inr (.inr ⟨hc,o,c,ss,hA,?_,?_⟩)⟩⟩
  ·rw [X,<- hB.ask]
  ·exact St.on (N:=[_,_,_]) (h.pick 5 [1,2,3,4]) (bH gw)
 have Y:i < ss.length:=by have:=YR Y; omega
 obtain ⟨q,V⟩ : ∃ q,ss[i]? = some q:=⟨_,YU Y⟩;obtain ⟨K,a6⟩ : ∃ K,K = q.1.2:=⟨_,rfl⟩;have hK:(cN g i).1[i]? = some K:=by rw [<- hB.ks]; unfold bV; rw [YW,V,a6]; rfl
 have hI:=dE (g:=g) ω i;have bb:=YV hK;have a4:=hI.fit K bb;have ch:∀ x∈K,x.dot<=i:=hI.dots i K hK;have d2:=yZ hP (hI.Rq K bb) a4 λx hx=>by have:=ch x hx; omega
 have am:=Cu (g:=g) i;have bP:y6 (cN g i).2<=33280:=Zq am (aaG (show i<=256 by omega) (show g.T + g.N<=130 by omega));have X:=He (g:=g) i (by rw [<- hB.ks,dZ]; omega)
 have U:∀ q∈ss,q.1.2.length<=29100:=λq V=>by
  obtain ⟨j,hj⟩:=Zr V;have e:(cN g i).1[j]? = some q.1.2:=by rw [<- hB.ks]; unfold bV; rw [YW,hj]; rfl
  have hm:=YV e;have d3:=(YT.1 hj).1;exact yZ hP (hI.Rq _ hm) (hI.fit _ hm) λx hx=>by have:=hI.dots j _ e x hx; omega
 have bd:q.1.2.length = K.length:=by rw [a6]
 have aI:q.1.2.length * 16<=140737488351232:=by rw [bd]; omega
 intro a7 hd;have h:=h.eq (aE hd);have b3:sub (hp w1) (hp a7):=aR 5 h.l;have rt:au (hp a7) (aM kt) [.slice o ss.length c,.int .i64 asked,.int .i64 (ss.length:Int)]:=ah 0 h.l;obtain ⟨ad,rfl,rs,b1,_⟩:=nL (h.pick 4 [1,2,3]).l i q V;have rk:bh (hp a7) K q.1.1.1 q.1.2.length:=by rw [a6]; exact b1
 clear b1;refine ⟨λu=>Gr a7 u,Gr.refl _,_,_,_,_,_,_,_,_,_,_,_,_,_,λu s=>B.row (sub.trans b3 s),_,_,_,λu s=>rt.cell0 s,aq rfl Y ⟨_,_,_,λu s=>rs.cell0 s,(FY (hg.mono b3) hb hc rk a4 aI).mono ?_⟩⟩;rintro _ cv ⟨oc,cc,rfl,ab⟩;have h:=ab.nf h.l;have b5:=yY g K
 refine ⟨_,_,_,rfl,ab.aW,λz w'=>∃ (s:Nat) (ss' : List SQ) (es:List aS) (o' : aa3) (c' : Nat) (G : Int),z = s/\1<=s/\s<=g.T + g.N/\y7 g K ss' G i s es/\ss.length<=ss'.length/\(∀ q∈ss',q.1.2.length<=29300) /\
   St w' (aH kt [.slice o' ss'.length c',.int .i64 G,.int .i64 (ss'.length:Int)] :: own 2 o' ss'.length c' (xZ ss') :: aC (BU ss') :: aC (x_ ss') :: own 2 oc (cls g K).length cc (tv (cls g K)) :: aH k2 z3 :: all w1),λz _=>200 - z.toNat,
  ⟨1,ss,[],some ad,c,asked,rfl,Zc _,ω,hB.inner Y (Qf hc a4),Zc _,λq V=>Zq (U q V) ω,h.pick 5 [1,2,3,4,0]⟩,?_⟩
 clear h ab rs rk rt V a6 bd;rintro _ _ bG ⟨s,ss',es,o',c',G,rfl,cp,c8,hL,bc,U,h⟩;have b7:ss'.length<=256:=hL.le;have ck:=hL.len c8;have b4:sub (hp w1) (hp bG):=aR 6 h.l;refine ⟨_,_,_,_,_,_,_,_,_,_,_,_,_,B.row b4,(iX (hg.mono b4) hb).mono ?_⟩;rintro _ c5 ⟨rfl,cg⟩;have h:=h.gr cg;refine ⟨_,rfl,ae (λh2=>?_) λh2=>?_⟩
 rotate_left
 ·have h2:s = g.T + g.N:=by have:=YS h2; omega
  rw [h2] at hL;exact ⟨⟨ω,ω⟩,⟨i + 1,ss',o',c',G,σ,ω,hL.done hB.lt hK,h.pick 6 [0,1,2,3,5]⟩,by dsimp only; omega⟩
 have h2:s < g.T + g.N:=by have:=YR h2; omega
 have bi:sub (hp w1) (hp c5):=aR 6 h.l;have a9:ax ((s:Int) + 1):=⟨ω,ω⟩;have aa:200 - ((s:Int) + 1).toNat < 200 - (s:Int).toNat:=ω
 have d4:∀ x∈aO g K (s:Int),kN g x:=DD a4 (Zx _);have be:(aO g K (s:Int)).length<=(cls g K).length:=vj g _ _;have b6:(aO g K (s:Int)).length<=29300:=Zq be (Zq b5 ω);have bA:yX g (cls g K):=Tj a4;refine ⟨_,_,_,_,_,_,_,_,_,_,_,_,_,B.row bi,(VI (s:=(s:Int)) (hg.mono bi) hb (cU (h.pick 5 [4])) bA (Zq b5 ω)).mono ?_⟩;rintro _ cD ⟨R,O,rfl,bl⟩;have h:=bl.nf h.l;have c6:lay (eF g (cls g K) (s:Int)) = aO g K (s:Int):=pH DA;rw [c6] at h ⊢;clear bl
 refine ⟨_,_,_,rfl,ae (λh3=>?_) λh3=>?_⟩
 ·have h3:aO g K (s:Int) = []:=by
   have:=eq_of_beq h3;exact Y9 ω
  exact ⟨a9,⟨s + 1,ss',es,o',c',G,σ,ω,h2,hL.skip h3,bc,U,h.pick 8 [1,2,3,4,5,6,7]⟩,aa⟩
 have h3:aO g K (s:Int)≠[]:=λe=>by rw [e] at h3; simp at h3
 have cm:=hL.ask;refine ⟨_,(ah 1 h.l).cell (sub.refl _) (j:=1) rfl,⟨ω,ω⟩,?_⟩;rw [aK];refine bj (h.pick 2 [1,0]) σ λca h=>?_;have h:St ca (aH kt [.slice o' ss'.length c',.int .i64 (G + 1),.int .i64 (ss'.length:Int)] :: own 2 R (aO g K (s:Int)).length O (tv (aO g K (s:Int))) :: own 2 o' ss'.length c' (xZ ss') :: aC (BU ss') :: aC (x_ ss') :: own 2 oc (cls g K).length cc (tv (cls g K)) :: aH k2 z3 :: all w1):=h;refine ⟨_,_,_,(ah 0 h.l).cell0 (sub.refl _),(Tm (c:=c') (c2:=O) (nL (h.pick 5 [2,3,4]).l) (cU (h.pick 2 [1])) ω λq V=>Zq (U q V) (by decide)).mono ?_⟩;rintro _ cy ⟨rfl,bT⟩;have h:=h.eq bT;have d5:=DM ss' R O (aO g K (s:Int));obtain ⟨q,V⟩ : ∃ q,ss'[i]? = some q:=⟨_,YU ω⟩;have a8:=hL.get X V;refine ⟨_,rfl,ae (λh4=>?_) λh4=>?_⟩
 rotate_left
 ·have hm:aO g K (s:Int)∈bV ss':=Z3 λhn=>by rw [YZ hn] at h4; exact absurd (YS h4) (by decide)
  have W:fM ss' R O (aO g K (s:Int)) = ss':=by unfold fM; rw [Y5 hm]
  rw [Y5 hm];refine Qg (h.pick 5 [0,2,4,3]) V (by rw [a8]; omega) λcb E hE h=>?_;have hn:=hL.next (b:=R) (d:=O) (q:=q) h3 ω X (by rw [W]; exact b7) (by rw [W]; exact V) E (by rw [hE,a8]);rw [W] at hn;have e2:=Ah V E
  refine ⟨a9,⟨s + 1,ss'.set i (q.1,E),E.2,o',c',G + 1,σ,ω,h2,hn,by rw [Zn]; exact bc,λr Z=>?_,?_⟩,aa⟩
  ·rcases aaq Z with Z | rfl
   ·exact U r Z
   ·exact U q (YV V)
  ·rw [Zn,e2.2.1];exact h.pick 4 [0,1,3,2]
 have hm:aO g K (s:Int)∉bV ss':=λhm=>by
  rw [Y5 hm] at h4;have:=YR h4; omega
 have W:fM ss' R O (aO g K (s:Int)) = ss' ++ [(((R,O),aO g K (s:Int)),((none,0),[]))]:=by unfold fM; rw [YZ hm]
 refine ⟨_,_,_,(ah 0 h.l).cell0 (sub.refl _),ae (λh5=>?_) λh5=>?_⟩
 ·have h5:256<=ss'.length:=by have:=YR h5; omega
  refine aU (h.pick 8 [6,7]) rfl (by simp [aG]) λcu h=>⟨_,_,_,_,_,(ah 0 h.l).at (sub.refl _) rfl,.inr (.inl ⟨hc,⟨i,K,(eW g K (s + 1)).length,hK,λj hj=>?_,?_⟩,rfl,sub.trans gw (aR 1 h.l)⟩)⟩
  ·by_cases e:j = i
   ·subst e; exact (YT.1 hK).1
   ·exact hB.lt j ω
  ·rw [<- Jv (g:=g) (K:=K) (s:=s + 1) h2,kD,Y5 h3,yU,<- hL.ks]
   show 256 < (rK _ _).length
   unfold rK;rw [YZ hm,Y0,dZ]; simp; omega
 have h5:ss'.length < 256:=by have:=YS h5; omega
 refine ⟨_,(ah 0 h.l).cell (sub.refl _) (j:=2) rfl,⟨ω,ω⟩,?_⟩;rw [aK];refine bj h σ λcB h=>⟨_,_,_,(ah 0 h.l).cell0 (sub.refl _),ag h λd1 cz h=>?_⟩;have z1:(ss'.length + 1) * 48<=140737488355328/\ss'.length < 9223372036854775807:=ω
 refine (aL (us:=xZ ss') aQ (rfl:aj Ty _ = .slice _) (rfl:aj Ty _ = .slice _) rfl rfl rfl (h.pick 4 [0,3,1,2]) rfl (by simp [aG]) z1.1 z1.2).mono ?_;rintro _ d6 ⟨a1,a5,rfl,h⟩;refine ⟨_,_,_,rfl,bj (h.pick 4 [2,0,3]) σ λb0 h=>?_⟩;have h:St b0 (aH kt [.slice a1 (ss'.length + 1) a5,.int .i64 (G + 1),.int .i64 ((ss'.length:Int) + 1)] :: own 2 a1 (ss'.length + 1) a5 (xZ ss' ++ [.slice R (aO g K (s:Int)).length O,.slice none 0 0]) :: own 2 R (aO g K (s:Int)).length O (tv (aO g K (s:Int))) :: aC (BU ss') :: aC (x_ ss') :: own 2 oc (cls g K).length cc (tv (cls g K)) :: aH k2 z3 :: all w1):=h;have h:=St.snoc (h.pick 4 [2,3,0,1]);have h:=St.snoc ((ay 2 h).pick 5 [0,4,1,2,3]);have h:St b0 (aC (x_ ss' ++ [own 2 none 0 0 []]) :: aC (BU ss' ++ [own 2 R (aO g K (s:Int)).length O (tv (aO g K (s:Int)))]) :: aH kt [.slice a1 (ss'.length + 1) a5,.int .i64 (G + 1),.int .i64 ((ss'.length:Int) + 1)] :: own 2 a1 (ss'.length + 1) a5 (xZ ss' ++ [.slice R (aO g K (s:Int)).length O,.slice none 0 0]) :: own 2 oc (cls g K).length cc (tv (cls g K)) :: aH k2 z3 :: all w1):=h;have e3:xZ (ss' ++ [(((R,O),aO g K (s:Int)),((none,0),[]))]) = xZ ss' ++ [.slice R (aO g K (s:Int)).length O,.slice none 0 0]:=by rw [Jn]; rfl
 have e4:BU (ss' ++ [(((R,O),aO g K (s:Int)),((none,0),[]))]) = BU ss' ++ [own 2 R (aO g K (s:Int)).length O (tv (aO g K (s:Int)))]:=by simp [BU,bB]
 have e5:x_ (ss' ++ [(((R,O),aO g K (s:Int)),((none,0),[]))]) = x_ ss' ++ [own 2 none 0 0 []]:=by simp [x_,bB,Kq]
 have e6:(ss' ++ [(((R,O),aO g K (s:Int)),(((none,0),[]):Lq aS))]).length = ss'.length + 1:=σ
 have e7:((ss'.length:Int) + 1) = ((ss'.length + 1:Nat):Int):=ω
 have ci:((bV ss').idxOf (aO g K (s:Int)):Nat) = ss'.length:=by rw [List.idxOf_eq_length hm,dZ]
 rw [<- e3,<- e4,<- e5,e7,<- e6] at h;obtain ⟨q2,aT⟩ : ∃ q2,(fM ss' R O (aO g K (s:Int)))[i]? = some q2:=⟨_,YU ω⟩;have a3:=aT;rw [W] at a3;have e8:q2 = q:=by rw [Y8 ω,V] at a3; exact (Option.some.inj a3).symm
 subst e8;refine Qg (t:=(ss'.length:Int)) (h.pick 4 [2,3,0,1]) a3 (by rw [a8]; omega) λcb E hE h=>?_;have hn:=hL.next (b:=R) (d:=O) (q:=q2) h3 ω X (by rw [W,e6]; omega) aT E (by rw [hE,a8,ci]);rw [W] at hn;have e2:=Ah a3 E
 refine ⟨a9,⟨s + 1,_,E.2,a1,a5,G + 1,σ,ω,h2,hn,by rw [Zn,e6]; omega,λr Z=>?_,?_⟩,aa⟩
 ·rcases aaq Z with Z | rfl
  ·rcases YY.1 Z with Z | Z
   ·exact U r Z
   ·rw [Zl] at Z; subst Z; exact b6
  ·exact U q2 (YV V)
 ·rw [Zn,e2.2.1];exact h.pick 4 [0,1,3,2]
end
theorem Jw {α : Type} [qk α] {h:Hp} {xs:List α} {b:Nat} {vs:List Value} (r:au h ⟨b,0,none⟩ vs) (hx:∀ (i:Nat) x,xs[i]? = some x->rd h x ((vs.drop (i * qk.n α)).take (qk.n α))):bh h xs (some ⟨b,0,none⟩) xs.length :=
 ⟨rfl,λi x hi=>by
  refine ⟨_,_,rfl,λj v u=>?_,hx i x hi⟩
  rw [ZT] at u
  split at u
  ·rw [Zv] at u
   rw [add_add,aN]
   exact r _ v u
  ·cases u⟩
def sV (g:af) (ss:List SQ) (ask int f:Int):Prop :=
 (¬ak g/\ss = []/\ask = 0/\int = 0/\f = 1)\/(ak g/\S6 g/\ss = []/\ask = 0/\int = 0/\f = 11)\/(ak g/\bw g ss/\ask = 1 + (y6 (bq ss):Int)/\int = (ss.length:Int)/\f = 0)
theorem sV.one {g:af} {ss ss' : List SQ} {a i f a' i' f' : Int} (h:sV g ss a i f) (h' : sV g ss' a' i' f'):bV ss = bV ss'/\bq ss = bq ss'/\a = a'/\i = i'/\f = f'/\ss.length = ss'.length:=by
 rcases h with ⟨G,rfl,rfl,rfl,rfl⟩ | ⟨G,O,rfl,rfl,rfl,rfl⟩ | ⟨G,hA,rfl,rfl,rfl⟩
 ·rcases h' with ⟨u,rfl,rfl,rfl,rfl⟩ | ⟨u,_⟩ | ⟨u,_⟩
  ·exact ⟨rfl,rfl,rfl,rfl,rfl,rfl⟩
  ·exact absurd u G
  ·exact absurd u G
 ·rcases h' with ⟨u,_⟩ | ⟨u,_,rfl,rfl,rfl,rfl⟩ | ⟨u,hA,_⟩
  ·exact absurd G u
  ·exact ⟨rfl,rfl,rfl,rfl,rfl,rfl⟩
  ·exact (DE hA.dn O).elim
 ·rcases h' with ⟨u,_⟩ | ⟨u,O,_⟩ | ⟨u,z,rfl,rfl,rfl⟩
  ·exact absurd G u
  ·exact (DE hA.dn O).elim
  ·have e:=Je hA.dn z.dn;have R:bq ss = bq ss':=by rw [hA.es,z.es,e]
   refine ⟨by rw [hA.ks,z.ks,e],R,by rw [R],by rw [e],rfl,e⟩
theorem bw.xv {g:af} {ss:List SQ} (hc:ak g) (h:bw g ss):∀ q∈ss,q.1.2.length<=29100/\q.2.2.length<=130:=λq W=>by
 obtain ⟨hT,hN,U,Y,_,_⟩:=hc.b9
 have z:=dE (g:=g) ω ss.length
 obtain ⟨j,G⟩:=Zr W
 have e:(cN g ss.length).1[j]? = some q.1.2:=by rw [<- h.ks]; unfold bV; rw [YW,G]; rfl
 have V:(cN g ss.length).2[j]? = some q.2.2:=by rw [<- h.es]; unfold bq; rw [YW,G]; rfl
 have R:=YV e
 have Z:=(YT.1 G).1
 have O:=h.dn.2.1
 refine ⟨yZ U (z.Rq _ R) (z.fit _ R) λx X=>by have:=z.dots j _ e x X; omega,?_⟩
 have key:∀ i,∀ es∈(cN g i).2,es.length<=g.T + g.N:=by
  intro i
  induction i with
  | zero=>intro es u; simp [cN] at u
  | succ i ih =>
   intro es u
   cases hi:(cN g i).1[i]? with
   | none=>rw [pJ hi] at u; exact ih es u
   | some K =>
    rw [ff hi] at u
    rcases YY.1 u with u | u
    ·exact ih es u
    ·rw [Zl] at u
     subst u
     rw [ml]
     have:=Zt (λs=>decide (aO g K (s:Nat)≠[])) (List.range (g.T + g.N))
     rw [ZX] at this
     simpa [bL] using this
 have:=key _ _ (YV V)
 omega
section
variable {w:aa4} {L:List az} {g:af} {x:GA}
theorem uB (hg:gR (hp w) g x) (hb:jd g):ρ Bq [.agg ⟨x.cells⟩] w λv w'=>∃ (o:aa3) (c:Nat) (ss:List SQ) (ask int f:Int),v = .tuple #[.agg #[.slice o ss.length c,.int .i64 ask,.int .i64 int],.int .i64 f]/\sV g ss ask int f/\St w' (own 2 o ss.length c (xZ ss) :: aC (BU ss) :: aC (x_ ss) :: all w):=by
 refine (Tf hg hb).mono ?_;have z:∀ {w' : aa4},Gr w w'->St w' (own 2 none 0 0 (xZ []) :: aC (BU []) :: aC (x_ []) :: all w):=λgr=>ay 2 ((St.flat (M:=[])).2 ((St.flat (M:=[])).2 (St.here gr)))
 rintro _ w' (⟨O,rfl,gr⟩ | ⟨G,u,rfl,gr⟩ | ⟨G,o,ss,hA,rfl,h⟩)
 ·exact ⟨none,0,[],0,0,1,rfl,.inl ⟨O,rfl,rfl,rfl,rfl⟩,z gr⟩
 ·exact ⟨none,0,[],0,0,11,rfl,.inr (.inl ⟨G,u,rfl,rfl,rfl,rfl⟩),z gr⟩
 ·exact ⟨o,_,ss,_,_,0,rfl,.inr (.inr ⟨G,hA,rfl,rfl,rfl⟩),h⟩
theorem Jy (hg:gR (hp w) g x) (hb:jd g):ρ kB [.agg ⟨x.cells⟩] w λv w'=>∃ (o:aa3) (c:Nat) (ss:List SQ) (ask int f:Int),v = .tuple #[.agg #[.slice o ss.length c,.int .i64 ask,.int .i64 int],.int .i64 f]/\sV g ss ask int f/\St w' (own 2 o ss.length c (xZ ss) :: aC (BU ss) :: aC (x_ ss) :: all w):=by
 refine (Tn hg hb).mono ?_;have z:∀ {w' : aa4},Gr w w'->St w' (own 2 none 0 0 (xZ []) :: aC (BU []) :: aC (x_ []) :: all w):=λgr=>ay 2 ((St.flat (M:=[])).2 ((St.flat (M:=[])).2 (St.here gr)))
 rintro _ w' (⟨O,rfl,gr⟩ | ⟨G,u,rfl,gr⟩ | ⟨G,o,c,ss,hA,rfl,h⟩)
 ·exact ⟨none,0,[],0,0,1,rfl,.inl ⟨O,rfl,rfl,rfl,rfl⟩,z gr⟩
 ·exact ⟨none,0,[],0,0,11,rfl,.inr (.inl ⟨G,u,rfl,rfl,rfl,rfl⟩),z gr⟩
 ·exact ⟨o,_,ss,_,_,0,rfl,.inr (.inr ⟨G,hA,rfl,rfl,rfl⟩),h⟩
end
section
variable {g:af} {K:cQ} {st:List cQ} {n i j:Nat}
theorem MK {k:cQ}:(rK st k)[st.idxOf k]? = some k:=by
 unfold rK
 split
 ·rename_i h;rw [YU (aaN h),List.getElem_idxOf]
 ·rename_i h;rw [List.idxOf_eq_length h,Y_ (Zc _),Z0]; rfl
theorem DO:∀ (l:List Nat) (st:List cQ) (es:List aS) (k s:Nat),l[k]? = some s->∃ to:Nat,(lW g K l (st,es)).2[es.length + k]? = some ⟨(s:Int),(to:Int)⟩/\(lW g K l (st,es)).1[to]? = some (aO g K (s:Int))
 | [],_,_,_,_,h=>by simp at h
 | a :: l,st,es,0,s,h=>by
  simp at h; subst h
  refine ⟨st.idxOf (aO g K (a:Int)),?_,?_⟩
  ·show (lW g K l (rK st (aO g K (a:Int)),es ++ [⟨(a:Int),_⟩])).2[es.length + 0]? = _
   have pre:∀ (l:List Nat) (st:List cQ) (es:List aS) (k:Nat) e,es[k]? = some e->(lW g K l (st,es)).2[k]? = some e:=by
    intro l
    induction l with
    | nil=>exact λst es k e h=>h
    | cons b l ih =>
     intro st es k e h
     exact ih _ _ k e (by rw [Y8 (YT.1 h).1]; exact h)
   exact pre l _ _ _ _ (by rw [Nat.add_zero,Y_ (Zc _),Z0]; rfl)
  ·show (lW g K l (rK st (aO g K (a:Int)),es ++ [⟨(a:Int),_⟩])).1[_]? = _
   exact uh l _ _ _ _ MK
 | a :: l,st,es,k + 1,s,h=>by
  obtain ⟨to,h1,h2⟩:=DO l (rK st (aO g K (a:Int))) (es ++ [⟨(a:Int),((st.idxOf (aO g K (a:Int)):Nat):Int)⟩]) k s (by simpa using h)
  refine ⟨to,?_,h2⟩
  rw [Y0,aaT] at h1
  rw [show es.length + (k + 1) = es.length + 1 + k by omega]
  exact h1
theorem N8 {i n:Nat} (h:i<=n) (j:Nat) (e:List aS) (he:(cN g i).2[j]? = some e):(cN g n).2[j]? = some e:=by
 induction h with
 | refl=>exact he
 | @step m _ ih =>
  cases hi:(cN g m).1[m]? with
  | none=>rw [pJ hi]; exact ih
  | some K=>rw [ff hi,Y8 (YT.1 ih).1]; exact ih
theorem fN {ss:List SQ} (h:bw g ss) {i:Nat} {q:SQ} (hq:ss[i]? = some q):(cN g i).1[i]? = some q.1.2/\q.2.2 = (lW g q.1.2 (bL g q.1.2) ((cN g i).1,[])).2/\∀ (j:Nat) K,(cN g (i + 1)).1[j]? = some K->∃ r,ss[j]? = some r/\r.1.2 = K:=by
 have u:=(YT.1 hq).1;have O:=h.dn.2.2 i u;have Z:(cN g ss.length).1[i]? = some q.1.2:=by rw [<- h.ks]; unfold bV; rw [YW,hq]; rfl
 obtain ⟨K,U⟩ : ∃ K,(cN g i).1[i]? = some K:=⟨_,YU O⟩;have V:=yV (Nat.le_of_lt u) i K U;rw [Z] at V;cases V
 refine ⟨U,?_,λj K' W=>?_⟩
 ·have Y:=ff U;have R:=He (g:=g) i ω
  have X:(cN g (i + 1)).2[i]? = some (lW g q.1.2 (bL g q.1.2) ((cN g i).1,[])).2:=by
   rw [Y,Y_ ω,R,Z0]; rfl
  have G:=N8 u i _ X;rw [<- h.es] at G;unfold bq at G;rw [YW,hq] at G;exact Option.some.inj G
 ·have z:=yV u j K' W;rw [<- h.ks] at z;unfold bV at z;rw [YW] at z;cases hr:ss[j]? with
  | none=>rw [hr] at z; cases z
  | some r=>rw [hr] at z; exact ⟨r,rfl,Option.some.inj z⟩
theorem bw.pos {ss:List SQ} (h:bw g ss):0 < ss.length:=by
 refine aaV λh0=>?_;have:=h.dn.1;rw [h0] at this;simp [cN] at this
end
section
variable {g:af} {K K' : cQ} {s s' : Int} {ss:List SQ}
theorem Qh (h:aO g K s = aO g K' s') (hne:aO g K s≠[]):s = s':=by
 obtain ⟨x,G⟩:=aai _ hne;have u:=G;rw [h] at u;obtain ⟨y,_,R,rfl⟩:=de.1 G;obtain ⟨z,_,O,e⟩:=de.1 u;injection e with U V
 have:y = z:=ai.ext' U ω;rw [<- R,<- O,this]
theorem ML:∀ (l:List Nat) (st:List cQ) (es:List aS) (j:Nat) (L:cQ),st.length<=j->(lW g K l (st,es)).1[j]? = some L->∃ k s:Nat,l[k]? = some s/\L = aO g K (s:Int)/\(lW g K l (st,es)).2[es.length + k]? = some ⟨(s:Int),(j:Int)⟩
 | [],st,es,j,L,hj,h=>by
  have:=(YT.1 h).1
  have h2:(lW g K [] (st,es)).1.length = st.length:=rfl
  omega
 | a :: l,st,es,j,L,hj,h=>by
  by_cases hlt:(rK st (aO g K (a:Int))).length<=j
  ·obtain ⟨k,s,h1,h2,h3⟩:=ML l (rK st (aO g K (a:Int))) (es ++ [(⟨(a:Int),((st.idxOf (aO g K (a:Int)):Nat):Int)⟩ : aS)]) j L hlt h
   refine ⟨k + 1,s,by simpa using h1,h2,?_⟩
   rw [Y0,aaT] at h3
   rw [show es.length + (k + 1) = es.length + 1 + k by omega]
   exact h3
  ·have hn:aO g K (a:Int)∉st:=λhm=>by
    have:(rK st (aO g K (a:Int))).length = st.length:=by unfold rK; rw [Y5 hm]
    omega
   have hlen:(rK st (aO g K (a:Int))).length = st.length + 1:=by unfold rK; rw [YZ hn]; simp
   have hjs:j = st.length:=ω
   obtain ⟨to,h1,h2⟩:=DO (g:=g) (K:=K) (a :: l) st es 0 a rfl
   have e:st.idxOf (aO g K (a:Int)) = st.length:=List.idxOf_eq_length hn
   have hj2:(rK st (aO g K (a:Int)))[j]? = some (aO g K (a:Int)):=by rw [hjs,<- e]; exact MK
   have hL:=uh l (rK st (aO g K (a:Int))) (es ++ [(⟨(a:Int),((st.idxOf (aO g K (a:Int)):Nat):Int)⟩ : aS)]) j _ hj2 (g:=g) (K:=K)
   have h:(lW g K l (rK st (aO g K (a:Int)),es ++ [(⟨(a:Int),((st.idxOf (aO g K (a:Int)):Nat):Int)⟩ : aS)])).1[j]? = some L:=h
   rw [hL] at h
   refine ⟨0,a,rfl,(Option.some.inj h).symm,?_⟩
   have pre:∀ (l:List Nat) (st:List cQ) (es:List aS) (k:Nat) e,es[k]? = some e->(lW g K l (st,es)).2[k]? = some e:=by
    intro l
    induction l with
    | nil=>exact λst es k e h=>h
    | cons b l ih =>
     intro st es k e h
     exact ih _ _ k e (by rw [Y8 (YT.1 h).1]; exact h)
   show (lW g K l (rK st (aO g K (a:Int)),es ++ [⟨(a:Int),_⟩])).2[es.length + 0]? = _
   exact pre l _ _ _ _ (by rw [Nat.add_zero,Y_ (Zc _),Z0,hjs,e]; rfl)
theorem fh (hc:ak g) (h:bw g ss) {i:Nat} {q:SQ} (hq:ss[i]? = some q) {m:Nat} {e:aS} (he:q.2.2[m]? = some e):1<=e.sym/\e.sym < g.T + g.N/\∃ (j:Nat) (r:SQ),e.to = j/\1<=j/\ss[j]? = some r/\r.1.2 = aO g q.1.2 e.sym/\aO g q.1.2 e.sym≠[]:=by
 obtain ⟨X,Y,W⟩:=fN h hq;obtain ⟨_,_,_,a0,_,_⟩:=hc.b9;have hI:=dE (g:=g) ω i;have G:=hI.fit _ (YV X)
 have U:m < (bL g q.1.2).length:=by
  have:=(YT.1 he).1;rw [Y,ml] at this;simpa using this
 obtain ⟨to,u,h2⟩:=DO (g:=g) (K:=q.1.2) (bL g q.1.2) (cN g i).1 [] m _ (YU U);rw [<- Y] at u;have u:q.2.2[m]? = some ⟨(((bL g q.1.2)[m] : Nat):Int),(to:Int)⟩:=by simpa using u
 rw [he] at u;have u:=Option.some.inj u;have V:=vh (g:=g) (K:=q.1.2) _ (List.getElem_mem U);obtain ⟨r,Z,R⟩:=W to _ (by rw [ff X]; exact h2);have O:=uv hc G (Zx _) V;rw [u];refine ⟨O.1,O.2,to,r,rfl,aaV λh0=>?_,Z,R,V⟩;subst h0;have z:(cN g ss.length).1[0]? = some [⟨0,0⟩]:=yV (Y4 _) 0 _ rfl;rw [<- h.ks] at z;unfold bV at z;rw [YW,Z] at z;have z:r.1.2 = [⟨0,0⟩]:=Option.some.inj z;rw [R] at z;have hm:(⟨0,0⟩ : ai)∈aO g q.1.2 (((bL g q.1.2)[m] : Nat):Int):=by rw [z]; simp
 obtain ⟨y,hy,_,e⟩:=de.1 hm;injection e with _ e2
 have:=(hy.fit G).2.1;omega
theorem Jz (hc:ak g) (h:bw g ss) {j:Nat} (hj:1<=j) (hjl:j < ss.length):∃ (i:Nat) (q:SQ) (m:Nat) (e:aS),i < j/\ss[i]? = some q/\q.2.2[m]? = some e/\e.to = j:=by
 have key:∀ n,n<=ss.length->j < (cN g n).1.length->∃ (i:Nat) (K:cQ),i < n/\(cN g i).1[i]? = some K/\(cN g i).1.length<=j/\j < (cN g (i + 1)).1.length:=by
  intro n
  induction n with
  | zero=>intro _ z; have:(cN g 0).1.length = 1:=rfl; omega
  | succ n ih =>
   intro hn z
   by_cases G:j < (cN g n).1.length
   ·obtain ⟨i,K,O,R⟩:=ih ω G;exact ⟨i,K,ω,R⟩
   ·exact ⟨n,_,Nat.lt_succ_self n,YU (h.dn.2.2 n ω),ω,z⟩
 obtain ⟨i,K,X,z,G,O⟩:=key ss.length (Zc _) (by rw [h.dn.1]; exact hjl);have u:i < ss.length:=X;obtain ⟨q,U⟩ : ∃ q,ss[i]? = some q:=⟨_,YU u⟩;obtain ⟨V,Z,_⟩:=fN h U;rw [z] at V;cases V;have W:=h.dn.2.2 i u;rw [ff z] at O;obtain ⟨m,s,R,h6,Y⟩:=ML (g:=g) (bL g q.1.2) (cN g i).1 [] j _ G (YU O);exact ⟨i,q,m,_,ω,U,by rw [Z]; simpa using Y,rfl⟩
noncomputable def Xc (g:af) (ss:List SQ) (j:Nat):Int:=Classical.epsilon λs:Int=>∃ (r:SQ) (K:cQ),ss[j]? = some r/\(∀ x∈K,kN g x)/\r.1.2 = aO g K s/\aO g K s≠[]/\1<=s
theorem To {j:Nat} {r:SQ} {K:cQ} {s:Int} (hr:ss[j]? = some r) (hf:∀ x∈K,kN g x) (hk:r.1.2 = aO g K s) (hne:aO g K s≠[]) (hs:1<=s):Xc g ss j = s:=by
 obtain ⟨O,K',u,_,z,G,_⟩:=Classical.epsilon_spec (p:=λs:Int=>∃ (r:SQ) (K:cQ),ss[j]? = some r/\(∀ x∈K,kN g x)/\r.1.2 = aO g K s/\aO g K s≠[]/\1<=s) ⟨s,r,K,hr,hf,hk,hne,hs⟩;rw [hr] at u;cases u
 show Classical.epsilon _ = s
 exact Qh (z.symm.trans hk) G
theorem Tp (hc:ak g) (h:bw g ss) {j:Nat} (hj:1<=j) {r:SQ} (hr:ss[j]? = some r) {x:ai} (hx:x∈r.1.2):0<=x.prod/\1<=x.dot/\∃ p,g.prods[x.prod.toNat]? = some p/\x.dot<=p.right.length/\p.right[(x.dot - 1).toNat]? = some (Xc g ss j):=by
 obtain ⟨i,q,m,e,X,R,Z,a0⟩:=Jz hc h hj (YT.1 hr).1;obtain ⟨h1,h2,W,r',e1,_,G,V,O⟩:=fh hc h R Z;have:W = j:=ω
 subst this;rw [hr] at G;cases G;obtain ⟨hK,_⟩:=fN h R;obtain ⟨_,_,_,a1,_,_⟩:=hc.b9;have u:=(dE (g:=g) ω i).fit _ (YV hK);rw [To hr u V O h1];rw [V] at hx;obtain ⟨y,U,Y,rfl⟩:=de.1 hx;obtain ⟨p,hp,h3,h4⟩:=DC (U.fit u) Y ω;have z:=U.fit u;refine ⟨z.1,by have:=z.2.1; show 1<=y.dot + 1; omega,p,hp,by show y.dot + 1<=_; omega,?_⟩
 show p.right[(y.dot + 1 - 1).toNat]? = _
 rw [show y.dot + 1 - 1 = y.dot by omega];exact h4
end
class k_ (κ : Type) extends MVal κ where
 a:κ->Int
 b:κ->Int
 val2:∀ k,toMVal.val k = .agg ⟨[.int .i64 (a k),.int .i64 (b k)]⟩
 ext:∀ k l,a k = a l->b k = b l->k = l
section
variable {P:Program} {κ : Type} [DecidableEq κ] [k_ κ] {kt ti:TypeId} {f0 f1:Field}
structure WN (P:Program) (kt ti:TypeId) (f0 f1:Field):Prop where
 ht:P.underlying kt = some (.struct (P.fieldsOf kt))
 hf:P.fieldsOf kt = #[f0,f1]
 hi:P.underlying ti = some (.int .i64)
 ht0:f0.type = ti
 ht1:f1.type = ti
 n0 : f0.name ≠ "_"
 n1 : f1.name ≠ "_"
 o0:f0.offset = 0
 o1:f1.offset = 1
 sih:P.stoodInHeld kt = false
theorem Lg (T:WN P kt ti f0 f1) (w:aa4) (x y u v:Int):(Op.equal kt (.agg #[.int .i64 x,.int .i64 y]) (.agg #[.int .i64 u,.int .i64 v])).run P w = .ok (decide (x = u/\y = v)) w:=by
 have O:∀ (v u:Value) (w:aa4),(part ti #[v,u] 0).run P w = .ok v w:=λv u w=>by simp [part,dR T.hi,fb,Kd.isAgg]
 have G:∀ (v u:Value) (w:aa4),(part ti #[v,u] 1).run P w = .ok u w:=λv u w=>by simp [part,dR T.hi,fb,Kd.isAgg]
 have z:∀ n m d w,(Op.equalIn (d + 1) ti (.int .i64 n) (.int .i64 m)).run P w = .ok (n == m) w:=λn m d w=>run_equalIn_int w d _ _ _ _ _ T.hi
 show (Op.equalIn (9998 + 1 + 1) kt _ _).run P w = _
 rw [run_equalIn_agg w (9998 + 1) kt _ _ T.ht T.sih,T.hf];have n0:=T.n0;have n1:=T.n1
 have e:decide (x = u/\y = v) = (x == u && y == v):=by
  rw [ZI]; simp
 rw [e];unfold Op.eqFields;simp only [ne_eq,n0,not_false_eq_true,if_true,Sem.run_bind,T.ht0,T.o0,O,Result.andThen_ok,z]
 cases hq:(x == u)
 ·simp
 ·unfold Op.eqFields;simp only [ne_eq,n1,not_false_eq_true,if_true,Sem.run_bind,T.ht1,T.o1,G,Result.andThen_ok,z,Bool.not_true,aav,if_false]
  cases hn:(y == v)
  ·simp
  ·unfold Op.eqFields; simp
theorem JA (T:WN P kt ti f0 f1) (w:aa4) (k:κ):∀ (es:List MapEntry) (m:List (κ × Value)) (i:Nat),es.map (λe=>(e.key,e.val)) = m.map (λx=>(MVal.val x.1,x.2)) ->
  ∃ r,(Instr.findAsking kt (MVal.val k) es i).run P w = .ok r w/\(r.map (·.2)) = assoc k m/\(∀ j v,r = some (j,v)->i<=j/\j < i + m.length/\(m[j - i]?).map (·.1) = some k/\∀ u,bU k u m = m.set (j - i) (k,u))/\(r = none->∀ u,bU k u m = m ++ [(k,u)])
 | [],[],i,_=>⟨none,rfl,rfl,λj v h=>(by cases h),λ_ u=>rfl⟩
 | [],_ :: _,i,h=>by simp at h
 | _ :: _,[],i,h=>by simp at h
 | e :: es,(a,v) :: m,i,h=>by
  simp only [ZF,List.cons.injEq,Prod.mk.injEq] at h
  obtain ⟨⟨h1,h2⟩,h3⟩:=h
  have he:(Op.equal kt (MVal.val k) e.key).run P w = .ok (decide (k = a)) w:=by
   rw [h1,k_.val2,k_.val2]
   have:=Lg T w (k_.a k) (k_.b k) (k_.a a) (k_.b a)
   have e2:decide (k_.a k = k_.a a/\k_.b k = k_.b a) = decide (k = a):=decide_eq_decide.2 ⟨λ⟨h1,h2⟩=>k_.ext k a h1 h2,λh=>by rw [h]; exact ⟨rfl,rfl⟩⟩
   rw [e2] at this
   exact this
  unfold Instr.findAsking
  simp only [Sem.run_bind,he,Result.andThen_ok]
  by_cases hk:k = a
  ·subst hk
   refine ⟨some (i,e.val),σ,by simp [assoc,h2],λj u hj=>?_,λhn=>by cases hn⟩
   cases hj
   simp [bU]
  ·obtain ⟨r,q1,q2,q3,q4⟩:=JA T w k es m (i + 1) h3
   refine ⟨r,by simp [hk,q1],by simp [assoc,hk,q2],λj u hj=>?_,λhn u=>by simp [bU,hk,q4 hn u]⟩
   obtain ⟨p1,p2,p3,p4⟩:=q3 j u hj
   have e1:j - i = (j - (i + 1)) + 1:=ω
   refine ⟨ω,by simp; omega,by rw [e1]; simpa using p3,λu=>by rw [e1]; simp [bU,hk,p4 u]⟩
theorem ua.two (T:WN P kt ti f0 f1):ua P kt κ where
 check:=λw R k=>by
  rw [k_.val2]
  have G:=T.ht
  rw [T.hf] at G
  have X:∀ (v u:Value) (w:aa4),(part ti #[v,u] 0).run P w = .ok v w:=λv u w=>by simp [part,dR T.hi,fb,Kd.isAgg]
  have p1:∀ (v u:Value) (w:aa4),(part ti #[v,u] 1).run P w = .ok u w:=λv u w=>by simp [part,dR T.hi,fb,Kd.isAgg]
  have Y:∀ (n:Nat) (z:Int) (w:aa4),(Instr.checkKey R (n + 1) ti (.int .i64 z)).run P w = .ok () w:=λn z w=>MapKept.run_checkKey (P:=P) (w:=w) T.hi (by exact rfl) R n
  show (Instr.checkKey R (9998 + 1 + 1) kt _).run P w = _
  unfold Instr.checkKey
  simp only [Sem.run_bind,run_underlying G,Result.andThen_ok]
  have n0:=T.n0
  have n1:=T.n1
  simp [n0,n1,T.ht0,T.ht1,T.o0,T.o1,Sem.run_bind,X,p1,Y]
 find:=λw k es m U=>by
  obtain ⟨r,O,q2,q3,Z⟩:=JA T w k es m 0 U
  refine ⟨r,?_,q2,λj v hj=>?_,Z⟩
  ·have G:=T.ht
   cases es with
   | nil =>
    cases m with
    | nil=>simp [Instr.findKey,run_underlying G,Instr.findNow]; unfold Instr.findAsking at O; simpa using O
    | cons _ _=>simp at U
   | cons e es =>
    have hn:Instr.findNow (.struct (P.fieldsOf kt)) (MVal.val k) (e :: es) 0 = none:=by
     unfold Instr.findNow
     simp [Instr.sameNow]
    simp only [Instr.findKey,Sem.run_bind,run_underlying G,Result.andThen_ok,hn]
    exact O
  ·obtain ⟨_,p2,W,V⟩:=q3 j v hj
   rw [Nat.sub_zero] at W V
   exact ⟨ω,W,V⟩
 bits:=λk=>by rw [k_.val2]; simp [Instr.sameBits]
end
structure av where
 st:Int
 sym:Int
deriving DecidableEq
instance:Inhabited av:=⟨⟨0,0⟩⟩
instance:qk av:={ n:=2,rd:=λ_ x vs=>vs = [.int .i64 x.st,.int .i64 x.sym],mono:=λ_ h=>h,len:=λh=>by rw [h]; rfl }
instance:k_ av:={ val:=λk=>.agg ⟨[.int .i64 k.st,.int .i64 k.sym]⟩,inj:=λa b h=>by cases a; cases b; simp at h; obtain ⟨h1,h2⟩:=h; subst h1; subst h2; rfl,a:=av.st,b:=av.sym,val2:=λ_=>rfl,ext:=λk l h1 h2=>by cases k; cases l; cases h1; cases h2; rfl }
def DP (x:av):List Value:=[.int .i64 x.st,.int .i64 x.sym]
def FZ (xs:List av):List Value:=xs.flatMap DP
theorem Tq (xs:List av):(FZ xs).length = xs.length * 2:=om (f:=DP) (n:=2) (λ_=>rfl) xs
theorem Tr (xs ys:List av):FZ (xs ++ ys) = FZ xs ++ FZ ys:=ZB
theorem Cw {h:Hp} {xs:List av} {a:aa3} {l:Nat} (hl:xs.length = l) (r:fo a (FZ xs) h):bh h xs a l:=by
 refine ⟨hl,λi x z=>?_⟩
 rcases r with e | ⟨u,rfl,G⟩
 ·have O:=congrArg List.length e;rw [Tq,ZJ] at O;have:=(YT.1 z).1; omega
 ·exact ⟨u,DP x,rfl,bY (n:=2) (λ_=>rfl) xs u G i x z,rfl⟩
theorem uC {h:Hp} {xs:List av} {a:aa3} {l:Nat} (r:bh h xs a l) {i:Nat} (hi:i < l):∃ x ad,xs[i]? = some x/\a = some ad/\au h (ad.add (cE i 2)) (DP x):=by
 obtain ⟨x,ad,vs,z,G,u,e⟩:=r.get hi;rw [show vs = DP x from e] at u;exact ⟨x,ad,z,G,u⟩
def fy (ss:List SQ) (i:Nat) (s:Int):Option Int:=match ss[i]? with
 | none=>none
 | some q=>(q.2.2.find? λe=>decide (e.sym = s)).map (·.to)
def fO (g:af) (i:Nat) (es:List aS):List av:=(es.filter λe=>decide ((g.T:Int)<=e.sym)).map λe=>⟨(i:Int),e.sym⟩
def vk (g:af) (ss:List SQ):Nat->List av
 | 0=>[]
 | i + 1=>vk g ss i ++ (match ss[i]? with | some q=>fO g i q.2.2 | none=>[])
def bD (g:af) (ss:List SQ):List av:=vk g ss ss.length
def iY (g:af) (ss:List SQ) (t:av):List Int :=
 (if t = ⟨0,g.start⟩ then [0] else []) ++ (match fy ss t.st.toNat t.sym with
  | none=>[]
  | some j=>(match ss[j.toNat]? with | none=>[] | some q=>(q.2.2.filter λe=>decide (e.sym < (g.T:Int))).map (·.sym)))
def cK (ss:List SQ):Int->List Int->Int
 | q,[]=>q
 | q,s :: l=>match fy ss q.toNat s with
  | none=>-1
  | some j=>cK ss j l
section
variable {g:af} {ss:List SQ}
theorem pQ {i:Nat} {q:SQ} (hq:ss[i]? = some q):vk g ss (i + 1) = vk g ss i ++ fO g i q.2.2:=by
 show vk g ss i ++ (match ss[i]? with | some q=>fO g i q.2.2 | none=>[]) = _
 rw [hq]
theorem F4 {i:Nat} {es:List aS} {e:aS}:fO g i (es ++ [e]) = if (g.T:Int)<=e.sym then fO g i es ++ [⟨(i:Int),e.sym⟩] else fO g i es:=by
 unfold fO;rw [Zs,Zg];by_cases h:(g.T:Int)<=e.sym <;> simp [h]
theorem mu {i:Nat} {q:SQ} (hq:ss[i]? = some q) (s:Int):fy ss i s = (q.2.2.find? λe=>decide (e.sym = s)).map (·.to):=by unfold fy; rw [hq]
theorem DQ (h:bw g ss) {i:Nat} {q:SQ} (hq:ss[i]? = some q):q.2.2.map (·.sym) = (bL g q.1.2).map Int.ofNat:=by
 obtain ⟨z,u,_⟩:=fN h hq
 have key:∀ (l:List Nat) (st:List cQ) (es:List aS),(lW g q.1.2 l (st,es)).2.map (·.sym) = es.map (·.sym) ++ l.map Int.ofNat:=by
  intro l
  induction l with
  | nil=>intro st es; simp [lW]
  | cons a l ih =>
   intro st es
   show (lW g q.1.2 l _).2.map _ = _
   rw [ih]; simp
 have:=key (bL g q.1.2) (cN g i).1 [];rw [<- u] at this;simpa using this
theorem MM:∀ {es:List aS} {k:Nat} {e:aS},(es.map (·.sym)).Nodup->es[k]? = some e->(es.find? λx=>decide (x.sym = e.sym)) = some e
 | [],k,e,_,h=>by simp at h
 | x :: es,0,e,_,h=>by simp at h; subst h; simp
 | x :: es,k + 1,e,hn,h=>by
  rw [ZF,ZR] at hn
  have h:es[k]? = some e:=by simpa using h
  have hne:x.sym≠e.sym:=λe2=>hn.1 (by rw [e2]; exact Zh.2 ⟨e,YV h,rfl⟩)
  rw [List.find?_cons,Zu hne]
  exact MM hn.2 h
theorem Ai (h:bw g ss) {i:Nat} {q:SQ} (hq:ss[i]? = some q):(q.2.2.map (·.sym)).Nodup:=by
 rw [DQ h hq,ZH,ZO];exact (xr g q.1.2).imp λh e=>by simp at e; omega
theorem pR (h:bw g ss) {i:Nat} {q:SQ} (hq:ss[i]? = some q) {k:Nat} {e:aS} (he:q.2.2[k]? = some e):fy ss i e.sym = some e.to:=by
 rw [mu hq,MM (Ai h hq) he]; rfl
theorem qN {i:Nat} {s:Int} {j:Int} (h:fy ss i s = some j):∃ (q:SQ) (k:Nat) (e:aS),ss[i]? = some q/\q.2.2[k]? = some e/\e.sym = s/\e.to = j:=by
 unfold fy at h;cases hq:ss[i]? with
 | none=>rw [hq] at h; cases h
 | some q =>
  rw [hq] at h;simp only [aaP] at h;obtain ⟨e,u,rfl⟩:=h;obtain ⟨k,z⟩:=Zr (List.mem_of_find?_eq_some u);have:=List.find?_some u;exact ⟨q,k,e,rfl,z,YR this,rfl⟩
end
def ou:bm:={ rngs:=[],loops:=[],joins:=[],blocks:=[] }
section
variable {a b c d:aa3} {i j k l m n o p:Nat} {A:Int} {w:aa4} {R:Value->WP}
theorem dK (h:lR a i j none (some (i:Int)) (some (i:Int)) 1 λ(a:aa3) (b c:Nat)=>R (vS a b c) w):ρ 107 [(.slice a i j)] w R:=rv Tryz.func107 ou (by kernel_rfl) h
def iH:bm:={ rngs:=[],loops:=[],joins:=[],blocks:=[] }
theorem iJ (h:lR a i j none (some (i:Int)) (some (i:Int)) 3 λ(a:aa3) (b c:Nat)=>R (vS a b c) w):ρ 108 [(.slice a i j)] w R:=rv Tryz.func108 iH (by kernel_rfl) h
abbrev mv:FuncId:=158
def Aj:bm:={ rngs:=[],loops:=[(6,[(6,(.one .slice)),(23,(.one (.int .i64)))]),(12,[(9,(.one .slice)),(50,(.one (.int .i64)))])],joins:=[(11,[(9,(.one .slice))])],blocks:=[] }
theorem Ak (h:new w (ψ a i j b k l c m n A d o p) λa b=>χ b (aM a) λc=>rE 200 [c] b λb c=>∃ d e,b = vU [vP d,iI e]/\br (e != 0) (R (vU [vS none 0 0,iI e]) c) (rE 201 [vP d] c λb c=>∃ e f g,b = vS e f g/\τ [(6,fD),(23,aB)] λb g=>b none 0 0 0 c/\∀ (_:ν) c h i j k,b c h i j k->br (decide (j < (f:Int))) (idx e f j 2 λe=>∃ f l,rA k e 2 [iI f,iI l]/\new k (oC [iI 0,iI 0] 184) λe m=>da m (aM e) [iI f,iI l] λf=>∃ (l:lP [(9,fD)]),(∃ b c,rA f (aM e) 2 [iI b,iI c]/\∃ d,cL f (Addr.add (aM a) 3) (iI d)/\∃ a,Sem.run Proofs.Tryz.prog (je BinOp.eql 184 (Operand.tmp 27) (Operand.tmp 30) (vG [iI b,iI c]) (vG [iI 0,iI d])) f = Result.ok a f/\∃ b,a = vB b/\br b (new f (oC [iI 0] 3) λa b=>rS (fe 24 (Array.mk [vS none 0 0,vS (some (aM a)) 1 1])) b λa b=>∃ c d e,a = vS c d e/\l c d e b) (l none 0 0 f))/\∀ (_:ν) f m n o,l f m n o->∀ l,drawn o l->∃ (o:WP),o l/\nn d λp=>∃ q r s,(∀ a,o a->cL a (Addr.add p 5) (vS q r s))/\nn d λd=>∃ p,(∀ a,o a->cL a (Addr.add d 8) (Value.map p))/\∃ d s,(∀ a,o a->rA a (aM e) 2 [iI d,iI s])/\bf Proofs.Tryz.prog (Instr.lookup 180 (Value.map p) (vG [iI d,iI s]) false) l λd e=>∃ l,d = iI l/\∃ (d:WP),d e/\(∀ a,d a->o a)/\idx q r l 2 λl=>∃ o p q,(∀ a,d a->cL a (Addr.add l 1) (vS o p q))/\τ [(9,fD),(50,aB)] λd l=>d f m n 0 e/\∀ (_:ν) e f m n q,d e f m n q->br (decide (n < (p:Int))) (idx o p n 2 λb=>∃ c g,rA q b 2 [iI c,iI g]/\new q (oC [iI 0,iI 0] 56) λb h=>da h (aM b) [iI c,iI g] λc=>∃ g,cL c (aM b) (iI g)/\∃ h i j,cL c (aM a) (vS h i j)/\br (decide (g < (i:Int))) (∃ a,cL c (aM b) (iI a)/\new c (oC [iI a] 3) λa b=>rS (fe 24 (Array.mk [vS e f m,vS (some (aM a)) 1 1])) b λa b=>∃ c g h,a = vS c g h/\ax (n + 1)/\d c g h (n + 1) b/\l c g h (n + 1) b < l e f m n q) (ax (n + 1)/\d e f m (n + 1) c/\l e f m (n + 1) c < l e f m n q)) (rE 107 [vS e f m] q λa d=>∃ e f l,a = vS e f l/\new d (oC [vS e f l] 24) λa d=>rS (fe 71 (Array.mk [vS c h i,vS (some (aM a)) 1 1])) d λa d=>∃ e f l,a = vS e f l/\ax (j + 1)/\b e f l (j + 1) d/\g e f l (j + 1) d < g c h i j k)) (rE 202 [vS c h i] k λa b=>∃ c d e,a = vS c d e/\R (vU [vS c d e,iI 0]) b))):ρ 158 [φ a i j b k l c m n A d o p] w R:=rv Tryz.func158 Aj (by kernel_rfl) h
abbrev Hq:FuncId:=163
def DR:bm:={ rngs:=[],loops:=[],joins:=[],blocks:=[] }
theorem DS (h:new w (ψ a i j b k l c m n A d o p) λa b=>χ b (aM a) λa=>rE 200 [a] b λa b=>∃ c d,a = vU [vP c,iI d]/\br (d != 0) (R (vU [vS none 0 0,iI d]) b) (rE 201 [vP c] b λa b=>∃ c d e,a = vS c d e/\R (vU [vS c d e,iI 0]) b)):ρ 163 [φ a i j b k l c m n A d o p] w R:=rv Tryz.func163 DR (by kernel_rfl) h
abbrev Lh:FuncId:=200
def Hr:bm:={ rngs:=[],loops:=[(6,[(27,(.one (.int .i64)))]),(9,[(35,(.one (.int .i64)))])],joins:=[],blocks:=[] }
theorem Hs (h:new w (ψ a i j b k l c m n A d o p) λa b=>χ b (aM a) λc=>rE 26 [c] b λb c=>∃ d e f g h i,b = vU [vG [vS d e f,iI g,iI h],iI i]/\new c (oC [vS none 0 0,iI 0,iI 0] 45) λb c=>da c (aM b) [vS d e f,iI g,iI h] λc=>br (i != 0) (R (vU [vP none,iI i]) c) (∃ d e f g h i j k l m n o p,rA c (aM a) 5 [vS d e f,vS g h i,vS j k l,iI m,vS n o p]/\∃ a q r s t,rA c (aM b) 3 [vS a q r,iI s,iI t]/\new c (Obj.map (Array.mk []) 0) λc u=>new u (oC [vS d e f,vS g h i,vS j k l,iI m,vS n o p,vS a q r,iI s,iI t,Value.map (some c)] 279) λa c=>∃ d e f,cL c (aM b) (vS d e f)/\τ [(27,aB)] λb f=>b 0 c/\∀ (_:ν) c g,b c g->br (decide (c < (e:Int))) (idx d e c 2 λd=>∃ e h i j k l,rA g d 2 [vS e h i,vS j k l]/\new g (oC [vS none 0 0,vS none 0 0] 54) λd m=>da m (aM d) [vS e h i,vS j k l] λe=>∃ h i j,cL e (Addr.add (aM d) 1) (vS h i j)/\τ [(35,aB)] λd j=>d 0 e/\∀ (_:ν) e k,d e k->br (decide (e < (i:Int))) (idx h i e 2 λb=>∃ f g,rA k b 2 [iI f,iI g]/\new k (oC [iI 0,iI 0] 56) λb h=>da h (aM b) [iI f,iI g] λf=>∀ g,drawn f g->∃ (f:WP),f g/\∃ h,(∀ b,f b->cL b (Addr.add (aM a) 8) (Value.map h))/\∃ a,(∀ c,f c->cL c (aM b) (iI a))/\∃ i,(∀ a,f a->cL a (Addr.add (aM b) 1) (iI i))/\bf Proofs.Tryz.prog (Instr.mapUpdate 180 (Value.map h) (vG [iI c,iI a]) (iI i)) g λ(_:Unit) (a:aa4)=>ax (e + 1)/\d (e + 1) a/\j (e + 1) a < j e k) (ax (c + 1)/\b (c + 1) k/\f (c + 1) k < f c g)) (R (vU [vP (some (aM a)),iI 0]) g))):ρ 200 [φ a i j b k l c m n A d o p] w R:=rv Tryz.func200 Hr (by kernel_rfl) h
abbrev y8:FuncId:=201
def vO:bm:={ rngs:=[],loops:=[(3,[(3,(.one .slice)),(14,(.one (.int .i64)))]),(6,[(3,(.one .slice)),(22,(.one (.int .i64)))])],joins:=[],blocks:=[] }
theorem vQ (h:nn a λb=>∃ c d e,cL w (Addr.add b 5) (vS c d e)/\τ [(3,fD),(14,aB)] λb e=>b none 0 0 0 w/\∀ (_:ν) f g h i j,b f g h i j->br (decide (i < (d:Int))) (idx c d i 2 λc=>∃ d k l m n o,rA j c 2 [vS d k l,vS m n o]/\new j (oC [vS none 0 0,vS none 0 0] 54) λc p=>da p (aM c) [vS d k l,vS m n o] λd=>∃ k l m,cL d (Addr.add (aM c) 1) (vS k l m)/\τ [(3,fD),(22,aB)] λc m=>c f g h 0 d/\∀ (_:ν) d n o p q,c d n o p q->br (decide (p < (l:Int))) (idx k l p 2 λb=>∃ e f,rA q b 2 [iI e,iI f]/\new q (oC [iI 0,iI 0] 56) λb g=>da g (aM b) [iI e,iI f] λe=>∀ f,drawn e f->∃ (e:WP),e f/\∃ g,(∀ a,e a->cL a (aM b) (iI g))/\nn a λa=>∃ h j k,(∀ b,e b->cL b a (vS h j k))/\br (decide ((j:Int)<=g)) (∃ a,cL f (aM b) (iI a)/\new f (oC [iI i,iI a] 184) λa b=>rS (fe 179 (Array.mk [vS d n o,vS (some (aM a)) 1 1])) b λa b=>∃ e f g,a = vS e f g/\ax (p + 1)/\c e f g (p + 1) b/\m e f g (p + 1) b < m d n o p q) (ax (p + 1)/\c d n o (p + 1) f/\m d n o (p + 1) f < m d n o p q)) (ax (i + 1)/\b d n o (i + 1) q/\e d n o (i + 1) q < e f g h i j)) (rE 238 [vS f g h] j λa b=>∃ c d e,a = vS c d e/\R (vS c d e) b)):ρ 201 [(.pointer a)] w R:=rv Tryz.func201 vO (by kernel_rfl) h
def mw:bm:={ rngs:=[],loops:=[],joins:=[],blocks:=[] }
theorem my (h:lR a i j none (some (i:Int)) (some (i:Int)) 1 λ(a:aa3) (b c:Nat)=>R (vS a b c) w):ρ 202 [(.slice a i j)] w R:=rv Tryz.func202 mw (by kernel_rfl) h
def gE:bm:={ rngs:=[],loops:=[],joins:=[],blocks:=[] }
theorem gF (h:lR a i j none (some (i:Int)) (some (i:Int)) 2 λ(a:aa3) (b c:Nat)=>R (vS a b c) w):ρ 238 [(.slice a i j)] w R:=rv Tryz.func238 gE (by kernel_rfl) h
abbrev nk:FuncId:=240
def lH:bm:={ rngs:=[],loops:=[(4,[(3,(.one (.int .i64)))]),(9,[(3,(.one (.int .i64))),(5,(.one (.int .i64)))])],joins:=[],blocks:=[] }
theorem lJ (h:br (decide ((i:Int) < 2)) (R (vS a i j) w) (τ [(3,aB)] λb c=>b 1 w/\∀ (_:ν) d e,b d e->br (decide (d < (i:Int))) (∀ f,drawn e f->∃ (g:WP),g f/\idx a i d 1 λh=>∃ k,(∀ a,g a->World.cell? a h = some (iI k))/\ax (d - 1)/\idx a i (d - 1) 1 λh=>∃ l,(∀ a,g a->World.cell? a h = some (iI l))/\br (k == l) (lR a i j (some d) none none 1 λ(b:aa3) (c _:Nat)=>τ [(3,aB),(5,aB)] λe g=>e d 1 f/\∀ (_:ν) d f h,e d f h->br (decide (f < (c:Int))) (∀ j,drawn h j->∃ (k:WP),k j/\idx b c f 1 λl=>∃ m,(∀ a,k a->World.cell? a l = some (iI m))/\ax (f - 1)/\idx b c (f - 1) 1 λl=>∃ n,(∀ a,k a->World.cell? a l = some (iI n))/\br (m != n) (idx b c f 1 λb=>∃ c,World.cell? j b = some (iI c)/\idx a i d 1 λa=>st1 j a (iI c) λa=>ax (d + 1)/\ax (f + 1)/\e (d + 1) (f + 1) a/\g (d + 1) (f + 1) a < g d f h) (ax (f + 1)/\e d (f + 1) j/\g d (f + 1) j < g d f h)) (lR a i j (some d) none none 1 λ(b:aa3) (c e:Nat)=>rS (Builtin.clear_ (Array.mk [24]) 0 (Array.mk [vS b c e])) h λ_ b=>lR a i j none (some d) none 1 λ(a:aa3) (c d:Nat)=>R (vS a c d) b)) (ax (d + 1)/\b (d + 1) f/\c (d + 1) f < c d e)) (R (vS a i j) e))):ρ 240 [(.slice a i j)] w R:=rv Tryz.func240 lH (by kernel_rfl) h
end
def Al (ss:List SQ) (m:List (av × Value)) (i:Nat) (es:List aS):Prop:=∀ k:av,assoc k m =
 if k.st < 0 then none else if k.st.toNat < i then (fy ss k.st.toNat k.sym).map (Value.int .i64) else if k.st.toNat = i then (es.find? λe=>decide (e.sym = k.sym)).map (λe=>Value.int .i64 e.to) else none
section
variable {ss:List SQ} {m:List (av × Value)} {i:Nat}
theorem Al.start:Al ss [] 0 []:=λk=>by simp [assoc]
theorem F5 {es:List aS} {e:aS} (hn:e.sym∉es.map (·.sym)) (s:Int):((es ++ [e]).find? λx=>decide (x.sym = s)) = if s = e.sym then some e else es.find? λx=>decide (x.sym = s):=by
 rw [List.find?_append]
 by_cases h:s = e.sym
 ·subst h;have:(es.find? λx=>decide (x.sym = e.sym)) = none:=List.find?_eq_none.2 λx z u=>hn (Zh.2 ⟨x,z,by simpa using u⟩);rw [this]; simp
 ·rw [YZ h];have:([e].find? λx=>decide (x.sym = s)) = none:=by simp [aaw h]
  rw [this]; simp
theorem Al.step {es:List aS} (h:Al ss m i es) {e:aS} (hn:e.sym∉es.map (·.sym)):Al ss (bU ⟨(i:Int),e.sym⟩ (.int .i64 e.to) m) i (es ++ [e]):=λk=>by
 rw [dU,h k,F5 hn]
 by_cases u:k = ⟨(i:Int),e.sym⟩
 ·subst u
  simp
 ·rw [YZ u]
  split
  ·rfl
  ·split
   ·rfl
   ·split
    ·have:k.sym≠e.sym:=λh=>u (by cases k; simp at *; omega)
     rw [YZ this]
    ·rfl
theorem Al.next {q:SQ} (hq:ss[i]? = some q) (h:Al ss m i q.2.2):Al ss m (i + 1) []:=λk=>by
 rw [h k]
 split
 ·rfl
 ·by_cases z:k.st.toNat < i
  ·rw [Y5 z,Y5 ω]
  ·rw [YZ z]
   by_cases u:k.st.toNat = i
   ·rw [Y5 u,Y5 ω,u,mu hq,Option.map_map]; rfl
   ·rw [YZ u,YZ ω]; simp
theorem Al.all (h:Al ss m ss.length []) {k:av} (hk:0<=k.st):assoc k m = (fy ss k.st.toNat k.sym).map (Value.int .i64):=by
 rw [h k,YZ ω]
 split
 ·rfl
 ·have:fy ss k.st.toNat k.sym = none:=by unfold fy; rw [Zf ω]
  rw [this]; simp
end
abbrev Xd (x:GA) (o:aa3) (n c:Nat) (a int:Int) (kb:Nat):List Value:=x.cells ++ [.slice o n c,.int .i64 a,.int .i64 int,.map (some kb)]
structure Xe (h:Hp) (g:af) (ss:List SQ) (k:Nat):Prop where
 ex:∃ (x:GA) (o:aa3) (c kb:Nat) (a int:Int) (m:List (av × Value)),au h (aM k) (Xd x o ss.length c a int kb)/\gR h g x/\vN h ss o/\mapA kb m h/\Al ss m ss.length []
theorem Xe.mono {h h' : Hp} {g:af} {ss:List SQ} {k:Nat} (s:sub h h') (r:Xe h g ss k):Xe h' g ss k:=by
 obtain ⟨x,o,c,z,a,int,m,R,G,O,u,U⟩:=r.ex;exact ⟨x,o,c,z,a,int,m,R.mono s,G.mono s,O.mono s,dY s u,U⟩
section
variable {w:aa4} {L:List az} {g:af} {x:GA}
theorem F6 : WN Tryz.prog lE dv { name := "State", type := dv, offset := 0, embedded := false, tag := "", pkgPath := "", byteOffset := 0 } { name := "Sym", type := dv, offset := 1, embedded := false, tag := "", pkgPath := "", byteOffset := 8 } where
 ht:=by kernel_rfl
 hf:=by kernel_rfl
 hi:=bJ
 ht0:=rfl
 ht1:=rfl
 n0:=by decide
 n1:=by decide
 o0:=rfl
 o1:=rfl
 sih:=E5
theorem fl:ua Tryz.prog lE av:=ua.two F6
theorem Qi (hg:gR (hp w) g x) (hb:jd g):ρ Lh [.agg ⟨x.cells⟩] w λv w'=>∃ (ss:List SQ) (ask int f:Int) (p:aa3),v = .tuple #[.pointer p,.int .i64 f]/\sV g ss ask int f/\Gr w w'/\(f = 0->∃ k,p = some (aM k)/\Xe (hp w') g ss k)/\(f≠0->p = none):=by
 refine Hs (cG hg λk1 w1 gw hg B=>?_);refine ⟨_,_,_,_,_,_,_,_,_,_,_,_,_,B.row (sub.refl _),(uB hg hb).mono ?_⟩;rintro _ w2 ⟨o,c,ss,ask,int,f,rfl,hR,h⟩;have V:Gr w1 w2:=aR 3 h.l;have hg:=hg.mono V;have hs:=nL h.l
 refine ⟨_,_,_,_,_,_,rfl,ag (St.all w2) λaa w3 h=>aU h rfl (by simp [aG]) λW h=>ae (λG=>?_) λG=>?_⟩
 ·have G:f≠0:=by simpa using G
  exact ⟨ss,ask,int,f,none,rfl,hR,gw.trans (V.trans h.aW),λh=>absurd h G,λ_=>rfl⟩
 have G:f = 0:=by simpa using G
 subst G
 obtain ⟨hc,hA⟩ : ak g/\bw g ss:=by
  rcases hR with ⟨_,_,_,_,e⟩ | ⟨_,_,_,_,_,e⟩ | ⟨hc,hA,_⟩
  ·omega
  ·omega
  ·exact ⟨hc,hA⟩
 have ab:=hA.xv hc;have am:=hA.dn.2.1;have U:Gr w2 W:=h.aW;have hg:=hg.mono U;have hs:=hs.mono U;have a0:au (hp W) (aM aa) [.slice o ss.length c,.int .i64 ask,.int .i64 int]:=ah 0 h.l;clear h;refine ⟨_,_,_,_,_,_,_,_,_,_,_,_,_,B.row (V.trans U),_,_,_,_,_,a0.at (sub.refl _) rfl,nD (St.all W) λX w5 h=>?_⟩;have h:=dV (κ:=av) h;refine ag (vs:=Xd x o ss.length c ask int X) h λkm w6 h=>?_
 refine ⟨_,_,_,a0.cell0 (aR 2 h.l),λz w'=>∃ (i:Nat) (m:List (av × Value)),z = i/\i<=ss.length/\Al ss m i []/\St w' (aH km (Xd x o ss.length c ask int X) :: mapA X m :: all W),λz _=>ss.length - z.toNat,
  ⟨0,[],rfl,Y4 _,.start,h⟩,?_⟩
 clear h;rintro _ _ w7 ⟨i,m,rfl,hi,O,h⟩;have s7:sub (hp W) (hp w7):=aR 2 h.l;refine ae (λG=>?_) λG=>?_
 rotate_left
 ·have G:i = ss.length:=by have:=YS G; omega
  subst G;obtain ⟨hm,sm,a3⟩:=Se 1 h.l;exact ⟨ss,ask,int,0,some (aM km),rfl,hR,gw.trans (V.trans (U.trans s7)),λ_=>⟨km,rfl,x,o,c,X,ask,int,m,ah 0 h.l,hg.mono s7,hs.mono s7,dY sm a3,O⟩,λh=>absurd rfl h⟩
 have G:i < ss.length:=by have:=YR G; omega
 obtain ⟨q,hq⟩ : ∃ q,ss[i]? = some q:=⟨_,YU G⟩;obtain ⟨ad,rfl,rs,_,re⟩:=hs i q hq;have aI:=(ab q (YV hq)).2;have Z:=Ai hA hq;refine aq rfl G ⟨_,_,_,_,_,_,rs.at s7 rfl,ag h λa7 w8 h=>aU h rfl (by simp [aG]) λw9 h=>?_⟩;have a4:au (hp w9) (aM a7) (N3 q):=ah 0 h.l
 refine ⟨_,_,_,a4.cell (sub.refl _) (j:=1) rfl,λz w'=>∃ (k:Nat) (m:List (av × Value)),z = k/\k<=q.2.2.length/\Al ss m i (q.2.2.take k)/\St w' (aH km (Xd x (some ad) ss.length c ask int X) :: mapA X m :: all W),λz _=>q.2.2.length - z.toNat,
  ⟨0,m,rfl,Y4 _,O,h.pick 3 [1,2]⟩,?_⟩
 clear h O;rintro _ _ a5 ⟨k,m,rfl,hk,O,h⟩;have a9:sub (hp W) (hp a5):=aR 2 h.l;refine ae (λR=>?_) λR=>?_
 rotate_left
 ·have R:k = q.2.2.length:=by have:=YS R; omega
  subst R;rw [Zi] at O;exact ⟨⟨ω,ω⟩,⟨i + 1,m,σ,G,O.next hq,h⟩,bn G⟩
 have R:k < q.2.2.length:=by have:=YR R; omega
 obtain ⟨e,b0,he,ac,a6⟩:=kC re R;refine aq ac R ⟨_,_,a6.at a9 rfl,ag h λa8 b1 h=>aU h rfl (by simp [aG]) λaT h=>?_⟩;intro Y hd;have h:=h.eq (aE hd);have a1:au (hp Y) (aM a8) [.int .i64 e.sym,.int .i64 e.to]:=ah 0 h.l;have rm:au (hp Y) (aM km) (Xd x (some ad) ss.length c ask int X):=ah 1 h.l;refine ⟨λu=>Gr Y u,Gr.refl _,_,λu s=>rm.cell s (j:=8) rfl,_,λu s=>a1.cell0 s,_,λu s=>a1.cell s (j:=1) rfl,(nI (κ:=av) aQ (rfl:aj Ty _ = .map _ _) fl (h.pick 3 [2,0,1]) ⟨(i:Int),e.sym⟩ _).mono ?_⟩;rintro _ b2 h;have ht:q.2.2.take (k + 1) = q.2.2.take k ++ [e]:=by rw [Y2,he]; rfl
 have hn:e.sym∉(q.2.2.take k).map (·.sym):=λhm=>by
  have e1:q.2.2.map (·.sym) = (q.2.2.take k).map (·.sym) ++ e.sym :: (q.2.2.drop (k + 1)).map (·.sym):=by
   rw [<- ZF,<- Zg];congr 1;have:=Zk (k + 1) q.2.2;rw [ht] at this;simpa using this.symm
  rw [e1,ZE] at Z;exact Z.2.2 _ hm _ σ rfl
 have O:=O.step hn;rw [<- ht] at O;exact ⟨⟨ω,ω⟩,⟨k + 1,_,σ,R,O,h.pick 3 [2,0]⟩,bn R⟩
end
section
variable {g:af} {ss:List SQ}
theorem JB (g:af) (i:Nat) (es:List aS):(fO g i es).length<=es.length:=by
 unfold fO; rw [Y3]; exact Zt _ _
theorem y9 (hk:∀ q∈ss,q.2.2.length<=130):∀ i,(vk g ss i).length<=i * 130
 | 0=>by simp [vk]
 | i + 1=>by
  have:=y9 hk i
  cases hq:ss[i]? with
  | none=>simp [vk,hq]; omega
  | some q =>
   rw [pQ hq,Y0]
   have h1:=JB g i q.2.2
   have h2:=hk q (YV hq)
   omega
theorem sV.HZ {a i f:Int} (h:sV g ss a i f) (hf:f = 0):ak g/\bw g ss:=by
 subst hf
 rcases h with ⟨_,_,_,_,e⟩ | ⟨_,_,_,_,_,e⟩ | ⟨u,hA,_⟩
 ·omega
 ·omega
 ·exact ⟨u,hA⟩
def kE (ss:List SQ) (i:Nat) (s:Int):Int:=(fy ss i s).getD (-1)
end
section
variable {w:aa4} {L:List az} {g:af} {x:GA} {ss:List SQ}
theorem JC {k:Nat} (hw:Xe (hp w) g ss k) (hn:ss.length<=256) (hk:∀ q∈ss,q.2.2.length<=130):ρ y8 [.pointer (some (aM k))] w λv w'=>∃ (o:aa3) (c:Nat),v = .slice o (bD g ss).length c/\St w' (own 2 o (bD g ss).length c (FZ (bD g ss)) :: all w):=by
 obtain ⟨x,oa,ca,kb,a,int,m,rk,hg,hs,hm,hW⟩:=hw.ex;have V:g.T = x.tl:=hg.t.1
 refine vQ ⟨_,_,_,rk.cell (sub.refl _) (j:=5) rfl,λo n c z w'=>∃ i:Nat,z = i/\i<=ss.length/\n = (vk g ss i).length/\St w' (own 2 o n c (FZ (vk g ss i)) :: all w),λ_ _ _ z _=>ss.length - z.toNat,
  ⟨0,rfl,Y4 _,rfl,ay 2 (St.all w)⟩,?_⟩
 rintro _ o2 _ c2 _ w1 ⟨i,rfl,hi,rfl,h⟩;have s1:sub (hp w) (hp w1):=aR 1 h.l;refine ae (λO=>?_) λO=>?_
 rotate_left
 ·have O:i = ss.length:=by have:=YS O; omega
  subst O;refine gF (fL (dI h) ⟨_,_,_,rfl,_,_,rfl,fK h⟩)
 have O:i < ss.length:=by have:=YR O; omega
 obtain ⟨q,X⟩ : ∃ q,ss[i]? = some q:=⟨_,YU O⟩;obtain ⟨ad,rfl,rs,_,re⟩:=hs i q X;have a4:=hk q (YV X);have a8:=y9 (g:=g) hk i;refine aq rfl O ⟨_,_,_,_,_,_,rs.at s1 rfl,ag h λk9 w2 h=>aU h rfl (by simp [aG]) λw3 h=>?_⟩;have r9:au (hp w3) (aM k9) (N3 q):=ah 0 h.l
 refine ⟨_,_,_,r9.cell (sub.refl _) (j:=1) rfl,λo n c z w'=>∃ (j:Nat),z = j/\j<=q.2.2.length/\n = (vk g ss i ++ fO g i (q.2.2.take j)).length/\St w' (own 2 o n c (FZ (vk g ss i ++ fO g i (q.2.2.take j))) :: all w),λ_ _ _ z _=>q.2.2.length - z.toNat,
  ⟨0,rfl,Y4 _,by simp [fO],by simpa [fO] using (show St w3 (own 2 o2 (vk g ss i).length c2 (FZ (vk g ss i)) :: all w) from h.pick 2 [1])⟩,?_⟩
 clear h;rintro _ o6 _ c6 _ w4 ⟨j,rfl,hj,rfl,h⟩;have s4:sub (hp w) (hp w4):=aR 1 h.l;have a0:=JB g i (q.2.2.take j);rw [Zj] at a0;refine ae (λG=>?_) λG=>?_
 rotate_left
 ·have G:j = q.2.2.length:=by have:=YS G; omega
  subst G;rw [Zi] at h ⊢;exact ⟨⟨ω,ω⟩,⟨i + 1,σ,O,by rw [pQ X],by rw [pQ X]; exact h⟩,bn O⟩
 have G:j < q.2.2.length:=by have:=YR G; omega
 obtain ⟨e,a5,he,a1,Z⟩:=kC re G;have ht:q.2.2.take (j + 1) = q.2.2.take j ++ [e]:=by rw [Y2,he]; rfl
 refine aq a1 G ⟨_,_,Z.at s4 rfl,ag h λY w5 h=>aU h rfl (by simp [aG]) λw6 h=>?_⟩;intro w7 hd;have h:=h.eq (aE hd);have W:au (hp w7) (aM Y) [.int .i64 e.sym,.int .i64 e.to]:=ah 0 h.l;have s7:sub (hp w) (hp w7):=aR 2 h.l
 refine ⟨λu=>Gr w7 u,Gr.refl _,_,λu s=>W.cell0 s,_,_,_,λu s=>rk.cell0 (sub.trans s7 s),ae (λR=>?_) λR=>?_⟩
 ·have R:(g.T:Int)<=e.sym:=by rw [V]; exact YR R
  have z1:((vk g ss i ++ fO g i (q.2.2.take j)).length + 1) * 16<=140737488355328/\(vk g ss i ++ fO g i (q.2.2.take j)).length < 9223372036854775807:=by rw [Y0]; omega
  refine ⟨_,W.cell0 (sub.refl _),ag h λa6 a3 h=>?_⟩;refine (aL (us:=FZ (vk g ss i ++ fO g i (q.2.2.take j))) aQ (rfl:aj Ty _ = .slice _) (rfl:aj Ty _ = .slice _) rfl rfl rfl (h.pick 3 [0,2]) rfl (by simp [aG]) z1.1 z1.2).mono ?_;rintro _ a7 ⟨o8,c8,rfl,h⟩;have U:fO g i (q.2.2.take (j + 1)) = fO g i (q.2.2.take j) ++ [⟨(i:Int),e.sym⟩]:=by rw [ht,F4,Y5 R]
  have e3:FZ (vk g ss i ++ fO g i (q.2.2.take (j + 1))) = FZ (vk g ss i ++ fO g i (q.2.2.take j)) ++ [.int .i64 (i:Int),.int .i64 e.sym]:=by rw [U,<- Y6,Tr]; rfl
  refine ⟨_,_,_,rfl,⟨ω,ω⟩,⟨j + 1,σ,G,by rw [U]; simp; omega,?_⟩,bn G⟩;rw [e3]; exact h.pick 2 [0]
 ·have R:¬(g.T:Int)<=e.sym:=by rw [V]; exact YS R
  have U:fO g i (q.2.2.take (j + 1)) = fO g i (q.2.2.take j):=by rw [ht,F4,YZ R]
  exact ⟨⟨ω,ω⟩,⟨j + 1,σ,G,by rw [U],by rw [U]; exact h.pick 2 [1]⟩,bn G⟩
theorem Qj (hg:gR (hp w) g x) (hb:jd g):ρ Hq [.agg ⟨x.cells⟩] w λv w'=>∃ (ss:List SQ) (ask int f:Int) (o:aa3) (c:Nat),v = .tuple #[.slice o (bD g ss).length c,.int .i64 f]/\sV g ss ask int f/\St w' (own 2 o (bD g ss).length c (FZ (bD g ss)) :: all w):=by
 refine DS (cG hg λk1 X gw hg B=>?_);refine ⟨_,_,_,_,_,_,_,_,_,_,_,_,_,B.row (sub.refl _),(Qi hg hb).mono ?_⟩;rintro _ Y ⟨ss,ask,int,f,p,rfl,z,O,h0,Z⟩
 refine ⟨_,_,rfl,ae (λu=>?_) λu=>?_⟩
 ·have u:f≠0:=by simpa using u
  have W:ss = []:=by rcases z with ⟨_,e,_⟩ | ⟨_,_,e,_⟩ | ⟨_,_,_,_,e⟩ <;> first | exact e | exact absurd e u
  subst W;exact ⟨[],ask,int,f,none,0,rfl,z,ay 2 (St.here (gw.trans O))⟩
 have u:f = 0:=by simpa using u
 obtain ⟨k,rfl,R⟩:=h0 u;obtain ⟨V,hA⟩:=z.HZ u;have G:=hA.xv V;refine (JC R hA.dn.2.1 λq U=>(G q U).2).mono ?_;rintro _ w3 ⟨o,c,rfl,h⟩;subst u;exact ⟨_,_,_,rfl,ss,ask,int,0,o,c,rfl,z,St.nf h (bH (gw.trans O))⟩
theorem Li {o:aa3} {c:Nat} {ask int s:Int} {i:Nat} (hA:bw g ss) (hs:vN (hp w) ss o) (hi:i < ss.length) (hk:∀ q∈ss,q.2.2.length<=130) (hn:ss.length<=256):ρ vH [.agg #[.slice o ss.length c,.int .i64 ask,.int .i64 int],.int .i64 (i:Int),.int .i64 s] w λv w'=>v = .int .i64 (kE ss i s)/\Gr w w':=by
 obtain ⟨q,W⟩ : ∃ q,ss[i]? = some q:=⟨_,YU hi⟩;have a0:=hk q (YV W);refine sF (ag (St.all w) λk1 Z h=>?_);have Y:Gr w Z:=h.aW;obtain ⟨ad,rfl,rs,_,re⟩:=(hs.mono Y) i q W
 refine ⟨_,_,_,(ah 0 h.l).cell0 (sub.refl _),aq rfl hi ⟨_,_,_,rs.cell (sub.refl _) (j:=1) rfl,λz w'=>∃ j:Nat,z = j/\j<=q.2.2.length/\(∀ e∈q.2.2.take j,e.sym≠s)/\w' = Z,λz _=>q.2.2.length - z.toNat,
  ⟨0,rfl,Y4 _,σ,rfl⟩,?_⟩⟩
 rintro _ _ w2 ⟨j,rfl,hj,G,rfl⟩;refine ae (λu=>?_) λu=>?_
 rotate_left
 ·have u:j = q.2.2.length:=by have:=YS u; omega
  subst u;rw [Zi] at G;refine ⟨?_,Y⟩;have:(q.2.2.find? λe=>decide (e.sym = s)) = none:=List.find?_eq_none.2 λe V h=>G e V (by simpa using h);unfold kE;rw [mu W,this]; rfl
 have u:j < q.2.2.length:=by have:=YR u; omega
 obtain ⟨e,a1,V,U,R⟩:=kC re u;have ht:q.2.2.take (j + 1) = q.2.2.take j ++ [e]:=by rw [Y2,V]; rfl
 refine aq U u ⟨_,R.cell0 (sub.refl _),ae (λO=>?_) λO=>?_⟩
 ·have O:e.sym = s:=by simpa using O
  subst O;refine aq U u ⟨_,R.cell (sub.refl _) (j:=1) rfl,?_,Y⟩;unfold kE;rw [pR hA W V]; rfl
 ·have O:e.sym≠s:=by simpa using O
  refine ⟨⟨ω,ω⟩,⟨j + 1,σ,u,λy X=>?_,rfl⟩,bn u⟩;rw [ht,YY,Zl] at X
  rcases X with X | rfl
  ·exact G y X
  ·exact O
end
theorem iq {g:af} {ss:List SQ} (hc:ak g) (hA:bw g ss) {i:Nat} {s j:Int} (h:fy ss i s = some j):0<=j/\j < ss.length:=by
 obtain ⟨q,k,e,G,z,rfl,rfl⟩:=qN h;obtain ⟨_,_,n,r,R,O,u,_⟩:=fh hc hA G z;have:=(YT.1 u).1;omega
section
variable {g:af} {ss:List SQ}
def BX (g:af) (es:List aS):List Int:=(es.filter λe=>decide (e.sym < (g.T:Int))).map (·.sym)
theorem JD {es:List aS} {e:aS}:BX g (es ++ [e]) = if e.sym < (g.T:Int) then BX g es ++ [e.sym] else BX g es:=by
 unfold BX;rw [Zs,Zg];by_cases h:e.sym < (g.T:Int) <;> simp [h]
theorem Ts (g:af) (es:List aS):(BX g es).length<=es.length:=by
 unfold BX; rw [Y3]; exact Zt _ _
def lK (g:af) (t:av):List Int:=if t = ⟨0,g.start⟩ then [0] else []
theorem Qk (g:af) (t:av):(lK g t).length<=1:=by unfold lK; split <;> simp
theorem jq {t:av}:∀ {n:Nat},t∈vk g ss n->∃ (i:Nat) (q:SQ) (k:Nat) (e:aS),i < n/\ss[i]? = some q/\q.2.2[k]? = some e/\(g.T:Int)<=e.sym/\t = ⟨(i:Int),e.sym⟩
 | 0,h=>by simp [vk] at h
 | n + 1,h=>by
  cases hq:ss[n]? with
  | none =>
   simp [vk,hq] at h
   obtain ⟨i,q,k,e,h1,h2⟩:=jq h
   exact ⟨i,q,k,e,ω,h2⟩
  | some q =>
   rw [pQ hq,YY] at h
   rcases h with h | h
   ·obtain ⟨i,q,k,e,h1,h2⟩:=jq h
    exact ⟨i,q,k,e,ω,h2⟩
   ·unfold fO at h
    obtain ⟨e,he,rfl⟩:=Zh.1 h
    obtain ⟨h1,h2⟩:=ZA.1 he
    obtain ⟨k,hk⟩:=Zr h1
    exact ⟨n,q,k,e,ω,hq,hk,YR h2,rfl⟩
theorem DT {t:av} {j:Nat} {q:SQ} (h:fy ss t.st.toNat t.sym = some (j:Int)) (hq:ss[j]? = some q):iY g ss t = lK g t ++ BX g q.2.2:=by
 unfold iY;rw [h]
 show _ ++ (match ss[(j:Int).toNat]? with | none=>[] | some q=>_) = _
 rw [Za,hq];rfl
end
section
variable {w:aa4} {L:List az} {g:af} {x:GA} {ss:List SQ}
theorem Tt (w:aa4) (xo yo:Operand) (x y:av):Sem.run Tryz.prog (je .eql lE xo yo (.agg ⟨DP x⟩) (.agg ⟨DP y⟩)) w = .ok (.bool (decide (x = y))) w:=by
 unfold je;rw [Sem.run_bind,run_eqGuard_agg w _ _ _ _ _ _ E4];simp only [Result.andThen_ok];rw [run_eql_struct]
 have e:decide (x = y) = decide (x.st = y.st/\x.sym = y.sym):=by
  cases x; cases y; simp
 rw [e]
 show ((Op.equal lE (.agg #[.int .i64 x.st,.int .i64 x.sym]) (.agg #[.int .i64 y.st,.int .i64 y.sym])).run Tryz.prog w).andThen _ = _
 rw [Lg F6];rfl
theorem Lj (hg:gR (hp w) g x) (hb:jd g):ρ mv [.agg ⟨x.cells⟩] w λv w'=>∃ (ss:List SQ) (ask int f:Int) (o:aa3) (c:Nat) (ds:List (Lq Int)),v = .tuple #[.slice o ds.length c,.int .i64 f]/\sV g ss ask int f/\ds.map (·.2) = (bD g ss).map (iY g ss)/\St w' (own 1 o ds.length c (ds.map bF) :: aC (ds.map (bB 1 iv)) :: all w):=by
 refine Ak (cG hg λk1 w1 gw hg B=>?_);refine ⟨_,_,_,_,_,_,_,_,_,_,_,_,_,B.row (sub.refl _),(Qi hg hb).mono ?_⟩;rintro _ w2 ⟨ss,ask,int,f,p,rfl,hR,g2,h0,hn⟩
 refine ⟨_,_,rfl,ae (λO=>?_) λO=>?_⟩
 ·have O:f≠0:=by simpa using O
  have hz:ss = []:=by rcases hR with ⟨_,e,_⟩ | ⟨_,_,e,_⟩ | ⟨_,_,_,_,e⟩ <;> first | exact e | exact absurd e O
  subst hz;exact ⟨[],ask,int,f,none,0,[],rfl,hR,rfl,ay 1 ((St.flat (M:=[])).2 (St.here (gw.trans g2)))⟩
 have O:f = 0:=by simpa using O
 subst O;obtain ⟨k,rfl,hw⟩:=h0 rfl;obtain ⟨hc,hA⟩:=hR.HZ rfl;have a0:=hA.xv hc;have ab:=hA.dn.2.1;have aI:=y9 (g:=g) (λq hq=>(a0 q hq).2) ss.length;refine (JC hw ab λq hq=>(a0 q hq).2).mono ?_;rintro _ R ⟨oL,cL,rfl,h⟩;have g3:Gr w2 R:=aR 1 h.l;have rL:bh (hp R) (bD g ss) oL (bD g ss).length:=Cw rfl (dJ 0 h.l);clear h;obtain ⟨x',oa,ca,kb,a',bA,m,rk,cz,hs,hm,hW⟩:=(hw.mono g3).ex;have a1:Gr w1 R:=g2.trans g3;have aa:g.T = x.tl:=hg.t.1;have a8:x.s = g.start:=hg.s
 refine ⟨_,_,_,rfl,λo n c z w'=>∃ (i:Nat) (ds:List (Lq Int)),z = i/\i<=(bD g ss).length/\n = ds.length/\ds.map (·.2) = ((bD g ss).take i).map (iY g ss)/\St w' (own 1 o n c (ds.map bF) :: aC (ds.map (bB 1 iv)) :: all R),λ_ _ _ z _=>(bD g ss).length - z.toNat,
  ⟨0,[],rfl,Y4 _,rfl,rfl,ay 1 ((St.flat (M:=[])).2 (St.all R))⟩,?_⟩
 rintro _ o7 _ c7 _ w4 ⟨i,ds,rfl,hi,rfl,X,h⟩;have s4:sub (hp R) (hp w4):=aR 2 h.l;have c5:ds.length = i:=by have:=congrArg List.length X; rw [Y3,Y3,Zj] at this; omega
 have cg:(bD g ss).length<=ss.length * 130:=aI;refine ae (λO=>?_) λO=>?_
 rotate_left
 ·have O:i = (bD g ss).length:=by have:=YS O; omega
  rw [O,Zi] at X;refine my (fL (dI h) ⟨_,_,_,rfl,ss,ask,int,0,_,_,ds,rfl,hR,X,?_⟩);exact St.Mr (fK h) (bH (gw.trans a1))
 have O:i < (bD g ss).length:=by have:=YR O; omega
 obtain ⟨t,ci,ht,be,rt⟩:=uC rL O;obtain ⟨i0,q0,k0,e0,cb,bd,b0,cc,a6⟩:=jq (YV ht);have Z:fy ss t.st.toNat t.sym = some e0.to:=by rw [a6]; exact pR hA bd b0
 obtain ⟨bC,a7⟩:=iq hc hA Z;obtain ⟨j0,b5⟩ : ∃ j0:Nat,e0.to = j0:=⟨e0.to.toNat,ω⟩;rw [b5] at Z a7;have a4:j0 < ss.length:=ω
 obtain ⟨r,hr⟩ : ∃ r,ss[j0]? = some r:=⟨_,YU a4⟩;have a9:iY g ss t = lK g t ++ BX g r.2.2:=DT Z hr;have bP:=(a0 r (YV hr)).2;have c6:=Qk g t;have ac:0<=t.st:=by rw [a6]; exact Zx _
 have b1:(bD g ss).take (i + 1) = (bD g ss).take i ++ [t]:=by rw [Y2,ht]; rfl
 obtain ⟨bT,rfl,rs,_,re⟩:=hs j0 r hr;refine aq be O ⟨_,_,rt.at s4 rfl,ag h λY w5 h=>aU h rfl (by simp [aG]) λw6 h=>?_⟩;have h:St w6 (aH Y (DP t) :: own 1 o7 ds.length c7 (ds.map bF) :: aC (ds.map (bB 1 iv)) :: all R):=h;have U:au (hp w6) (aM Y) (DP t):=ah 0 h.l;have s6:sub (hp R) (hp w6):=aR 3 h.l
 refine ⟨λo n c w'=>n = (lK g t).length/\St w' (own 1 o n c (iv (lK g t)) :: aH Y (DP t) :: own 1 o7 ds.length c7 (ds.map bF) :: aC (ds.map (bB 1 iv)) :: all R),⟨_,_,U.at (sub.refl _) rfl,_,B.c3 (sub.trans a1 s6),_,Tt w6 _ _ t ⟨0,x.s⟩,_,rfl,ae (λG=>?_) λG=>?_⟩,?_⟩
 ·have G:t = ⟨0,g.start⟩:=by rw [<- a8]; exact YR G
  have e:lK g t = [0]:=by unfold lK; rw [Y5 G]
  refine ag h λcu w7 h=>?_;refine (aL (us:=[]) aQ (rfl:aj Ty _ = .slice _) (rfl:aj Ty _ = .slice _) rfl rfl rfl ((ay 1 h).pick 5 [1,0,2,3,4]) rfl (by simp [aG]) (by decide) (by decide)).mono ?_;rintro _ w8 ⟨o8,c8,rfl,h⟩;rw [e];exact ⟨_,_,_,rfl,rfl,h.pick 5 [0,2,3,4]⟩
 ·have G:¬t = ⟨0,g.start⟩:=by rw [<- a8]; exact YS G
  have e:lK g t = []:=by unfold lK; rw [YZ G]
  rw [e];exact ⟨rfl,ay 1 h⟩
 clear h U s6;rintro _ o9 _ c9 w9 ⟨rfl,h⟩;intro V hd;have h:=h.eq (aE hd);have W:sub (hp R) (hp V):=aR 4 h.l;have U:au (hp V) (aM Y) (DP t):=ah 1 h.l;refine ⟨λu=>Gr V u,Gr.refl _,_,_,_,λu s=>rk.cell (sub.trans W s) (j:=5) rfl,_,λu s=>rk.cell (sub.trans W s) (j:=8) rfl,_,_,λu s=>U.at s rfl,(dG (κ:=av) hm W aQ (rfl:aj Ty _ = .map _ _) fl rfl rfl t).mono ?_⟩;rintro _ cv ⟨rfl,b6⟩;rw [b6];rw [hW.all ac,Z]
 refine ⟨_,rfl,λu=>Gr V u,Gr.refl _,λ_ h=>h,aq rfl a4 ⟨_,_,_,λu s=>rs.cell (sub.trans W s) (j:=1) rfl,λo n c z w'=>∃ j:Nat,z = j/\j<=r.2.2.length/\n = (lK g t ++ BX g (r.2.2.take j)).length /\
  St w' (own 1 o n c (iv (lK g t ++ BX g (r.2.2.take j))) :: own 1 o7 ds.length c7 (ds.map bF) :: aC (ds.map (bB 1 iv)) :: all R),λ_ _ _ z _=>r.2.2.length - z.toNat,
  ⟨0,rfl,Y4 _,by simp [BX],by simpa [BX] using (show St V (own 1 o9 (lK g t).length c9 (iv (lK g t)) :: own 1 o7 ds.length c7 (ds.map bF) :: aC (ds.map (bB 1 iv)) :: all R) from h.pick 4 [0,2,3])⟩,?_⟩⟩
 clear h U;rintro _ a3 _ cB _ b2 ⟨j,rfl,hj,rfl,h⟩;have b4:sub (hp R) (hp b2):=aR 3 h.l;have bl:=Ts g (r.2.2.take j);rw [Zj] at bl
 refine ae (λG=>?_) λG=>?_
 ·have G:j < r.2.2.length:=by have:=YR G; omega
  obtain ⟨e,ch,he,ba,bi⟩:=kC re G;have a5:r.2.2.take (j + 1) = r.2.2.take j ++ [e]:=by rw [Y2,he]; rfl
  refine aq ba G ⟨_,_,bi.at b4 rfl,ag h λbc cm h=>aU h rfl (by simp [aG]) λad h=>?_⟩;have am:au (hp ad) (aM bc) [.int .i64 e.sym,.int .i64 e.to]:=ah 0 h.l;have aT:sub (hp R) (hp ad):=aR 4 h.l
  refine ⟨_,am.cell0 (sub.refl _),_,_,_,B.c0 (sub.trans a1 aT),ae (λh3=>?_) λh3=>?_⟩
  ·have h3:e.sym < (g.T:Int):=by rw [aa]; exact YR h3
   have z1:((lK g t ++ BX g (r.2.2.take j)).length + 1) * 8<=140737488355328/\(lK g t ++ BX g (r.2.2.take j)).length < 9223372036854775807:=by rw [Y0]; omega
   refine ⟨_,am.cell0 (sub.refl _),ag h λcD cy h=>?_⟩;refine (aL (us:=iv (lK g t ++ BX g (r.2.2.take j))) aQ (rfl:aj Ty _ = .slice _) (rfl:aj Ty _ = .slice _) rfl rfl rfl (h.pick 5 [0,2,3,4]) rfl (by simp [aG]) z1.1 z1.2).mono ?_;rintro _ ck ⟨bG,cx,rfl,h⟩;have e2:lK g t ++ BX g (r.2.2.take (j + 1)) = lK g t ++ BX g (r.2.2.take j) ++ [e.sym]:=by rw [a5,JD,Y5 h3,Y6]
   have e3:iv (lK g t ++ BX g (r.2.2.take (j + 1))) = iv (lK g t ++ BX g (r.2.2.take j)) ++ [.int .i64 e.sym]:=by rw [e2]; unfold iv; rw [Zg]; rfl
   refine ⟨_,_,_,rfl,⟨ω,ω⟩,⟨j + 1,σ,G,by rw [e2]; simp; omega,?_⟩,bn G⟩;rw [e3]; exact h.pick 4 [0,2,3]
  ·have h3:¬e.sym < (g.T:Int):=by rw [aa]; exact YS h3
   have e2:BX g (r.2.2.take (j + 1)) = BX g (r.2.2.take j):=by rw [a5,JD,YZ h3]
   exact ⟨⟨ω,ω⟩,⟨j + 1,σ,G,by rw [e2],by rw [e2]; exact h.pick 4 [1,2,3]⟩,bn G⟩
 have G:j = r.2.2.length:=by have:=YS G; omega
 rw [G,Zi,<- a9] at h ⊢;refine dK (fL (dI h) ⟨_,_,_,rfl,?_⟩);have h:=fK h;refine ag h λcC cp h=>?_;have z1:(ds.length + 1) * 24<=140737488355328/\ds.length < 9223372036854775807:=ω
 refine (aL (us:=ds.map bF) aQ (rfl:aj Ty _ = .slice _) (rfl:aj Ty _ = .slice _) rfl rfl rfl (h.pick 4 [0,2,1,3]) rfl (by simp [aG]) z1.1 z1.2).mono ?_;rintro _ b7 ⟨b3,bb,rfl,h⟩;have h:=St.snoc (h.pick 4 [2,3,0]);refine ⟨_,_,_,rfl,⟨ω,ω⟩,⟨i + 1,ds ++ [((fT a3 0 (iY g ss t).length 1,(iY g ss t).length),iY g ss t)],σ,O,σ,by rw [b1]; simp [X],?_⟩,bn O⟩;have h3:St b7 (own 1 b3 (ds.length + 1) bb (ds.map bF ++ [.slice (fT a3 0 (iY g ss t).length 1) (iY g ss t).length (iY g ss t).length]) :: aC (ds.map (bB 1 iv) ++ [own 1 (fT a3 0 (iY g ss t).length 1) (iY g ss t).length (iY g ss t).length (iv (iY g ss t))]) :: all R):=h.pick 2 [1,0];simpa [bF,bB] using h3
end
section
variable {g:af} {ss ss' : List SQ}
theorem Ql (h:bq ss = bq ss') (i:Nat):(ss[i]?).map (λq=>q.2.2) = (ss'[i]?).map λq=>q.2.2:=by
 have:=congrArg (λl=>l[i]?) h;unfold bq at this;simpa [YW] using this
theorem DU (h:bq ss = bq ss') (i:Nat) (s:Int):fy ss i s = fy ss' i s:=by
 have:=Ql h i;unfold fy;cases h1:ss[i]? <;> cases h2:ss'[i]? <;> simp [h1,h2] at this ⊢;rw [this]
theorem Qm (h:bq ss = bq ss'):∀ i,vk g ss i = vk g ss' i
 | 0=>rfl
 | i + 1=>by
  have:=Ql h i
  show vk g ss i ++ _ = vk g ss' i ++ _
  rw [Qm h i]
  cases h1:ss[i]? <;> cases h2:ss'[i]? <;> simp [h1,h2] at this ⊢
  rw [this]
theorem DV (h:bq ss = bq ss'):ss.length = ss'.length:=by have:=congrArg List.length h; simpa [bq] using this
theorem uD (h:bq ss = bq ss'):bD g ss = bD g ss':=by unfold bD; rw [DV h,Qm h]
theorem Qn (h:bq ss = bq ss') (t:av):iY g ss t = iY g ss' t:=by
 unfold iY;rw [DU h];congr 1;cases fy ss' t.st.toNat t.sym with
 | none=>rfl
 | some j =>
  have:=Ql h j.toNat
  show (match ss[j.toNat]? with | none=>[] | some q=>_) = (match ss'[j.toNat]? with | none=>[] | some q=>_)
  cases h1:ss[j.toNat]? <;> cases h2:ss'[j.toNat]? <;> simp [h1,h2] at this ⊢;rw [this]
theorem Ht (h:bq ss = bq ss'):∀ (l:List Int) (q:Int),cK ss q l = cK ss' q l
 | [],q=>rfl
 | s :: l,q=>by
  unfold cK
  rw [DU h]
  cases fy ss' q.toNat s with
  | none=>rfl
  | some j=>exact Ht h l j
end
section
variable {g:af} {ss:List SQ}
theorem MN:∀ (n i:Nat),i<=n->∃ t,vk g ss n = vk g ss i ++ t
  | 0, i, h => ⟨[], by have : i = 0 := ω
                       subst this; simp⟩
  | n + 1,i,h=>by
    by_cases e:i = n + 1
    · subst e; exact ⟨[],σ⟩
    · obtain ⟨t,ht⟩:=MN n i ω
      exact ⟨t ++ (match ss[n]? with | some q=>fO g n q.2.2 | none=>[]),by rw [<- Y6,<- ht]; rfl⟩
theorem Qo (i:Nat) (a b:List aS):fO g i (a ++ b) = fO g i a ++ fO g i b:=by unfold fO; rw [Zs,Zg]
theorem Hu {i:Nat} {q:SQ} (hq:ss[i]? = some q) {j:Nat} {e:aS} (he:q.2.2[j]? = some e) (h:(g.T:Int)<=e.sym):(bD g ss)[(vk g ss i ++ fO g i (q.2.2.take j)).length]? = some ⟨(i:Int),e.sym⟩:=by
 have hi:=(YT.1 hq).1;obtain ⟨t,ht⟩:=MN (g:=g) (ss:=ss) ss.length (i + 1) ω
 have z:q.2.2 = q.2.2.take j ++ e :: q.2.2.drop (j + 1):=by
  have u:=(YT.1 he);rw [<- u.2,<- Zy u.1,Zk]
 have G:fO g i q.2.2 = fO g i (q.2.2.take j) ++ ⟨(i:Int),e.sym⟩ :: fO g i (q.2.2.drop (j + 1)):=by
  conv=>lhs; rw [z]
  rw [Qo];congr 1;unfold fO;rw [aal (by simpa using h)];rfl
 unfold bD;rw [ht,pQ hq,G,<- Y6,Y6,Y_ (Zc _),Z0];rfl
end
section
variable {g:af} {ss:List SQ}
theorem Qp (W:Nat->Bool) (n:Nat):(List.range (n + 1)).filter W = (List.range n).filter W ++ if W n = true then [n] else []:=by
 rw [Z1,Zs];congr 1;by_cases h:W n = true <;> simp [h]
def VJ (g:af) (ss:List SQ) (t:av) (j n:Nat):Bool:=if n = 0 then decide (t = ⟨0,g.start⟩) else (fy ss j n).isSome
theorem mz (h:bw g ss) {j:Nat} {r:SQ} (hr:ss[j]? = some r) {n:Nat} (hn:n < g.T + g.N):(fy ss j (n:Int)).isSome = decide (aO g r.1.2 (n:Int)≠[]):=by
 have u:=DQ h hr;rw [mu hr,Option.isSome_map,ZI,Y7,List.find?_isSome]
 constructor
 ·rintro ⟨e,G,z⟩;have z:e.sym = n:=YR z;have:e.sym∈r.2.2.map (·.sym):=Zh.2 ⟨e,G,rfl⟩;rw [u,z] at this;obtain ⟨m,U,O⟩:=Zh.1 this;have O:m = n:=Int.ofNat.inj O;subst O;exact vh m U
 ·intro R
  have:(n:Int)∈r.2.2.map (·.sym):=by
   rw [u];exact Zh.2 ⟨n,ZA.2 ⟨Zo.2 hn,Zp R⟩,rfl⟩
  obtain ⟨e,G,z⟩:=Zh.1 this;exact ⟨e,G,Zp z⟩
theorem Qq:∀ (T N:Nat) (p:Nat->Bool),((List.range (T + N)).filter p).filter (λn=>decide (n < T)) = (List.range T).filter p
 | T,0,p=>by
  rw [Nat.add_zero,List.filter_filter]
  refine Z5 λn hn=>?_
  rw [Zo] at hn
  simp [hn]
 | T,N + 1,p=>by
  rw [<- Nat.add_assoc,Qp,Zs,Qq T N p]
  have:(if p (T + N) = true then [T + N] else []).filter (λn=>decide (n < T)) = []:=by split <;> simp
  rw [this,Zm]
theorem Qr (h:bw g ss) {j:Nat} {r:SQ} (hr:ss[j]? = some r):BX g r.2.2 = ((List.range g.T).filter λn=>decide (aO g r.1.2 (n:Nat)≠[])).map Int.ofNat:=by
 have u:=DQ h hr
 have z:BX g r.2.2 = (r.2.2.map (·.sym)).filter λs=>decide (s < (g.T:Int)):=by
  unfold BX;rw [List.filter_map];rfl
 have G:=Qq g.T g.N λn=>decide (aO g r.1.2 (n:Nat)≠[]);rw [z,u,List.filter_map,<- G];congr 1;refine Z5 λn O=>?_
 show decide ((n:Int) < _) = _
 exact decide_eq_decide.2 ω
theorem Tu (hc:ak g) (h:bw g ss) {t:av} {j:Nat} {r:SQ} (hr:ss[j]? = some r):lK g t ++ BX g r.2.2 = ((List.range g.T).filter (VJ g ss t j)).map Int.ofNat:=by
 obtain ⟨Y,X,W,G,Z,_⟩:=hc.b9;have R:=(fN h hr).1;have hf:=(dE (g:=g) ω j).fit _ (YV R);have h0:=Qf hc hf;rw [Qr h hr];obtain ⟨T,u⟩ : ∃ T,g.T = T + 1:=⟨g.T - 1,ω⟩;rw [u,List.range_succ_eq_map]
 have V:((0 :: (List.range T).map Nat.succ).filter λn=>decide (aO g r.1.2 (n:Nat)≠[])) = ((List.range T).map Nat.succ).filter λn=>decide (aO g r.1.2 (n:Nat)≠[]):=by
  rw [aam];simpa using h0
 have z:((List.range T).map Nat.succ).filter (VJ g ss t j) = ((List.range T).map Nat.succ).filter λn=>decide (aO g r.1.2 (n:Nat)≠[]):=by
  refine Z5 λn U=>?_;obtain ⟨m,O,rfl⟩:=Zh.1 U;rw [Zo] at O;unfold VJ;rw [YZ ω,mz h hr ω]
 rw [V];unfold lK
 by_cases ht:t = ⟨0,g.start⟩
 ·rw [Y5 ht,aal (by unfold VJ; simp [ht]),z];rfl
 ·rw [YZ ht,aam (by unfold VJ; simp [ht]),z];rfl
end
section
variable {g:af} {ss:List SQ}
theorem jT (q s:Int) (l:List Int):cK ss q (s :: l) = match fy ss q.toNat s with | none=>-1 | some j=>cK ss j l:=rfl
theorem y_ (hn:∀ i s j,fy ss i s = some j->0<=j/\j < ss.length):∀ (l:List Int) (q:Int),0<=q->q < ss.length->cK ss q l = -1\/(0<=cK ss q l/\cK ss q l < ss.length)
 | [],q,h1,h2=>.inr ⟨h1,h2⟩
 | s :: l,q,h1,h2=>by
  unfold cK
  cases h:fy ss q.toNat s with
  | none=>exact .inl rfl
  | some j=>exact y_ hn l j (hn _ _ _ h).1 (hn _ _ _ h).2
theorem uE (hn:∀ i s j,fy ss i s = some j->0<=j/\j < ss.length) (b:List Int):∀ (l:List Int) (q:Int),0<=q->q < ss.length->cK ss q (l ++ b) = if cK ss q l = -1 then -1 else cK ss (cK ss q l) b
 | [],q,h1,h2=>by
  show cK ss q b = if q = -1 then -1 else cK ss q b
  rw [YZ ω]
 | s :: l,q,h1,h2=>by
  show cK ss q (s :: (l ++ b)) = _
  rw [jT q s (l ++ b),jT q s l]
  cases h:fy ss q.toNat s with
  | none=>simp
  | some j=>exact uE hn b l j (hn _ _ _ h).1 (hn _ _ _ h).2
end
section
variable {g:af} {ss:List SQ}
theorem vl (hc:ak g) (hA:bw g ss) {i:Nat} {q:SQ} (hq:ss[i]? = some q) {y:ai} {s:Int} (hy:pI g q.1.2 y) (hs:di g y = s) (h0:0<=s):∃ (j:Nat) (r:SQ),fy ss i s = some (j:Int)/\ss[j]? = some r/\(⟨y.prod,y.dot + 1⟩ : ai)∈r.1.2:=by
 obtain ⟨hT,hN,hP,a0,_,_⟩:=hc.b9;have Y:=(fN hA hq).1;have hf:=(dE (g:=g) ω i).fit _ (YV Y);have V:(⟨y.prod,y.dot + 1⟩ : ai)∈aO g q.1.2 s:=de.2 ⟨y,hy,hs,rfl⟩;have G:aO g q.1.2 s≠[]:=List.ne_nil_of_mem V;have W:=uv hc hf h0 G;obtain ⟨n,rfl⟩ : ∃ n:Nat,s = n:=⟨s.toNat,ω⟩;have u:=mz hA hq (n:=n) ω;rw [Zp G] at u;obtain ⟨t,ht⟩:=aaE.1 u;obtain ⟨q',k,e,z,X,O,U⟩:=qN ht;rw [hq] at z; cases z;obtain ⟨_,_,j,r,Z,_,hr,R,_⟩:=fh hc hA hq X;refine ⟨j,r,by rw [ht,<- U,Z],hr,?_⟩;rw [R,O];exact V
theorem qO (hc:ak g) (hA:bw g ss) {n:Nat} {p:aP} (hp:g.prods[n]? = some p):∀ (d m:Nat),m + d = p.right.length->∀ (i:Nat) (q:SQ),ss[i]? = some q->pI g q.1.2 ⟨(n:Int),(m:Int)⟩ ->
  ∃ (j:Nat) (r:SQ),cK ss (i:Int) (p.right.drop m) = (j:Int)/\ss[j]? = some r/\pI g r.1.2 ⟨(n:Int),(p.right.length:Int)⟩
 | 0,m,hm,i,q,hq,hy=>⟨i,q,by rw [aab ω]; rfl,hq,by rw [show p.right.length = m by omega]; exact hy⟩
 | d + 1,m,hm,i,q,hq,hy=>by
  have hlt:m < p.right.length:=ω
  have hpm:p∈g.prods:=YV hp
  have hs:di g ⟨(n:Int),(m:Int)⟩ = p.right[m]:=by
   rw [kz (p:=p) (by show g.prods[(n:Int).toNat]? = _; rw [Za]; exact hp)]
   show p.right.getD (m:Int).toNat (-1) = _
   rw [Za]
   simp [hlt]
  have hsy:=hc.sym hpm (List.getElem_mem hlt)
  obtain ⟨j,r,h1,h2,h3⟩:=vl hc hA hq hy hs ω
  have h4:pI g r.1.2 ⟨(n:Int),((m + 1:Nat):Int)⟩:=.base (by simpa using h3)
  obtain ⟨j',r',e1,e2,e3⟩:=qO hc hA hp d (m + 1) ω j r h2 h4
  refine ⟨j',r',?_,e2,e3⟩
  rw [Zy hlt,jT,Za,h1]
  exact e1
theorem Tv (hc:ak g) (hA:bw g ss) {i:Nat} {q:SQ} (hq:ss[i]? = some q) {n:Nat} {p:aP} (hp:g.prods[n]? = some p) (hy:pI g q.1.2 ⟨(n:Int),0⟩):(fy ss i p.left).isSome = decide (n≠0):=by
 have Y:=hc;obtain ⟨_,a4,U,p0,V,a0,Z,_⟩:=Y;obtain ⟨hT,hN,hP,a6,_,a5⟩:=hc.b9
 have R:∀ (m:Nat) O,g.prods[m]? = some O->m≠0->mj g 1 O:=λm O hm h0=>by
  refine U.2.2.1 O (YV (i:=m - 1) ?_);rw [Zv,show 1 + (m - 1) = m by omega]; exact hm
 by_cases h0:n = 0
 ·subst h0;rw [V] at hp; cases hp;rw [a0,mz hA hq ω];have W:=(fN hA hq).1;have hf:=(dE (g:=g) ω i).fit _ (YV W)
  have:aO g q.1.2 (g.T:Int) = []:=by
   refine Z3 λa1=>?_;obtain ⟨x,hx⟩:=aai _ a1;obtain ⟨y,h1,X,_⟩:=de.1 hx;obtain ⟨O,u,_,h3⟩:=DC (h1.fit hf) X (Zx _)
   by_cases h4:y.prod.toNat = 0
   ·rw [h4,V] at u; cases u;rw [Z] at h3;have:=YV h3;rw [Zl] at this;have:=U.2.2.2.2.1;omega
   ·have:=(R _ _ u h4).2 _ (YV h3);unfold fw at this;omega
  rw [this]; simp
 ·have a3:=R n p hp h0
  have G:∃ j:Int,fy ss i p.left = some j:=by
   generalize hz:(⟨(n:Int),0⟩ : ai) = z at hy;cases hy with
   | base h =>
    subst hz;cases i with
    | zero =>
     have W:=(fN hA hq).1
     have e:q.1.2 = [⟨0,0⟩]:=by
      have:(cN g 0).1[0]? = some [⟨0,0⟩]:=rfl;rw [this] at W;exact (Option.some.inj W).symm
     rw [e,Zl] at h;have:=congrArg ai.prod h;simp at this;omega
    | succ i =>
     have:=(Tp hc hA ω hq h).2.1;simp at this
   | step hy' h1 u hl' =>
    rename_i y i' O
    have e:i' = n:=by
     have:=congrArg ai.prod hz;simp at this;omega
    subst e;rw [hp] at u; cases u;obtain ⟨j,r,X,_⟩:=vl hc hA hq hy' hl'.symm (by rw [hl']; exact h1);exact ⟨j,X⟩
  obtain ⟨j,hj⟩:=G;rw [hj];simp [h0]
end
section
variable {g:af} {ss:List SQ}
theorem pU {h:Hp} {xs:List ai} {a:aa3} {l:Nat} (r:bh h xs a l) {i:Nat} (hi:i < l):∃ x ad,xs[i]? = some x/\a = some ad/\au h (ad.add (cE i 2)) (cR x):=by
 obtain ⟨x,ad,vs,z,G,u,e⟩:=r.get hi;rw [show vs = cR x from e] at u;exact ⟨x,ad,z,G,u⟩
end
abbrev pV:FuncId:=164
def xw:bm:={ rngs:=[],loops:=[],joins:=[],blocks:=[] }
section
variable {a b c d:aa3} {i j k l m n o p:Nat} {A:Int} {w:aa4} {R:Value->WP}
theorem xx (h:new w (ψ a i j b k l c m n A d o p) λa b=>χ b (aM a) λc=>rE 215 [c] b λb c=>∃ d,b = vB d/\br (!d) (R (vU [vS none 0 0,iI 1]) c) (∀ b,drawn c b->∃ (c:WP),c b/\∃ d e f g h i j k l m n o p,(∀ b,c b->rA b (aM a) 5 [vS d e f,vS g h i,vS j k l,iI m,vS n o p])/\∃ q r s,(∀ b,c b->cL b (aM a) (vS q r s))/\rE 216 [vG [vS d e f,vS g h i,vS j k l,iI m,vS n o p]] b λa b=>∃ d,a = vP d/\∃ (a:WP),a b/\(∀ b,a b->c b)/\nn d λc=>∃ d e f,(∀ b,a b->cL b (Addr.add c 5) (vS d e f))/\lR d e f (some (r:Int)) none none 1 λ(a:aa3) (c d:Nat)=>R (vU [vS a c d,iI 0]) b)):ρ 164 [φ a i j b k l c m n A d o p] w R:=rv Tryz.func164 xw (by kernel_rfl) h
abbrev DW:FuncId:=215
def Am:bm:={ rngs:=[],loops:=[],joins:=[],blocks:=[] }
theorem An (h:new w (ψ a i j b k l c m n A d o p) λa b=>χ b (aM a) λc=>rE 247 [c] b λb c=>∃ d,b = vB d/\br d (R (vB true) c) (χ c (aM a) λa=>rE 49 [a] c λa b=>∃ c,a = vB c/\R (vB c) b)):ρ 215 [φ a i j b k l c m n A d o p] w R:=rv Tryz.func215 Am (by kernel_rfl) h
abbrev Lk:FuncId:=216
def Hv:bm:={ rngs:=[],loops:=[(4,[(24,(.one (.int .i64)))]),(9,[(6,(.one (.int .i64)))]),(12,[(6,(.one (.int .i64))),(48,(.one (.int .i64)))])],joins:=[],blocks:=[] }
theorem Hw (h:new w (ψ a i j b k l c m n A d o p) λa b=>∃ c d e,cL b (aM a) (vS c d e)/\∃ c e f,cL b (Addr.add (aM a) 1) (vS c e f)/\ax ((d:Int) + (e:Int))/\∀ c,drawn b c->∃ (b:WP),b c/\∃ f g h i j k l m n o p q r,(∀ c,b c->rA c (aM a) 5 [vS f g h,vS i j k,vS l m n,iI o,vS p q r])/\tE ((d:Int) + (e:Int)) ((d:Int) + (e:Int)) 1/\new c (Obj.cells (Array.mk (ir (Int.toNat ((d:Int) + (e:Int))) [vB false])) 4) λc s=>b s/\new s (oC [vS f g h,vS i j k,vS l m n,iI o,vS p q r,vS (some (aM c)) (Int.toNat ((d:Int) + (e:Int))) (Int.toNat ((d:Int) + (e:Int))),vS none 0 0] 291) λc f=>b f/\τ [(24,aB)] λb g=>b 0 f/\∀ (_:ν) f h,b f h->br (decide (f < (d:Int) + (e:Int))) (∀ d,drawn h d->∃ (e:WP),e d/\∃ i j k,(∀ a,e a->cL a (Addr.add (aM c) 6) (vS i j k))/\∃ l m n,(∀ b,e b->cL b (aM a) (vS l m n))/\new d (oC [iI f] 3) λa d=>e d/\rE 59 [iI (m:Int),vS (some (aM a)) 1 1] d λa d=>∃ l,a = vP l/\e d/\new d (oC [vP l] 118) λa d=>e d/\rS (fe 286 (Array.mk [vS i j k,vS (some (aM a)) 1 1])) d λa d=>∃ i j k,a = vS i j k/\e d/\st1 d (Addr.add (aM c) 6) (vS i j k) λa=>ax (f + 1)/\b (f + 1) a/\g (f + 1) a < g f h) (τ [(6,aB)] λb d=>b 1 h/\∀ (_:ν) e f,b e f->br (decide (0 < e)) (∃ g h i,cL f (Addr.add (aM a) 4) (vS g h i)/\τ [(6,aB),(48,aB)] λa i=>a 0 0 f/\∀ (_:ν) j k l,a j k l->br (decide (k < (h:Int))) (idx g h k 3 λb=>∃ d e f g h,rA l b 3 [iI d,vS e f g,iI h]/\new l (oC [iI 0,vS none 0 0,iI 0] 81) λb m=>da m (aM b) [iI d,vS e f g,iI h] λd=>∀ e,drawn d e->∃ (d:WP),d e/\∃ f g h,(∀ a,d a->cL a (Addr.add (aM c) 6) (vS f g h))/\∃ h,(∀ a,d a->cL a (aM b) (iI h))/\idx f g h 1 λf=>∃ g,(∀ a,d a->cL a f (vP g))/\∃ f h m,(∀ a,d a->cL a (Addr.add (aM b) 1) (vS f h m))/\rE 248 [vP (some (aM c)),vP g,vS f h m] e λe f=>∃ g h,e = vU [iI g,vB h]/\d f/\ax (j + g)/\∀ d,drawn f d->∃ (e:WP),e d/\br h (∃ f h m,(∀ a,e a->cL a (Addr.add (aM c) 5) (vS f h m))/\∃ m,(∀ a,e a->cL a (aM b) (iI m))/\idx f h m 1 λf=>∃ h,(∀ a,e a->cL a f (vB h))/\br (!h) (∀ e,drawn d e->∃ (d:WP),d e/\∃ f h m,(∀ a,d a->cL a (Addr.add (aM c) 5) (vS f h m))/\∃ c,(∀ a,d a->cL a (aM b) (iI c))/\idx f h c 1 λb=>st1 e b (vB true) λb=>ax (j + g + 1)/\ax (k + 1)/\a (j + g + 1) (k + 1) b/\i (j + g + 1) (k + 1) b < i j k l) (ax (k + 1)/\a (j + g) (k + 1) d/\i (j + g) (k + 1) d < i j k l)) (ax (k + 1)/\a (j + g) (k + 1) d/\i (j + g) (k + 1) d < i j k l)) (b j l/\d j l < d e f)) (R (vP (some (aM c))) f))):ρ 216 [φ a i j b k l c m n A d o p] w R:=rv Tryz.func216 Hv (by kernel_rfl) h
abbrev Ao:FuncId:=248
def xy:bm:={ rngs:=[],loops:=[(3,[(8,(.one (.int .i64))),(13,(.one (.int .i64)))])],joins:=[],blocks:=[] }
theorem xz (h:τ [(8,aB),(13,aB)] λd e=>d 0 0 w/\∀ (_:ν) f g h,d f g h->br (decide (g < (i:Int))) (idx c i g 1 λc=>∃ i,cL h c (iI i)/\nn a λc=>∃ j k l,cL h (Addr.add c 6) (vS j k l)/\idx j k i 1 λc=>∃ j,cL h c (vP j)/\new h (oC [vP j] 118) λc j=>rE 213 [vP b,vS (some (aM c)) 1 1] j λb c=>∃ j,b = iI j/\ax (f + j)/\nn a λa=>∃ b k l,cL c (Addr.add a 5) (vS b k l)/\idx b k i 1 λa=>∃ b,cL c a (vB b)/\br (!b) (R (vU [iI (f + j),vB false]) c) (ax (g + 1)/\d (f + j) (g + 1) c/\e (f + j) (g + 1) c < e f g h)) (R (vU [iI f,vB true]) h)):ρ 248 [(.pointer a),(.pointer b),(.slice c i j)] w R:=rv Tryz.func248 xy (by kernel_rfl) h
end
def fi (nl:List Bool) (vs:List (List Bool)):List Bool->List Int->List Bool
 | bs,[]=>bs
 | bs,s :: r=>if aV nl s.toNat then fi nl vs (dC bs (dB (vs.getD s.toNat []))) r else dC bs (dB (vs.getD s.toNat []))
def vR (nl:List Bool) (row:List Int):Bool:=row.all λs=>aV nl s.toNat
theorem DX (nl:List Bool) (vs:List (List Bool)) (bs:List Bool):fi nl vs bs [] = bs:=rfl
theorem Ap (nl:List Bool) (vs:List (List Bool)) (bs:List Bool) (s:Int) (r:List Int):fi nl vs bs (s :: r) = if aV nl s.toNat then fi nl vs (dC bs (dB (vs.getD s.toNat []))) r else dC bs (dB (vs.getD s.toNat [])):=rfl
theorem uF (nl:List Bool) (vs:List (List Bool)):∀ (row:List Int) (bs:List Bool),(fi nl vs bs row).length = bs.length
 | [],bs=>rfl
 | s :: r,bs=>by
  unfold fi
  split
  ·rw [uF nl vs r,bR]
  ·rw [bR]
theorem qP (nl:List Bool) (vs:List (List Bool)):∀ (row:List Int) (bs:List Bool) (k:Nat),aV bs k = true->aV (fi nl vs bs row) k = true
 | [],bs,k,h=>h
 | s :: r,bs,k,h=>by
  unfold fi
  have:aV (dC bs (dB (vs.getD s.toNat []))) k = true:=by rw [eR,h]; rfl
  split
  ·exact qP nl vs r _ k this
  ·exact this
theorem Aq (nl:List Bool) (vs:List (List Bool)):∀ (row:List Int) (bs:List Bool),bg bs<=bg (fi nl vs bs row)
 | [],bs=>Zc _
 | s :: r,bs=>by
  unfold fi
  split
  ·exact Zq (pB _ _) (Aq nl vs r _)
  ·exact pB _ _
section
variable {w:aa4} {L:List az} {a an ao:aa3} {l c nl cn ol co ks:Nat} {p:aa3} {bs nulls:List Bool} {row:List Int} {os:List (aa3)} {vss:List (List Bool)} {gs:List Value}
theorem Xf (h:St w (fp p bs :: L)) (hs:∀ h,aD L h->au h ⟨ks,0,none⟩ (gs ++ [.slice an nl cn,.slice ao ol co])) (hgs:gs.length = 5) (hn:∀ h,aD L h->bh h nulls an nl) (ho:∀ h,aD L h->bh h os ao ol) (hv:vss.length = os.length) (hno:nulls.length = os.length)
  (hq:∀ h,aD L h->∀ (i:Nat) q v,os[i]? = some q->vss[i]? = some v->pC h q v\/(q = p/\v = bs)) (ht:∀ h,aD L h->gA h)
  (hr:∀ h,aD L h->bh h row a l) (hin:∀ s∈row,0<=s/\s.toNat < os.length) (hb:l<=4611686018427387904) :
  ρ Ao [.pointer (some ⟨ks,0,none⟩),.pointer p,.slice a l c] w λv w'=>v = .tuple #[.int .i64 ((bg (fi nulls vss bs row):Int) - bg bs),.bool (vR nulls row)]/\St w' (fp p (fi nulls vss bs row) :: L):=by
 obtain ⟨h0,V,_,h1⟩:=h.freeze;have hs:=hs h0 V;have hn:=hn h0 V;have ho:=ho h0 V;have hq:=hq h0 V;have ht:gA h0:=ht h0 V;have hr:=hr h0 V;have b1:=h.pC.le;have done:∀ w' b,St w' (fp p b :: [has h0])->St w' (fp p b :: L):=λw' b h=>h.nf V;clear h V;have c5:∀ w',sub h0 (hp w')->w'.cell? ((⟨ks,0,none⟩ : Addr).add 5) = some (.slice an nl cn):=λw' s=>hs.cell s (j:=5) (by rw [Y_ ω,hgs]; rfl);have c6:∀ w',sub h0 (hp w')->w'.cell? ((⟨ks,0,none⟩ : Addr).add 6) = some (.slice ao ol co):=λw' s=>hs.cell s (j:=6) (by rw [Y_ ω,hgs]; rfl);refine xz ?_;refine ⟨λn1 n2 w'=>∃ (j:Nat) (U:List Bool),n2 = j/\j<=l/\n1 = (bg U:Int) - bg bs/\bg bs<=bg U/\U.length = bs.length/\(∀ k,aV bs k = true->aV U k = true)/\fi nulls vss bs row = fi nulls vss U (row.drop j)/\vR nulls row = vR nulls (row.drop j)/\St w' [fp p U,has h0],λ_ n2 _=>l - n2.toNat,⟨0,bs,rfl,ω,ω,Zc _,rfl,λ_ h=>h,σ,σ,h1⟩,?_⟩;clear h1;rintro _ _ n2 w1 ⟨j,U,rfl,hj,rfl,b5,a8,R,G,W,h⟩;have s1:sub h0 (hp w1):=(h.pick 2 [1]).has;have k1:=fZ U
 refine ae (λu=>?_) λu=>?_
 ·have u:j < l:=by have:=YR u; omega
  obtain ⟨y,ad,a3,a9,ab⟩:=hr.cY u;obtain ⟨y0,yl⟩:=hin y (YV a3);obtain ⟨q,b4,am,aa,a4⟩:=ho.cY (i:=y.toNat) (by have:=ho.1; omega);obtain ⟨v,a0⟩ : ∃ v,vss[y.toNat]? = some v:=⟨vss[y.toNat]'ω,YU _⟩;obtain ⟨z,b3,aT,b0,a5⟩:=hn.cY (i:=y.toNat) (by have:=hn.1; omega);have ac:vss.getD y.toNat [] = v:=by simp [List.getD,a0]
  have a1:aV nulls y.toNat = z:=by simp [aV,List.getD,aT]
  have ed:row.drop j = y :: row.drop (j + 1):=by
   have:=Zy (l:=row) (i:=j) (by rw [hr.1]; exact u);rw [this]; congr 1;have:=YT.1 a3; exact this.2
  refine aw a9 u ⟨y,ab _ s1,_,_,_,c6 _ s1,?_⟩;have ey:y = ((y.toNat:Nat):Int):=ω
  rw [ey];refine aw aa (by have:=ho.1; omega) ⟨q,a4 _ s1,ag h λb2 w2 h2=>?_⟩;have a7:=hq _ _ _ am a0
  obtain ⟨Y,aI,a6⟩ : ∃ Y,(∀ h,aD [aH b2 [.pointer q],has h0] h->pC h q Y\/(q = p/\Y = U))/\dC U (dB Y) = dC U (dB v):=by
   rcases a7 with hr | ⟨rfl,rfl⟩
   ·exact ⟨v,λh O=>.inl (hr.mono (mh (A:=has h0) (aaH _ (List.mem_singleton_self _)) O |>.elim λh1 x=>x.2.trans x.1)),rfl⟩
   ·exact ⟨U,λh O=>.inr ⟨rfl,rfl⟩,by rw [vd λ_ h=>h,vd R]⟩
  refine (Mu (vss:=[Y]) (os:=[q]) (l:=1) (h2.pick 3 [1,0,2]) (λh O=>?_) rfl (λh O i q' w' hi hw=>?_) (λh O=>?_) ω).mono ?_
  ·obtain ⟨h1,_,_,s1,_,⟨e,he⟩,_⟩:=O;exact (eM (xs:=[q]) rfl (.inr ⟨_,rfl,qx ⟨e,he⟩⟩)).mono s1
  ·match i,hi,hw with
   | 0,hi,hw=>cases hi; cases hw; exact aI h O
   | i + 1,hi,_=>simp at hi
  ·exact fo.mono (mh (A:=has h0) (aaH _ (List.mem_singleton_self _)) O |>.elim λh1 x=>x.2.trans x.1) ht
  rintro _ w3 ⟨rfl,Z⟩;have eU:cZ U [Y] = dC U (dB v):=a6;rw [eU] at Z ⊢;have Z:=Z.pick 3 [0,2];have s3:sub h0 (hp w3):=(Z.pick 2 [1]).has;have k2:=pB U (dB v);have k3:=fZ (dC U (dB v));rw [bR] at k3;rw [ed] at G W;rw [Ap,ac,a1] at G;rw [show vR nulls (y :: row.drop (j + 1)) = (z && vR nulls (row.drop (j + 1))) from by unfold vR; rw [List.all_cons,a1]] at W;refine ⟨_,rfl,⟨ω,ω⟩,_,_,_,c5 _ s3,?_⟩
  refine aw b0 (by have:=hn.1; omega) ⟨z,a5 _ s3,ae (λX=>?_) λX=>?_⟩
  ·have X:z = false:=by simpa using X
   subst X;simp only [aav,if_false] at G
   refine ⟨?_,?_⟩
   ·rw [G,W,Bool.false_and,show (bg U:Int) - bg bs + ((bg (dC U (dB v)):Int) - bg U) = (bg (dC U (dB v)):Int) - bg bs from ω]
   ·rw [G]; exact done _ _ Z
  ·have X:z = true:=by simpa using X
   subst X;simp only [if_true] at G;rw [aaz] at W;refine ⟨⟨ω,ω⟩,⟨j + 1,dC U (dB v),σ,ω,ω,ω,by rw [bR]; exact a8,λk hk=>by rw [eR,R k hk]; rfl,G,W,Z⟩,bn u⟩
 ·have u:j = l:=by have:=YS u; omega
  subst u;rw [aab (by have:=hr.1; omega)] at G W;rw [DX] at G
  refine ⟨?_,?_⟩
  ·rw [G,W]; rfl
  ·rw [G]; exact done _ _ h
end
inductive BZ (g:af):Int->Prop
 | mk (p:aP):p∈g.prods->(∀ s∈p.right,BZ g s)->BZ g p.left
inductive OP (g:af):Int->Nat->Prop
 | tm (t:Nat):t < g.T->OP g (t:Int) t
 | pr (p:aP) (i:Nat) (s:Int) (t:Nat):p∈g.prods->p.right[i]? = some s->(∀ x∈p.right.take i,BZ g x)->OP g s t->OP g p.left t
def E9 (g:af) (row:List Int):Prop:=∀ s∈row,BZ g s
def sW (g:af) (row:List Int) (t:Nat):Prop:=∃ (i:Nat) (s:Int),row[i]? = some s/\(∀ x∈row.take i,BZ g x)/\OP g s t
theorem za {nl:List Bool} {row:List Int}:vR nl row = true↔∀ s∈row,aV nl s.toNat = true:=by
 unfold vR; rw [aaD]
theorem uG (nl:List Bool) (vs:List (List Bool)):∀ (row:List Int) (bs:List Bool) (k:Nat),aV (fi nl vs bs row) k = true↔aV bs k = true\/(k < bs.length/\∃ (i:Nat) (s:Int),row[i]? = some s/\(∀ x∈row.take i,aV nl x.toNat = true)/\aV (vs.getD s.toNat []) k = true)
 | [],bs,k=>by rw [DX]; simp
 | s :: r,bs,k=>by
  rw [Ap]
  constructor
  ·intro h
   by_cases hz:aV nl s.toNat = true
   ·rw [Y5 hz,uG nl vs r] at h
    rw [eR,bR,ZZ,Zd,Y7] at h
    rcases h with (h | ⟨h1,h2⟩) | ⟨h1,i,y,h2,h3,h4⟩
    ·exact .inl h
    ·exact .inr ⟨h1,0,s,rfl,σ,h2⟩
    ·refine .inr ⟨h1,i + 1,y,h2,?_,h4⟩
     intro x hx
     rw [List.take_succ_cons] at hx
     rcases Ze.1 hx with rfl | hx
     ·exact hz
     ·exact h3 x hx
   ·rw [YZ hz,eR,ZZ,Zd,Y7] at h
    rcases h with h | ⟨h1,h2⟩
    ·exact .inl h
    ·exact .inr ⟨h1,0,s,rfl,σ,h2⟩
  ·intro h
   have hu:(aV bs k = true\/(k < bs.length/\aV (vs.getD s.toNat []) k = true))->aV (dC bs (dB (vs.getD s.toNat []))) k = true:=λh=>by
    rw [eR,ZZ,Zd,Y7]; exact h
   by_cases hz:aV nl s.toNat = true
   ·rw [Y5 hz,uG nl vs r,bR]
    rcases h with h | ⟨h1,i,y,h2,h3,h4⟩
    ·exact .inl (hu (.inl h))
    ·match i,h2,h3 with
     | 0,h2,_=>cases h2; exact .inl (hu (.inr ⟨h1,h4⟩))
     | i + 1,h2,h3=>exact .inr ⟨h1,i,y,h2,λx hx=>h3 x (by rw [List.take_succ_cons]; exact aaH _ hx),h4⟩
   ·rw [YZ hz]
    rcases h with h | ⟨h1,i,y,h2,h3,h4⟩
    ·exact hu (.inl h)
    ·match i,h2,h3 with
     | 0,h2,_=>cases h2; exact hu (.inr ⟨h1,h4⟩)
     | i + 1,h2,h3=>exact absurd (h3 s (by rw [List.take_succ_cons]; exact List.mem_cons_self)) hz
def Sf (g:af):Prop:=∀ p∈g.prods,((g.T:Int)<=p.left/\p.left < g.T + g.N)/\∀ s∈p.right,0<=s/\s < (g.T:Int) + g.N
structure E_ (g:af) (nl:List Bool) (vs:List (List Bool)):Prop where
 ln:nl.length = g.T + g.N
 lv:vs.length = g.T + g.N
 le:∀ v∈vs,v.length = g.T
 sn:∀ i,aV nl i = true->BZ g (i:Int)
 sv:∀ i t,aV (vs.getD i []) t = true->OP g (i:Int) t
 tm:∀ t,t < g.T->aV (vs.getD t []) t = true
def Tw (nl:List Bool) (vs:List (List Bool)) (p:aP):Prop:=(vR nl p.right = true->aV nl p.left.toNat = true)/\fi nl vs (vs.getD p.left.toNat []) p.right = vs.getD p.left.toNat []
theorem b_ {s:Int} (h:0<=s):((s.toNat:Nat):Int) = s:=ω
theorem E_.row {g:af} {nl:List Bool} {vs:List (List Bool)} (m:E_ g nl vs) {row:List Int} (hr:∀ s∈row,0<=s/\s < (g.T:Int) + g.N):(vR nl row = true->E9 g row)/\∀ bs t,aV (fi nl vs bs row) t = true->aV bs t = true\/sW g row t:=by
 refine ⟨λh s G=>?_,λbs t h=>?_⟩
 ·have:=m.sn _ (za.1 h s G);rwa [b_ (hr s G).1] at this
 ·rcases (uG nl vs row bs t).1 h with h | ⟨_,i,s,z,O,R⟩
  ·exact .inl h
  ·refine .inr ⟨i,s,z,λx u=>?_,?_⟩
   ·have:=m.sn _ (O x u);rwa [b_ (hr x (aa0 u)).1] at this
   ·have:=m.sv _ _ R;rwa [b_ (hr s (YV z)).1] at this
theorem BZ.left {g:af} (hg:Sf g) {s:Int} (h:BZ g s):(g.T:Int)<=s/\s < g.T + g.N:=by
 cases h with | mk p hp _=>exact (hg p hp).1
theorem OP.lt {g:af} {s:Int} {t:Nat} (h:OP g s t):t < g.T:=by
 induction h with
 | tm t h=>exact h
 | pr p i s t _ _ _ _ ih=>exact ih
structure Ll (g:af) (nl:List Bool) (vs:List (List Bool)):Prop where
 ln:nl.length = g.T + g.N
 lv:vs.length = g.T + g.N
 le:∀ v∈vs,v.length = g.T
 nn:∀ i,aV nl i = true↔BZ g (i:Int)
 nv:∀ i t,aV (vs.getD i []) t = true↔OP g (i:Int) t
theorem E_.JE {g:af} {nl:List Bool} {vs:List (List Bool)} (m:E_ g nl vs) {i:Nat} (hi:i < g.T + g.N):(vs.getD i []).length = g.T:=by
 have h:vs[i]? = some (vs[i]'(by rw [m.lv]; exact hi)):=YU _;rw [List.getD,h];exact m.le _ (YV h)
theorem E_.all {g:af} {nl:List Bool} {vs:List (List Bool)} (hg:Sf g) (m:E_ g nl vs) (hc:∀ p∈g.prods,Tw nl vs p):Ll g nl vs:=by
 have cn:∀ s,BZ g s->aV nl s.toNat = true:=λs h=>by
  induction h with
  | mk p hp _ ih=>exact (hc p hp).1 (za.2 ih)
 have z:∀ s t,OP g s t->aV (vs.getD s.toNat []) t = true:=λs t h=>by
  induction h with
  | tm t h=>exact m.tm t h
  | pr p i s t hp hi hx hs ih =>
   have G:=(hg p hp).1;rw [<- (hc p hp).2,uG];exact .inr ⟨by rw [m.JE ω]; exact hs.lt,i,s,hi,λx u=>cn x (hx x u),ih⟩
 exact ⟨m.ln,m.lv,m.le,λi=>⟨m.sn i,λh=>cn _ h⟩,λi t=>⟨m.sv i t,λh=>z _ _ h⟩⟩
theorem Ll.row {g:af} {nl:List Bool} {vs:List (List Bool)} (m:Ll g nl vs) {row:List Int} (hr:∀ s∈row,0<=s/\s < (g.T:Int) + g.N):(vR nl row = true↔E9 g row)/\∀ bs t,aV (fi nl vs bs row) t = true↔aV bs t = true\/(t < bs.length/\sW g row t):=by
 refine ⟨?_,λbs t=>?_⟩
 ·rw [za]
  refine forall_congr' λs=>⟨λh G=>?_,λh G=>?_⟩
  ·have:=(m.nn _).1 (h G); rwa [b_ (hr s G).1] at this
  ·exact (m.nn _).2 (by rw [b_ (hr s G).1]; exact h G)
 ·rw [uG];refine or_congr Iff.rfl (and_congr Iff.rfl (exists_congr λi=>exists_congr λs=>?_))
  refine ⟨λ⟨z,O,R⟩=>⟨z,λx u=>?_,?_⟩,λ⟨z,O,R⟩=>⟨z,λx u=>?_,?_⟩⟩
  ·have:=(m.nn _).1 (O x u); rwa [b_ (hr x (aa0 u)).1] at this
  ·have:=(m.nv _ _).1 R; rwa [b_ (hr s (YV z)).1] at this
  ·exact (m.nn _).2 (by rw [b_ (hr x (aa0 u)).1]; exact O x u)
  ·exact (m.nv _ _).2 (by rw [b_ (hr s (YV z)).1]; exact R)
def DY (v:List Bool):Nat:=v.length - bg v
def nm (nl:List Bool) (vs:List (List Bool)):Nat:=DY nl + (vs.map DY).sum
theorem MO:∀ {l:List Nat} {k x y:Nat},l[k]? = some x->(l.set k y).sum + x = l.sum + y
 | [],k,x,y,h=>by simp at h
 | z :: l,0,x,y,h=>by simp at h; subst h; simp; omega
 | z :: l,k + 1,x,y,h=>by
  have:=MO (l:=l) (k:=k) (x:=x) (y:=y) (by simpa using h)
  simp; omega
theorem JF {nl:List Bool} {vs:List (List Bool)} {k:Nat} {v v' : List Bool} (h:vs[k]? = some v) (hl:v'.length = v.length) (hc:bg v<=bg v'):nm nl (vs.set k v') + (bg v' - bg v) = nm nl vs:=by
 have G:=MO (l:=vs.map DY) (k:=k) (x:=DY v) (y:=DY v') (by rw [YW,h]; rfl);have u:=fZ v;have z:=fZ v';unfold nm;rw [ZM];unfold DY at *;omega
theorem exists_least {P:Nat->Prop} (h:∃ m,P m):∃ m,P m/\∀ k,P k->m<=k:=by
 obtain ⟨m,O⟩:=h
 induction m using Nat.strongRecOn with
 | _ m ih =>
  by_cases G:∃ k,k < m/\P k
  ·obtain ⟨k,u,hp⟩:=G;exact ih k u hp
  ·exact ⟨m,O,λk u=>aax λz=>G ⟨k,z,u⟩⟩
theorem DZ {α : Type} (P:α->Nat->Prop):∃ μ : α->Nat,(∀ x m,P x m->μ x<=m)/\∀ x,(∃ m,P x m)->P x (μ x):=by
 have h:∀ x,∃ m,(∀ k,P x k->m<=k)/\((∃ k,P x k)->P x m):=λx=>by
  by_cases u:∃ k,P x k
  ·obtain ⟨m,O,G⟩:=exists_least u;exact ⟨m,G,λ_=>O⟩
  ·exact ⟨0,λk z=>absurd ⟨k,z⟩ u,λh=>absurd h u⟩
 exact ⟨λx=>(h x).choose,λx=>(h x).choose_spec.1,λx=>(h x).choose_spec.2⟩
theorem Ar {m m' : Nat->Bool} (h:∀ k,m k = true->m' k = true):∀ n,kZ n m<=kZ n m'/\(kZ n m = kZ n m'->∀ k,k < n->m k = m' k)
 | 0=>⟨Zc _,λ_ k hk=>ω⟩
 | n + 1=>by
  obtain ⟨h1,h2⟩:=Ar h n
  rw [tY,tY]
  have h3:=h n
  cases e:m n <;> cases e' : m' n
  ·refine ⟨by simpa using h1,λhe k hk=>?_⟩
   by_cases ek:k = n
   ·subst ek; rw [e,e']
   ·exact h2 (by simpa using he) k ω
  ·simp only [aav,if_false,if_true]
   exact ⟨ω,λhe=>ω⟩
  ·rw [e,e'] at h3; simp at h3
  ·refine ⟨by simpa using h1,λhe k hk=>?_⟩
   by_cases ek:k = n
   ·subst ek; rw [e,e']
   ·exact h2 (by simpa using he) k ω
theorem D0 {bs cs:List Bool} (hl:cs.length = bs.length) (hs:∀ k,aV bs k = true->aV cs k = true) (hc:bg cs = bg bs):cs = bs:=by
 refine ij hl λk=>?_
 by_cases u:k < bs.length
 ·unfold bg at hc;rw [hl] at hc;exact ((Ar hs bs.length).2 hc.symm k u).symm
 ·rw [qy ω,qy ω]
theorem pW {nl:List Bool} {k:Nat} (hk:k < nl.length) (j:Nat):aV (nl.set k true) j = (aV nl j || j == k):=by
 unfold aV;rw [YX,YX,ZN]
 by_cases e:k = j
 ·subst e; simp [hk]
 ·have:¬ j = k:=λh=>e h.symm;simp [e,this]
theorem MP {nl:List Bool} {k:Nat} (hk:k < nl.length) (hf:aV nl k = false):DY (nl.set k true) + 1 = DY nl:=by
 have z:bg (nl.set k true) = bg nl + 1:=by
  unfold bg;rw [Zn,<- Mo hk hf];exact FJ λj _=>pW hk j
 have u:=fZ (nl.set k true);rw [Zn] at u;unfold DY;rw [Zn];omega
theorem F7 {vs:List (List Bool)} {k:Nat} (hk:k < vs.length) (v:List Bool) (j:Nat):(vs.set k v).getD j [] = if j = k then v else vs.getD j []:=by
 rw [YX,YX,ZN]
 by_cases e:k = j
 ·subst e; simp [hk]
 ·have:¬ j = k:=λh=>e h.symm;simp [e,this]
theorem E_.lay {g:af} (hg:Sf g) {nl:List Bool} {vs:List (List Bool)} (m:E_ g nl vs) {p:aP} (hp:p∈g.prods):E_ g nl (vs.set p.left.toNat (fi nl vs (vs.getD p.left.toNat []) p.right)):=by
 obtain ⟨V,G⟩:=hg p hp;have z:p.left.toNat < g.T + g.N:=ω
 have u:p.left.toNat < vs.length:=by rw [m.lv]; exact z
 refine ⟨m.ln,by rw [Zn]; exact m.lv,λv hv=>?_,m.sn,λi t h=>?_,λt ht=>?_⟩
 ·rcases aaq hv with hv | rfl
  ·exact m.le v hv
  ·rw [uF]; exact m.JE z
 ·rw [F7 u] at h
  split at h
  ·rename_i e;subst e;rw [b_ ω]
   rcases (m.row G).2 _ _ h with h | ⟨i,s,U,O,R⟩
   ·have:=m.sv _ _ h; rwa [b_ ω] at this
   ·exact .pr p i s t hp U O R
  ·exact m.sv _ _ h
 ·rw [F7 u]
  split
  ·omega
  ·exact m.tm t ht
theorem E_.X2 {g:af} (hg:Sf g) {nl:List Bool} {vs:List (List Bool)} (m:E_ g nl vs) {p:aP} (hp:p∈g.prods) (hn:E9 g p.right):E_ g (nl.set p.left.toNat true) vs:=by
 obtain ⟨G,z⟩:=hg p hp;have u:p.left.toNat < nl.length:=by rw [m.ln]; omega
 refine ⟨by rw [Zn]; exact m.ln,m.lv,m.le,λi h=>?_,m.sv,m.tm⟩;rw [pW u,ZZ,aaR] at h
 rcases h with h | rfl
 ·exact m.sn i h
 ·rw [b_ ω]; exact .mk p hp hn
theorem Tx {g:af} {nl:List Bool} {vs:List (List Bool)} (m:E_ g nl vs):nm nl vs<=(g.T + g.N) + (g.T + g.N) * g.T:=by
 unfold nm;have U:DY nl<=g.T + g.N:=by unfold DY; rw [m.ln]; omega
 have O:∀ l:List (List Bool),(∀ v∈l,v.length = g.T)->(l.map DY).sum<=l.length * g.T:=λl=>by
  induction l with
  | nil=>intro _; simp
  | cons v l ih =>
   intro h;have z:=ih λu G=>h u (aaH _ G);have R:DY v<=g.T:=by unfold DY; rw [h v List.mem_cons_self]; omega
   simp only [ZF,aa1,ZC,aao];omega
 have z:=O vs m.le;rw [m.lv] at z;omega
theorem Tz {g:af} (h:im g):Sf g/\g.T<=65/\g.N<=65/\0 < g.N/\0 < g.T/\g.prods.length<=97:=by
 have Y:g.T = g.terms.length:=rfl;have W:g.N = g.nons.length:=rfl
 rcases h with ⟨s,p,_⟩ | ⟨h0,s,p,q,O,X,U,Z⟩
 ·have V:=yJ.1 s;have R:0 < g.terms.length:=(YT.1 s.1).1;refine ⟨λr u=>?_,ω,ω,ω,ω,by have:=p.2.1; omega⟩;have:=p.2.2.1 r u;exact ⟨⟨by have:=this.1.1; omega,this.1.2.1⟩,λy z=>by have:=this.2 y z; unfold fw at this; omega⟩
 ·have V:=yJ.1 s;have R:0 < g.terms.length:=(YT.1 s.1).1;refine ⟨λr u=>?_,ω,ω,ω,ω,by have:=p.2.1; omega⟩
  have G:r = q\/r∈g.prods.drop 1:=by
   cases hg:g.prods with
   | nil=>rw [hg] at u; cases u
   | cons a l =>
    rw [hg] at u O;cases O
    rcases Ze.1 u with h | h
    ·exact .inl h
    ·exact .inr h
  rcases G with rfl | G
  ·refine ⟨ω,λy z=>?_⟩;rw [U,Zl] at z;subst z;have:=p.2.2.2.2; omega
  ·have:=p.2.2.1 r G;exact ⟨⟨by have:=this.1.1; omega,this.1.2.1⟩,λy z=>by have:=this.2 y z; unfold fw at this; omega⟩
theorem Cx {α : Sort _} (a:α):∃ q,q = a:=⟨a,rfl⟩
def FC (x:GA) (k14 n:Nat) (o:aa3) (j c:Nat):List Value:=[.slice x.ta x.tl x.tc,.slice x.na x.nl x.nc,.slice x.la x.ll x.lc,.int .i64 x.s,.slice x.pa x.pl x.pc,.slice (some ⟨k14,0,none⟩) n n,.slice o j c]
def mA (T j:Nat):List (List Bool):=(List.range j).map λ(i:Nat)=>E0 (T:Int) [(i:Int)]
theorem Lm (T j:Nat):mA T (j + 1) = mA T j ++ [E0 (T:Int) [(j:Int)]]:=by simp [mA,Z1]
theorem F8 (T j:Nat):(mA T j).length = j:=by simp [mA]
theorem Ln {T i:Nat} (hT:T<=65) (t:Nat):(E0 (T:Int) [(i:Int)]).length = T/\(aV (E0 (T:Int) [(i:Int)]) t = true↔t = i/\t < T):=by
 have u:Kp (T:Int) = T:=by unfold Kp; split <;> split at * <;> omega
 unfold E0;refine ⟨by rw [bR,Z7,u],?_⟩;rw [ik,Z7,u,gv,lD,Bool.false_or];simp only [Zd,Y7,aat,Zl];omega
theorem Qs {g:af} (hT:g.T<=65):E_ g (List.replicate (g.T + g.N) false) (mA g.T (g.T + g.N)):=by
 have u:∀ i,aV ((mA g.T (g.T + g.N)).getD i []) = if i < g.T + g.N then aV (E0 (g.T:Int) [(i:Int)]) else aV []:=λi=>by
  unfold mA;rw [YX,YW]
  by_cases h:i < g.T + g.N
  ·rw [Z8 h,Y5 h]; rfl
  ·rw [Zf (by simp; omega),YZ h]; rfl
 refine ⟨σ,F8 _ _,λv hv=>?_,λi h=>?_,λi t h=>?_,λt ht=>?_⟩
 ·obtain ⟨i,_,rfl⟩:=Zh.1 hv;exact (Ln hT 0).1
 ·rw [lD] at h; cases h
 ·rw [u] at h
  split at h
  ·obtain ⟨rfl,h'⟩:=((Ln hT t).2).1 h;exact .tm t h'
  ·simp [aV] at h
 ·rw [u,Y5 ω];exact (Ln hT t).2.2 ⟨rfl,ht⟩
section
variable {w:aa4} {L:List az} {g:af} {x:GA}
theorem X3 (hg:gR (hp w) g x) (hb:jd g) (he:im g) (ht:gA (hp w)):ρ Lk [.agg ⟨x.cells⟩] w λv w'=>∃ (b k14:Nat) (o:aa3) (c:Nat) (nl:List Bool) (ps:List Nat) (vs:List (List Bool)),v = .pointer (some ⟨b,0,none⟩)/\Ll g nl vs/\ps.length = vs.length /\
  St w' (aH b (FC x k14 (g.T + g.N) o ps.length c) :: aH k14 (bv nl) :: own 1 o ps.length c (pv (ps.map bk)) :: aC (jL ps vs) :: all w):=by
 refine Hw ?_;refine cG hg λk1 w1 gw hg B=>?_;obtain ⟨iG,bT,bN,pN,pT,bP⟩:=Tz he;have tl:g.T = x.tl:=hg.t.1;have nl:g.N = x.nl:=hg.n.1;have pl:=hg.p.1;have ht:=fo.mono gw ht;refine ⟨_,_,_,B.c0 (sub.refl _),_,_,_,B.c1 (sub.refl _),⟨ω,ω⟩,λw2 hd=>?_⟩;have e2:hp w2 = hp w1:=dT hd;have gs:sub (hp w) (hp w1):=gw;generalize hH:hp w1 = H at *;have eN:(x.tl:Int) + (x.nl:Int) = ((g.T + g.N:Nat):Int):=by rw [tl,nl]; omega
 rw [eN];have bC:(x.tl:Int) = (g.T:Int):=by rw [tl]
 rw [Za,dq];have X:St w2 [has H]:=by have:=St.all w2; unfold Proofs.YtndaepmjkbmjmaaGreatDoor.all at this; rwa [e2] at this
 refine ⟨λw=>sub H (hp w),e2 ▸ sub.refl _,_,_,_,_,_,_,_,_,_,_,_,_,_,λw s=>B.row s,⟨ω,rfl,ω⟩,ag X λk14 w4 h4=>⟨aR 1 h4.l,ag h4 λG w5 h5=>⟨aR 2 h5.l,?_⟩⟩⟩;clear X h4;have bi:List.replicate (g.T + g.N) (Value.bool false) = bv (List.replicate (g.T + g.N) false):=by simp [bv]
 rw [bi] at h5
 refine ⟨λn w'=>∃ (j:Nat) (o:aa3) (c:Nat) (ps:List Nat),n = j/\j<=g.T + g.N/\ps.length = j/\St w' [aH G (FC x k14 (g.T + g.N) o j c),aH k14 (bv (List.replicate (g.T + g.N) false)),own 1 o j c (pv (ps.map bk)),aC (jL ps (mA g.T j)),has H],λn _=>g.T + g.N - n.toNat,⟨0,none,0,[],rfl,ω,rfl,?_⟩,?_⟩
 ·have h6:=ay 1 h5;have h7:St w5 (aC (jL [] (mA g.T 0)) :: _):=St.flat.2 (show St w5 ([] ++ _) from h6);exact h7.pick 5 [2,3,1,0,4]
 clear h5;rintro _ n2 w6 ⟨j,o,c,ps,rfl,hj,O,h⟩
 refine ae (λu=>?_) λu=>?_
 ·have u:j < g.T + g.N:=by have:=YR u; omega
  intro w7 hd;have h:=h.drawn hd;have I:∀ {w:aa4} {cs},au (hp w) ⟨G,0,none⟩ cs->sub H (hp w)->au (hp w) ⟨G,0,none⟩ cs/\sub H (hp w):=λa b=>⟨a,b⟩;refine ⟨λw=>au (hp w) ⟨G,0,none⟩ (FC x k14 (g.T + g.N) o j c)/\sub H (hp w),I (ah 0 h.l) (aR 4 h.l),_,_,_,λw h=>h.1.cell (sub.refl _) (j:=6) rfl,_,_,_,λw h=>B.c0 h.2,ag h λcu d1 h=>⟨I (ah 1 h.l) (aR 5 h.l),?_⟩⟩;refine (Vr (xs:=[(j:Int)]) (l:=1) (x.tl:Int) (eO rfl (.inr ⟨_,rfl,ah 0 h.l⟩)) ω).mono ?_;rintro _ d5 ⟨V,rfl,h1⟩;have h:=h1.nf h;refine ⟨_,rfl,I (ah 2 h.l) (aR 6 h.l),ag h λcp d2 h=>⟨I (ah 3 h.l) (aR 7 h.l),?_⟩⟩;refine (aL aQ (rfl:aj Ty _ = .slice _) (rfl:aj Ty _ = .slice _) rfl rfl rfl (h.pick 8 [0,5,1,2,3,4,6,7]) rfl (by simp [aG]) (by show (_ + 1) * 8<=_; omega) ω).mono ?_;rintro _ ci ⟨o',c',rfl,h⟩;refine ⟨_,_,_,rfl,I (ah 4 h.l) (aR 7 h.l),?_⟩
  show st1 ci ((⟨G,0,none⟩ : Addr).add 6) _ _
  rw [aK];refine bj (h.pick 8 [4,0,2,5,6,7]) (by simp [FC]) λc8 h=>⟨⟨ω,ω⟩,⟨j + 1,o',c',ps ++ [V],σ,ω,by simp [O],?_⟩,bn u⟩;have h:St c8 [aH G (FC x k14 (g.T + g.N) o' (j + 1) c'),own 1 o' (j + 1) c' (pv (ps.map bk) ++ [.pointer (some ⟨V,0,none⟩)]),fp (some ⟨V,0,none⟩) (E0 (x.tl:Int) [(j:Int)]),aH k14 (bv (List.replicate (g.T + g.N) false)),aC (jL ps (mA g.T j)),has H]:=h;have e1:pv (ps.map bk) ++ [.pointer (some ⟨V,0,none⟩)] = pv ((ps ++ [V]).map bk):=by simp [pv,bk]
  have bd:(jL ps (mA g.T j) ++ [fp (some ⟨V,0,none⟩) (E0 (x.tl:Int) [(j:Int)])]) = jL (ps ++ [V]) (mA g.T (j + 1)):=by
   rw [Lm,bC]; unfold jL; rw [List.zipWith_append (by rw [F8]; exact O)]; rfl
  rw [e1] at h;have h:=St.snoc (A:=fp (some ⟨V,0,none⟩) (E0 (x.tl:Int) [(j:Int)])) (M:=jL ps (mA g.T j)) (h.pick 6 [2,4,0,1,3,5]);rw [bd] at h;exact h.pick 5 [1,3,2,0,4]
 have u:j = g.T + g.N:=by have:=YS u; omega
 subst u
 obtain ⟨Q,hQ⟩:=Cx (λ(n:Int) (w:aa4) (m:Nat)=>∃ (nl:List Bool) (vs:List (List Bool)),E_ g nl vs/\0<=n/\(m:Int) = nm nl vs + (if 0 < n then 1 else 0)/\(n = 0->∀ p∈g.prods,Tw nl vs p) /\
  St w [aH G (FC x k14 (g.T + g.N) o (g.T + g.N) c),aH k14 (bv nl),own 1 o (g.T + g.N) c (pv (ps.map bk)),aC (jL ps vs),has H])
 obtain ⟨μ,c9,cg⟩:=DZ (λ(y:Int × aa4) m=>Q y.1 y.2 m)
 refine ⟨λn w'=>∃ m,Q n w' m,λn w=>μ (n,w),⟨nm (List.replicate (g.T + g.N) false) (mA g.T (g.T + g.N)) + 1,?_⟩,?_⟩
 ·rw [hQ];exact ⟨_,_,Qs bT,by decide,σ,λh=>absurd h (by decide),h⟩
 clear h;intro _ n3 b1 hP;have hP:=cg (n3,b1) hP;dsimp only at hP;generalize hμ : μ (n3,b1) = μ0 at *;rw [hQ] at hP;obtain ⟨a1,a0,a6,d4,ca,a9,h⟩:=hP;refine ae (λU=>?_) λU=>?_
 rotate_left
 ·have U:=YS U;have a9:=a9 ω;refine ⟨G,k14,o,c,a1,ps,a0,rfl,a6.all iG a9,by rw [O,a6.lv],?_⟩;rw [O];exact St.on (N:=[_,_,_,_]) h (bH gs)
 have U:=YR U;rw [Y5 U] at ca;refine ⟨_,_,_,B.c4 (aR 4 h.l),λn4 n5 w'=>∃ (j:Nat) (nl:List Bool) (vs:List (List Bool)),n5 = j/\j<=x.pl/\0<=n4/\n4 + nm nl vs = nm a1 a0/\E_ g nl vs/\(n4 = 0->∀ p∈g.prods.take j,Tw nl vs p)/\St w' [aH G (FC x k14 (g.T + g.N) o (g.T + g.N) c),aH k14 (bv nl),own 1 o (g.T + g.N) c (pv (ps.map bk)),aC (jL ps vs),has H],λ_ n5 _=>x.pl - n5.toNat,⟨0,a1,a0,rfl,ω,ω,ω,a6,σ,h⟩,?_⟩;clear h;rintro _ n4 n5 b2 ⟨j,nl,vs,rfl,hj,c6,d7,mk,Y,h⟩;refine ae (λu=>?_) λu=>?_
 rotate_left
 ·have u:j = x.pl:=by have:=YS u; omega
  subst u;rw [Zb ω] at Y
  have key:Q n4 b2 (nm nl vs + (if 0 < n4 then 1 else 0)):=by
   rw [hQ]; exact ⟨nl,vs,mk,c6,by split <;> simp,Y,h⟩
  refine ⟨⟨_,key⟩,?_⟩;have:=c9 (n4,b2) _ key;dsimp only;rw [hμ]
  split at this <;> omega
 have u:j < x.pl:=by have:=YR u; omega
 obtain ⟨p,ad,ck,b4,bG,c5,a,l,c3,rfl,cv,b0⟩:=hg.p.get u;have a4:=YV b4;obtain ⟨cx,aa⟩:=iG p a4;have et:g.prods.take (j + 1) = g.prods.take j ++ [p]:=by rw [Y2,b4]; rfl
 refine aq bG u ⟨_,_,_,_,_,c5.at (aR 4 h.l) rfl,ag h λa3 cz h=>aU h rfl (by intro v hv; simp at hv; rcases hv with rfl | rfl | rfl <;> rfl) λcD h=>?_⟩;intro c7 hd;have h:=h.drawn hd;obtain ⟨k,hk⟩ : ∃ k:Nat,p.left = k:=⟨p.left.toNat,ω⟩;rw [hk] at h;have ab:p.left.toNat = k:=ω
 have R:k < g.T + g.N:=ω
 obtain ⟨V,a5⟩ : ∃ V,ps[k]? = some V:=⟨ps[k]'ω,YU _⟩;obtain ⟨v,hv⟩ : ∃ v,vs[k]? = some v:=⟨vs[k]'(by rw [mk.lv]; exact R),YU _⟩;have b6:vs.getD k [] = v:=by rw [YX,hv]; rfl
 have b3:(ps.map bk)[k]? = some (bk V):=by rw [YW,a5]; rfl
 have rp:bh (hp c7) (ps.map bk) o (g.T + g.N):=Vt 3 h.l rfl rfl (by simp [O]);obtain ⟨q,d3,b7,b5,cm⟩:=rp.cY R;rw [b3] at b7; cases b7;refine ⟨λw=>au (hp w) ⟨G,0,none⟩ (FC x k14 (g.T + g.N) o (g.T + g.N) c)/\au (hp w) ⟨a3,0,none⟩ [.int .i64 (k:Int),.slice a l c3,.int .i64 p.level]/\bh (hp w) (ps.map bk) o (g.T + g.N),⟨ah 1 h.l,ah 0 h.l,rp⟩,_,_,_,λw h=>h.1.cell (sub.refl _) (j:=6) rfl,_,λw h=>h.2.1.cell0 (sub.refl _),?_⟩
 refine aw b5 R ⟨bk V,λw h=>?_,_,_,_,λw h=>h.2.1.cell (sub.refl _) (j:=1) rfl,?_⟩
 ·obtain ⟨q',cB,e1,e2,e3⟩:=h.2.2.cY R;rw [b3] at e1; cases e1;rw [b5] at e2; cases e2;exact e3 _ (sub.refl _)
 have gS:(jL ps vs)[k]? = some (fp (bk V) v):=by unfold jL; rw [aau,a5,hv]
 have Gz:∀ W,(jL ps vs).set k (fp (bk V) W) = jL ps (vs.set k W):=λW=>Mv (λp v=>fp (bk p) v) a5;have h:=St.out (h.pick 6 [4,0,1,2,3,5]) gS
 refine (Xf (nulls:=nl) (os:=ps.map bk) (vss:=vs) (row:=p.right) (gs:=x.cells) h (λh Z=>ah 2 Z) rfl (λh Z=>mf mk.ln (.inr ⟨_,rfl,ah 3 Z⟩)) (λh Z=>Vt 4 Z rfl rfl (by simp [O])) (by simp [O,mk.lv]) (by simp [O,mk.ln]) (λh Z i q W hi aI=>?_) (λh Z=>fo.mono (aR 5 Z) ht) (λh Z=>b0.mono (aR 5 Z)) (λs hs=>⟨(aa s hs).1,?_⟩) ?_).mono ?_
 ·rw [YW] at hi;cases hpi:ps[i]? with
  | none=>rw [hpi] at hi; cases hi
  | some pi =>
   rw [hpi] at hi; cases hi
   by_cases ek:i = k
   ·subst ek;rw [a5] at hpi; cases hpi;rw [hv] at aI; cases aI;exact .inr ⟨rfl,rfl⟩
   ·exact .inl (XW 0 Z hpi aI ek)
 ·have:=(aa s hs).2; simp [O]; omega
 ·have:=b0.1; have:=hb.2.2.2.2.2.2 p a4; omega
 rintro _ cC ⟨rfl,h⟩;have am:=mk.lay iG a4;rw [ab,b6] at am;have a7:(fi nl vs v p.right).length = v.length:=uF _ _ _ _;have bl:=Aq nl vs p.right v;have d9:=JF (nl:=nl) hv a7 bl;have cb:=qP nl vs p.right v;have d6:=Tx a6
 have d8:(g.T + g.N) + (g.T + g.N) * g.T<=100000:=by
  have:=aaG (show g.T + g.N<=130 by omega) bT; omega
 have aT:(vR nl p.right = true->aV nl k = true)->n4 + ((bg (fi nl vs v p.right):Int) - bg v) = 0->∀ r∈g.prods.take (j + 1),Tw nl (vs.set k (fi nl vs v p.right)) r:=λac h0 r hr=>by
  have e0:fi nl vs v p.right = v:=D0 a7 cb ω
  have e1:vs.set k v = vs:=by
   apply ZK;intro i;rw [ZN]
   split
   ·rename_i e; subst e; rw [hv]; simp; rw [mk.lv]; exact R
   ·rfl
  rw [e0,e1];rw [et] at hr
  rcases YY.1 hr with hr | hr
  ·exact Y ω r hr
  ·simp at hr; subst hr;unfold Tw;rw [ab,b6];exact ⟨ac,e0⟩
 have h:=St.back h gS;rw [Gz] at h;generalize fi nl vs v p.right = W at *;refine ⟨_,_,rfl,⟨ah 2 h.l,ah 1 h.l,Vt 4 h.l rfl rfl (by simp [O])⟩,⟨ω,ω⟩,λbb hd=>?_⟩;have h:=h.drawn hd
 have a8:∀ {w'},St w' [aC (jL ps (vs.set k W)),aH a3 [.int .i64 (k:Int),.slice a l c3,.int .i64 p.level],aH G (FC x k14 (g.T + g.N) o (g.T + g.N) c),aH k14 (bv nl),own 1 o (g.T + g.N) c (pv (ps.map bk)),has H]->(vR nl p.right = true->aV nl k = true)->ax ((j:Int) + 1)/\(∃ (j' : Nat) (nl:List Bool) (vs:List (List Bool)),(j:Int) + 1 = j'/\j'<=x.pl/\0<=n4 + ((bg W : Int) - bg v)/\n4 + ((bg W : Int) - bg v) + nm nl vs = nm a1 a0/\E_ g nl vs/\(n4 + ((bg W : Int) - bg v) = 0->∀ p∈g.prods.take j',Tw nl vs p)/\St w' [aH G (FC x k14 (g.T + g.N) o (g.T + g.N) c),aH k14 (bv nl),own 1 o (g.T + g.N) c (pv (ps.map bk)),aC (jL ps vs),has H])/\x.pl - ((j:Int) + 1).toNat < x.pl - (j:Int).toNat:=λ{w'} h ac=>by
  refine ⟨⟨ω,ω⟩,⟨j + 1,nl,vs.set k W,σ,ω,ω,ω,am,aT ac,h.pick 6 [2,3,4,0,5]⟩,bn u⟩
 refine ⟨λw=>sub (hp bb) (hp w),sub.refl _,ae (λh1=>?_) λh1=>a8 h λX=>by rw [h1] at X; cases X⟩;refine ⟨_,_,_,λw s=>(ah (b:=G) (vs:=FC x k14 (g.T + g.N) o (g.T + g.N) c) 2 h.l).cell s (j:=5) rfl,_,λw s=>(ah (b:=a3) (vs:=[.int .i64 (k:Int),.slice a l c3,.int .i64 p.level]) 1 h.l).cell0 s,?_⟩;have rn:bh (hp bb) nl (some ⟨k14,0,none⟩) (g.T + g.N):=mf mk.ln (.inr ⟨_,rfl,ah 3 h.l⟩);obtain ⟨z,d0,cc,ch,be⟩:=rn.cY R;have bc:aV nl k = z:=by unfold aV; rw [YX,cc]; rfl
 cases ch;refine aw rfl R ⟨z,λw s=>be _ s,ae (λX=>?_) λX=>a8 h λ_=>by rw [bc]; simpa using X⟩;have X:z = false:=by simpa using X
 subst X;intro bA hd;have h:=h.drawn hd;refine ⟨λw=>sub (hp bA) (hp w),sub.refl _,_,_,_,λw s=>(ah (b:=G) (vs:=FC x k14 (g.T + g.N) o (g.T + g.N) c) 2 h.l).cell s (j:=5) rfl,_,λw s=>(ah (b:=a3) (vs:=[.int .i64 (k:Int),.slice a l c3,.int .i64 p.level]) 1 h.l).cell0 s,?_⟩;refine aw rfl R ?_;rw [aK];refine bj (h.pick 6 [3,0,2,4,5]) (by simp [bv,mk.ln]; exact R) λdc h=>?_;have eb:(bv nl).set k (.bool true) = bv (nl.set k true):=by unfold bv; rw [ZM]
 rw [eb] at h;have ho:=MP (nl:=nl) (k:=k) (by rw [mk.ln]; exact R) bc;have ba:=am.X2 iG a4 ((mk.row aa).1 h1);rw [ab] at ba;have cy:nm (nl.set k true) (vs.set k W) + 1 = nm nl (vs.set k W):=by unfold nm; omega
 exact ⟨⟨ω,ω⟩,⟨ω,ω⟩,⟨j + 1,nl.set k true,vs.set k W,σ,ω,ω,ω,ba,λh0=>ω,h.pick 5 [2,0,3,1,4]⟩,bn u⟩
end
def j6 (g:af) (nn:List Bool):Prop:=nn.length = g.N/\∀ i:Nat,aV nn i = true↔BZ g ((g.T + i:Nat):Int)
def YF (g:af) (row:List Int) (bs:List Bool):Prop:=bs.length = g.T/\∀ t,aV bs t = true↔sW g row t
def X4 (g:af) (row:List Int):Prop:=∀ s∈row,0<=s/\s < (g.T:Int) + g.N
theorem N9 (l:List Bool) (k i:Nat):aV (l.drop k) i = aV l (k + i):=by
 unfold aV; rw [YX,YX,Zv]
theorem j6.inj {g:af} {bs cs:List Bool} (h:j6 g bs) (k:j6 g cs):bs = cs :=
 ij (h.1.trans k.1.symm) λi=>by rw [ZI,h.2,k.2]
section
variable {w:aa4} {L:List az} {g:af} {x:GA}
theorem Qt (hg:gR (hp w) g x) (hb:jd g):ρ DW [.agg ⟨x.cells⟩] w λv w'=>(∃ r:Bool,v = .bool r/\(r = true↔im g))/\Gr w w':=by
 refine An ?_;refine cG hg λX V gw hg B=>?_;refine ⟨_,_,_,_,_,_,_,_,_,_,_,_,_,B.row (sub.refl _),(SU (x:=x) hg hb).mono ?_⟩;rintro _ Y ⟨⟨W,rfl,R⟩,u⟩;unfold im;rw [<- R];refine ⟨_,rfl,ae (λz=>⟨⟨true,rfl,by simp [z]⟩,gw.trans u⟩) λz=>⟨_,_,_,_,_,_,_,_,_,_,_,_,_,B.row u,(yK (x:=x) (hg.mono u) hb).mono ?_⟩⟩;rintro _ Z ⟨⟨U,rfl,O⟩,G⟩;rw [<- O];exact ⟨_,rfl,⟨U,rfl,by simp [z]⟩,gw.trans (u.trans G)⟩
theorem Lo (hg:gR (hp w) g x) (hb:jd g) (ht:gA (hp w)):ρ pV [.agg ⟨x.cells⟩] w λv w' =>
  (¬ im g/\v = .tuple #[.slice none 0 0,.int .i64 1]/\Gr w w') \/
  (im g/\∃ (k:Nat) (nl nn:List Bool),nl.length = g.T/\j6 g nn/\v = .tuple #[.slice (some ⟨k,g.T,none⟩) g.N g.N,.int .i64 0]/\St w' (aH k (bv (nl ++ nn)) :: all w)):=by
 refine xx ?_;refine cG hg λk1 W gw hg B=>?_;refine ⟨_,_,_,_,_,_,_,_,_,_,_,_,_,B.row (sub.refl _),(Qt (x:=x) hg hb).mono ?_⟩;rintro _ w2 ⟨⟨r,rfl,e⟩,V⟩
 refine ⟨_,rfl,ae (λO=>.inl ⟨λG=>?_,rfl,gw.trans V⟩) λO=>λR X=>?_⟩
 ·rw [e.2 G] at O; cases O
 have G:=e.1 (by simpa using O);have z:Gr W R:=V.trans (Gr.drawn X);obtain ⟨iG,bT,bN,pN,pT,bP⟩:=Tz G;have tl:g.T = x.tl:=hg.t.1;refine ⟨λw=>Gr R w,Gr.refl _,_,_,_,_,_,_,_,_,_,_,_,_,_,λw s=>B.row (z.trans s),_,_,_,λw s=>B.c0 (z.trans s),(X3 (x:=x) (hg.mono z) hb G (fo.mono (gw.trans z) ht)).mono ?_⟩;rintro _ U ⟨b,u,o,c,nl,ps,vs,rfl,al,Z,h⟩;have hs:sub (hp R) (hp U):=aR 4 h.l;have Y:au (hp U) ⟨b,0,none⟩ (FC x u (g.T + g.N) o ps.length c):=ah 0 h.l
 refine ⟨_,rfl,λw=>sub (hp U) (hp w),sub.refl _,λw s=>sub.trans hs s,_,_,_,λw s=>Y.cell s (j:=5) rfl,ct (lo:=x.tl) ω (Zc _) (.inr ⟨G,u,nl.take g.T,nl.drop g.T,by rw [Zj,al.ln]; omega,⟨by rw [Z9,al.ln]; omega,λi=>?_⟩,?_,?_⟩)⟩
 ·rw [N9]; exact al.nn _
 ·rw [<- tl,show g.T + g.N - g.T = g.N from ω]
  have e:fT (some ⟨u,0,none⟩) g.T (g.T + g.N) 1 = some ⟨u,g.T,none⟩:=by
   unfold fT;rw [YZ ω,ZY,show cE g.T 1 = g.T from by rw [aN,Z4],aK]
  rw [e]
 ·rw [Zk];exact St.on (N:=[_]) (h0:=hp R) (h.pick 5 [1,4]) (bH (gw.trans z))
end
def cq (n:Nat) (f:Nat->Bool):List Int:=((List.range n).filter f).map Int.ofNat
def jH (l:List Int):Prop:=l.Pairwise (· < ·)
theorem zb:∀ {l m:List Int},jH l->jH m->(∀ z,z∈l↔z∈m)->l = m
 | [],[],_,_,_=>rfl
 | [],b :: m,_,_,h=>absurd ((h b).2 σ) σ
 | a :: l,[],_,_,h=>absurd ((h a).1 σ) σ
 | a :: l,b :: m,hl,hm,h=>by
  obtain ⟨l1,l2⟩:=ZU.1 hl
  obtain ⟨m1,m2⟩:=ZU.1 hm
  have e:a = b:=by
   rcases Ze.1 ((h a).1 σ) with e | ha
   ·exact e
   ·rcases Ze.1 ((h b).2 σ) with e | hb
    ·exact e.symm
    ·have:=m1 a ha; have:=l1 b hb; omega
  subst e
  rw [zb l2 m2 λz=>?_]
  have hz:=h z
  simp only [Ze] at hz
  constructor
  ·intro hz1
   rcases hz.1 (.inr hz1) with rfl | h2
   ·have:=l1 _ hz1; omega
   ·exact h2
  ·intro hz1
   rcases hz.2 (.inr hz1) with rfl | h2
   ·have:=m1 _ hz1; omega
   ·exact h2
theorem df {n:Nat} {f:Nat->Bool} {z:Int}:z∈cq n f↔∃ k:Nat,z = k/\k < n/\f k = true:=by
 unfold cq;rw [Zh]
 constructor
 ·rintro ⟨k,O,rfl⟩;obtain ⟨G,u⟩:=ZA.1 O;exact ⟨k,rfl,Zo.1 G,u⟩
 ·rintro ⟨k,rfl,G,u⟩;exact ⟨k,ZA.2 ⟨Zo.2 G,u⟩,rfl⟩
theorem pX (n:Nat) (f:Nat->Bool):jH (cq n f):=by
 unfold cq jH;rw [ZO];refine List.Pairwise.filter _ ?_;exact List.pairwise_lt_range.imp λh=>by show Int.ofNat _ < Int.ofNat _; simp; exact h
theorem kF (n:Nat) (f:Nat->Bool):(cq n f).length<=n:=by
 unfold cq;rw [Y3];have:=Zt f (List.range n);rwa [ZX] at this
def dd:List Int->List Int
 | []=>[]
 | [a]=>[a]
 | a :: b :: l=>if a = b then dd (b :: l) else a :: dd (b :: l)
theorem Hx:∀ (l:List Int) (z:Int),z∈dd l↔z∈l
 | [],z=>by simp [dd]
 | [a],z=>by simp [dd]
 | a :: b :: l,z=>by
  unfold dd
  split
  ·rename_i h; subst h
   rw [Hx (a :: l)]; simp
  ·rw [Ze,Hx (b :: l),Ze,Ze,Ze]
theorem Hy:∀ {l:List Int},l.Pairwise (·<=·)->jH (dd l)
 | [],_=>by simp [dd,jH]
 | [a],_=>by simp [dd,jH]
 | a :: b :: l,h=>by
  obtain ⟨h1,h2⟩:=ZU.1 h
  unfold dd
  split
  ·exact Hy h2
  ·rename_i hne
   refine ZU.2 ⟨λz hz=>?_,Hy h2⟩
   rw [Hx] at hz
   have hb:=h1 b σ
   rcases Ze.1 hz with rfl | hz
   ·omega
   ·have:=(ZU.1 h2).1 z hz
    omega
theorem Lp:∀ l:List Int,(dd l).length<=l.length
 | []=>by simp [dd]
 | [a]=>by simp [dd]
 | a :: b :: l=>by
  unfold dd
  split
  ·have:=Lp (b :: l); simp at this ⊢; omega
  ·have:=Lp (b :: l); simp at this ⊢; omega
def xB (g:af) (ss:List SQ) (t:av):Int:=if t∈bD g ss then ((bD g ss).idxOf t:Int) + 1 else 0
def VK (ss:List SQ) (k:av):Int:=if k.st < 0 then 0 else match fy ss k.st.toNat k.sym with
 | some j=>j + 1
 | none=>0
def vV (g:af) (nn:List Bool) (s:Int):Bool:=decide ((g.T:Int)<=s) && aV nn (s.toNat - g.T)
def B3 (g:af) (nn:List Bool) (row:List Int):Bool:=row.all (vV g nn)
def jr (g:af) (nn:List Bool) (ss:List SQ) (i k:Nat):Bool:=match (bD g ss)[i]?,(bD g ss)[k]? with
 | some t,some u=>decide (fy ss t.st.toNat t.sym = some u.st) && vV g nn u.sym
 | _,_=>false
def zc (g:af) (nn:List Bool) (ss:List SQ) (n i:Nat):Bool:=match (bD g ss)[i]? with
 | some t=>(List.range g.prods.length).any λm=>decide (m≠0) && match g.prods[m]? with
  | some p=>decide (p.left = t.sym) && (List.range p.right.length).any λk=>decide ((bD g ss)[n]? = some ⟨cK ss t.st (p.right.take k),p.right.getD k 0⟩) && B3 g nn (p.right.drop (k + 1))
  | none=>false
 | none=>false
def dM (g:af) (ss:List SQ) (q m i:Nat):Bool:=match (bD g ss)[i]?,g.prods[m]? with
 | some t,some p=>decide (m≠0) && decide (p.left = t.sym) && decide (cK ss t.st p.right = q)
 | _,_=>false
def sZ (g:af) (nn:List Bool) (ss:List SQ):List (List Int):=(List.range (bD g ss).length).map λi=>cq (bD g ss).length (jr g nn ss i)
def vW (g:af) (nn:List Bool) (ss:List SQ):List (List Int):=(List.range (bD g ss).length).map λn=>cq (bD g ss).length (zc g nn ss n)
structure js where
 st:Int
 prod:Int
 tr:List Int
deriving DecidableEq
instance:Inhabited js:=⟨⟨0,0,[]⟩⟩
def uH (g:af) (ss:List SQ) (q m:Nat):List js:=if cq (bD g ss).length (dM g ss q m) = [] then [] else [⟨q,m,cq (bD g ss).length (dM g ss q m)⟩]
def dH (g:af) (ss:List SQ) (q j:Nat):List js:=(List.range j).flatMap (uH g ss q)
def qQ (g:af) (ss:List SQ):List js:=(List.range ss.length).flatMap λq=>dH g ss q g.prods.length
theorem xC (g:af) (ss:List SQ) (q j:Nat):dH g ss q (j + 1) = dH g ss q j ++ uH g ss q j:=by unfold dH; rw [Z1,ZB]; simp
def EI (g:af) (j:Nat) (s:Int):List Nat:=(OO g j s).filter λi=>decide (0 < i)
theorem D3 {g:af} {j:Nat} {p:aP} (h:g.prods[j]? = some p) (s:Int):EI g (j + 1) s = EI g j s ++ if s = p.left/\0 < j then [j] else []:=by
 unfold EI;rw [ur h,Zs];congr 1;by_cases e:s = p.left <;> by_cases u:0 < j <;> simp [e,u]
theorem Cy (g:af) (j:Nat) (s:Int):(EI g j s).length<=j:=Zq (Zt _ _) (Hk g j s)
theorem jt {g:af} {s:Int} {i:Nat}:i∈EI g g.prods.length s↔0 < i/\∃ p,g.prods[i]? = some p/\p.left = s:=by
 unfold EI;rw [ZA,show OO g g.prods.length s = DI g s from rfl,qC,Y7,and_comm]
section
variable {g:af} {ss:List SQ}
theorem Lr (hA:bw g ss):∀ n:Nat,(vk g ss n).Nodup
 | 0=>by simp [vk]
 | n + 1=>by
  cases hq:ss[n]? with
  | none=>simp only [vk,hq,Zm]; exact Lr hA n
  | some q =>
   rw [pQ hq,ZE]
   refine ⟨Lr hA n,?_,λx hx y hy e=>?_⟩
   ·unfold fO
    have h1:=Ai hA hq
    have h2:((q.2.2.filter λe=>decide ((g.T:Int)<=e.sym)).map (·.sym)).Nodup:=h1.sublist (List.Sublist.map _ List.filter_sublist)
    rw [ZH,ZO] at h2 ⊢
    exact h2.imp λh e=>h (congrArg av.sym e)
   ·subst e
    obtain ⟨i,_,_,e,hi,_,_,_,rfl⟩:=jq hx
    unfold fO at hy
    obtain ⟨e',_,h2⟩:=Zh.1 hy
    have:=congrArg av.st h2
    simp at this; omega
theorem Qu (hA:bw g ss):(bD g ss).Nodup:=Lr hA _
theorem Qv {α : Type} [DecidableEq α] {l:List α} (h:l.Nodup) {i:Nat} {x:α} (hx:l[i]? = some x):l.idxOf x = i:=by
 obtain ⟨u,rfl⟩:=YT.1 hx;exact h.idxOf_getElem i u
theorem Cz (hA:bw g ss) {i:Nat} {t:av} (h:(bD g ss)[i]? = some t):xB g ss t = (i:Int) + 1:=by
 unfold xB;rw [Y5 (YV h),Qv (Qu hA) h]
theorem zd (hA:bw g ss) {t:av} (h:0 < xB g ss t):∃ i:Nat,xB g ss t = (i:Int) + 1/\(bD g ss)[i]? = some t:=by
 unfold xB at h ⊢
 by_cases ht:t∈bD g ss
 ·rw [Y5 ht];refine ⟨_,rfl,?_⟩;rw [YU (aaN ht),List.getElem_idxOf]
 ·rw [YZ ht] at h; omega
end
abbrev ze:FuncId:=58
def vX:bm:={ rngs:=[],loops:=[(6,[(31,(.one (.int .i64)))]),(9,[(44,(.one (.int .i64)))]),(18,[(13,(.one .slice)),(77,(.one (.int .i64)))]),(21,[(13,(.one .slice)),(83,(.one (.int .i64)))])],joins:=[],blocks:=[] }
section
variable {a b c d:aa3} {i j k l m n o p:Nat} {A B:Int} {w:aa4} {R:Value->WP}
theorem vY (h:new w (ψ a i j b k l c m n A d o p) λa b=>χ b (aM a) λc=>rE 104 [c] b λb c=>∃ d e,b = vU [vP d,iI e]/\br (e != 0) (R (vU [vS none 0 0,iI e]) c) (new c (Obj.map (Array.mk []) 0) λb c=>nn d λe=>∃ f g h,cL c (Addr.add e 8) (vS f g h)/\τ [(31,aB)] λe h=>e 0 c/\∀ (_:ν) c i,e c i->br (decide (c < (g:Int))) (idx f g c 2 λf=>∃ g j,rA i f 2 [iI g,iI j]/\new i (oC [iI 0,iI 0] 184) λf k=>da k (aM f) [iI g,iI j] λg=>∀ j,drawn g j->∃ (g:WP),g j/\nn d λk=>∃ l,(∀ a,g a->cL a (Addr.add k 12) (Value.map l))/\∃ k,(∀ a,g a->cL a (Addr.add (aM f) 1) (iI k))/\bf Proofs.Tryz.prog (Instr.lookup 160 (Value.map l) (iI k) false) j λj k=>∃ l m n,j = vS l m n/\g k/\τ [(44,aB)] λg j=>g 0 k/\∀ (_:ν) k n,g k n->br (decide (k < (m:Int))) (idx l m k 1 λe=>∃ h,cL n e (iI h)/\∀ e,drawn n e->∃ (i:WP),i e/\∃ l,(∀ a,i a->cL a (aM f) (iI l))/\∃ f m o,(∀ b,i b->cL b (Addr.add (aM a) 4) (vS f m o))/\idx f m h 3 λa=>∃ f m o,(∀ b,i b->cL b (Addr.add a 1) (vS f m o))/\rE 105 [vP d,iI l,vS f m o,Value.func (Fn.func 106) (Array.mk []) (Array.mk [])] e λa d=>∃ e,a = iI e/\i d/\new d (oC [iI 0,iI 0] 184) λa d=>da d (aM a) [iI e,iI h] λd=>∃ e f,rA d (aM a) 2 [iI e,iI f]/\new d (oC [iI c] 3) λa c=>bf Proofs.Tryz.prog (Instr.mapEntry 178 (Value.map (some b)) (vG [iI e,iI f])) c λc d=>∃ e f h i,c = vU [vS e f h,iI i]/\rS (fe 24 (Array.mk [vS e f h,vS (some (aM a)) 1 1])) d λa c=>∃ d e f,a = vS d e f/\bf Proofs.Tryz.prog (Instr.entryStore 178 (Value.map (some b)) (iI i) (vS d e f)) c λ(_:Unit) (a:aa4)=>ax (k + 1)/\g (k + 1) a/\j (k + 1) a < j k n) (ax (c + 1)/\e (c + 1) n/\h (c + 1) n < h c i)) (nn d λc=>∃ d e f,cL i (Addr.add c 5) (vS d e f)/\τ [(13,fD),(77,aB)] λc d=>c none 0 0 0 i/\∀ (_:ν) f g h i j,c f g h i j->br (decide (i < (e:Int))) (∃ e k l,cL j (Addr.add (aM a) 4) (vS e k l)/\τ [(13,fD),(83,aB)] λa e=>a f g h 0 j/\∀ (_:ν) l m n o p,a l m n o p->br (decide (o < (k:Int))) (bf Proofs.Tryz.prog (Instr.lookup 178 (Value.map (some b)) (vG [iI i,iI o]) false) p λb c=>∃ d f g,b = vS d f g/\br (decide (0 < (f:Int))) (rE 107 [vS d f g] c λb c=>∃ d f g,b = vS d f g/\new c (oC [iI i,iI o,vS d f g] 117) λb c=>rS (fe 113 (Array.mk [vS l m n,vS (some (aM b)) 1 1])) c λb c=>∃ d f g,b = vS d f g/\ax (o + 1)/\a d f g (o + 1) c/\e d f g (o + 1) c < e l m n o p) (ax (o + 1)/\a l m n (o + 1) c/\e l m n (o + 1) c < e l m n o p)) (ax (i + 1)/\c l m n (i + 1) p/\d l m n (i + 1) p < d f g h i j)) (rE 108 [vS f g h] j λa b=>∃ c d e,a = vS c d e/\R (vU [vS c d e,iI 0]) b)))):ρ 58 [φ a i j b k l c m n A d o p] w R:=rv Tryz.func58 vX (by kernel_rfl) h
abbrev JG:FuncId:=104
def Fa:bm:={ rngs:=[],loops:=[(8,[(51,(.one (.int .i64)))]),(13,[(67,(.one (.int .i64)))]),(16,[(75,(.one (.int .i64)))]),(22,[(95,(.one (.int .i64)))])],joins:=[],blocks:=[] }
theorem Fb (h:new w (ψ a i j b k l c m n A d o p) λa b=>χ b (aM a) λc=>rE 26 [c] b λb c=>∃ d e f g h i,b = vU [vG [vS d e f,iI g,iI h],iI i]/\new c (oC [vS none 0 0,iI 0,iI 0] 45) λb c=>da c (aM b) [vS d e f,iI g,iI h] λc=>br (i != 0) (R (vU [vP none,iI i]) c) (∃ d e f g h i j k l m n o p,rA c (aM a) 5 [vS d e f,vS g h i,vS j k l,iI m,vS n o p]/\∃ q r s t u,rA c (aM b) 3 [vS q r s,iI t,iI u]/\new c (Obj.map (Array.mk []) 0) λc v=>new v (Obj.map (Array.mk []) 0) λv w=>new w (Obj.map (Array.mk []) 0) λw x=>new x (oC [vS d e f,vS g h i,vS j k l,iI m,vS n o p,vS q r s,iI t,iI u,vS none 0 0,Value.map (some c),Value.map (some v),vS none 0 0,Value.map (some w)] 182) λc d=>χ d (aM a) λe=>rE 163 [e] d λd e=>∃ f g h i,d = vU [vS f g h,iI i]/\st1 e (Addr.add (aM c) 8) (vS f g h) λd=>χ d (aM a) λe=>rE 164 [e] d λd e=>∃ f g h i,d = vU [vS f g h,iI i]/\st1 e (Addr.add (aM c) 11) (vS f g h) λd=>∃ e f g,cL d (Addr.add (aM c) 8) (vS e f g)/\τ [(51,aB)] λg h=>g 0 d/\∀ (_:ν) d i,g d i->br (decide (d < (f:Int))) (idx e f d 2 λa=>∃ b e,rA i a 2 [iI b,iI e]/\new i (oC [iI 0,iI 0] 184) λa f=>da f (aM a) [iI b,iI e] λb=>∀ e,drawn b e->∃ (b:WP),b e/\∃ f,(∀ a,b a->cL a (Addr.add (aM c) 9) (Value.map f))/\∃ c j,(∀ d,b d->rA d (aM a) 2 [iI c,iI j])/\ax (d + 1)/\bf Proofs.Tryz.prog (Instr.mapUpdate 180 (Value.map f) (vG [iI c,iI j]) (iI (d + 1))) e λ(_:Unit) (a:aa4)=>ax (d + 1)/\g (d + 1) a/\h (d + 1) a < h d i) (∃ d e f,cL i (aM b) (vS d e f)/\τ [(67,aB)] λb f=>b 0 i/\∀ (_:ν) g h,b g h->br (decide (g < (e:Int))) (idx d e g 2 λa=>∃ d e i j k l,rA h a 2 [vS d e i,vS j k l]/\new h (oC [vS none 0 0,vS none 0 0] 54) λa m=>da m (aM a) [vS d e i,vS j k l] λd=>∃ e i j,cL d (Addr.add (aM a) 1) (vS e i j)/\τ [(75,aB)] λa j=>a 0 d/\∀ (_:ν) d k,a d k->br (decide (d < (i:Int))) (idx e i d 2 λb=>∃ e f,rA k b 2 [iI e,iI f]/\new k (oC [iI 0,iI 0] 56) λb h=>da h (aM b) [iI e,iI f] λe=>∀ f,drawn e f->∃ (e:WP),e f/\∃ h,(∀ a,e a->cL a (Addr.add (aM c) 10) (Value.map h))/\∃ c,(∀ a,e a->cL a (aM b) (iI c))/\∃ i,(∀ a,e a->cL a (Addr.add (aM b) 1) (iI i))/\ax (i + 1)/\bf Proofs.Tryz.prog (Instr.mapUpdate 180 (Value.map h) (vG [iI g,iI c]) (iI (i + 1))) f λ(_:Unit) (b:aa4)=>ax (d + 1)/\a (d + 1) b/\j (d + 1) b < j d k) (ax (g + 1)/\b (g + 1) k/\f (g + 1) k < f g h)) (∃ b d e,cL h (Addr.add (aM a) 4) (vS b d e)/\τ [(95,aB)] λa e=>a 0 h/\∀ (_:ν) f g,a f g->br (decide (f < (d:Int))) (idx b d f 3 λb=>∃ d h i j k,rA g b 3 [iI d,vS h i j,iI k]/\new g (oC [iI 0,vS none 0 0,iI 0] 81) λb l=>da l (aM b) [iI d,vS h i j,iI k] λd=>br (decide (0 < f)) (∀ h,drawn d h->∃ (d:WP),d h/\∃ i,(∀ a,d a->cL a (Addr.add (aM c) 12) (Value.map i))/\∃ j,(∀ a,d a->cL a (aM b) (iI j))/\∃ k,(∀ a,d a->cL a (Addr.add (aM c) 12) (Value.map k))/\∃ c,(∀ a,d a->cL a (aM b) (iI c))/\(bf Proofs.Tryz.prog (Instr.lookup 160 (Value.map k) (iI c) false) h λb c=>∃ h k l,b = vS h k l/\d c/\new c (oC [iI f] 3) λb c=>d c/\rS (fe 24 (Array.mk [vS h k l,vS (some (aM b)) 1 1])) c λb c=>∃ h k l,b = vS h k l/\d c/\bf Proofs.Tryz.prog (Instr.mapUpdate 160 (Value.map i) (iI j) (vS h k l)) c λ(_:Unit) (b:aa4)=>ax (f + 1)/\a (f + 1) b/\e (f + 1) b < e f g)/\new h (oC [iI f] 3) λb h=>d h/\bf Proofs.Tryz.prog (Instr.lookup 160 (Value.map k) (iI c) false) h λc h=>∃ k l m,c = vS k l m/\d h/\rS (fe 24 (Array.mk [vS k l m,vS (some (aM b)) 1 1])) h λb c=>∃ h k l,b = vS h k l/\d c/\bf Proofs.Tryz.prog (Instr.mapUpdate 160 (Value.map i) (iI j) (vS h k l)) c λ(_:Unit) (b:aa4)=>ax (f + 1)/\a (f + 1) b/\e (f + 1) b < e f g) (ax (f + 1)/\a (f + 1) d/\e (f + 1) d < e f g)) (R (vU [vP (some (aM c)),iI 0]) g))))):ρ 104 [φ a i j b k l c m n A d o p] w R:=rv Tryz.func104 Fa (by kernel_rfl) h
abbrev uI:FuncId:=105
def qR:bm:={ rngs:=[],loops:=[(2,[(1,(.one (.int .i64))),(13,(.one (.int .i64)))])],joins:=[],blocks:=[] }
theorem qS {f:FuncId} {g:List Value} (h:τ [(1,aB),(13,aB)] λc d=>c A 0 w/\∀ (_:ν) e h j,c e h j->br (decide (h < (i:Int))) (idx b i h 1 λb=>∃ i,cL j b (iI i)/\yc (Proofs.YtndaepmjkbmjmaaGreatDoor.Fn f) (rE f (iI e :: iI h :: g) j λb f=>b = vU []/\nn a λa=>∃ b,cL f (Addr.add a 10) (Value.map b)/\bf Proofs.Tryz.prog (Instr.lookup 180 (Value.map b) (vG [iI e,iI i]) false) f λa b=>∃ f,a = iI f/\ax (f - 1)/\ax (h + 1)/\c (f - 1) (h + 1) b/\d (f - 1) (h + 1) b < d e h j)) (R (iI e) j)):ρ 105 [(.pointer a),(.int .i64 A),(.slice b i j),(.func (.func f) #[] ⟨g⟩)] w R:=rv Tryz.func105 qR (by kernel_rfl) h
def qT:bm:={ rngs:=[],loops:=[],joins:=[],blocks:=[] }
theorem qU (h:R (vU []) w):ρ 106 [(.int .i64 A),(.int .i64 B)] w R:=rv Tryz.func106 qT (by kernel_rfl) h
abbrev mB:FuncId:=159
def As:bm:={ rngs:=[],loops:=[],joins:=[],blocks:=[] }
theorem Au (h:new w (ψ a i j b k l c m n A d o p) λa b=>χ b (aM a) λc=>rE 104 [c] b λb c=>∃ d e,b = vU [vP d,iI e]/\new c (oC [vP none] 175) λb c=>st1 c (aM b) (vP d) λc=>br (e != 0) (R (vU [vS none 0 0,iI e]) c) (∃ d,cL c (aM b) (vP d)/\rE 203 [vP d,Value.func (Fn.func 204) (Array.mk []) (Array.mk [vP (some (aM b)),vP (some (aM a))])] c λa b=>∃ c d e,a = vS c d e/\R (vU [vS c d e,iI 0]) b)):ρ 159 [φ a i j b k l c m n A d o p] w R:=rv Tryz.func159 As (by kernel_rfl) h
abbrev ju:FuncId:=161
def vZ:bm:={ rngs:=[],loops:=[],joins:=[],blocks:=[] }
theorem v_ (h:new w (ψ a i j b k l c m n A d o p) λa b=>χ b (aM a) λc=>rE 104 [c] b λb c=>∃ d e,b = vU [vP d,iI e]/\new c (oC [vP none] 175) λb c=>st1 c (aM b) (vP d) λc=>br (e != 0) (R (vU [vS none 0 0,iI e]) c) (∃ d,cL c (aM b) (vP d)/\rE 203 [vP d,Value.func (Fn.func 205) (Array.mk []) (Array.mk [vP (some (aM b)),vP (some (aM a))])] c λa b=>∃ c d e,a = vS c d e/\R (vU [vS c d e,iI 0]) b)):ρ 161 [φ a i j b k l c m n A d o p] w R:=rv Tryz.func161 vZ (by kernel_rfl) h
abbrev wb:FuncId:=203
def s8:bm:={ rngs:=[],loops:=[(4,[(18,(.one (.int .i64)))])],joins:=[],blocks:=[] }
theorem s_ {b:FuncId} {c:List Value} (h:nn a λa=>∃ d e f,cL w (Addr.add a 8) (vS d e f)/\tE (e:Int) (e:Int) 24/\new w (Obj.cells (Array.mk (ir (Int.toNat (e:Int)) [vS none 0 0])) 24) λa d=>new d (oC [vS none 0 0] 71) λd f=>st1 f (aM d) (vS (some (aM a)) (Int.toNat (e:Int)) (Int.toNat (e:Int))) λa=>yc (Proofs.YtndaepmjkbmjmaaGreatDoor.Fn b) (rE b (Value.func (Fn.func 239) (Array.mk []) (Array.mk [vP (some (aM d))]) :: c) a λa b=>a = vU []/\∃ a c e,cL b (aM d) (vS a c e)/\τ [(18,aB)] λa e=>a 0 b/\∀ (_:ν) b f,a b f->br (decide (b < (c:Int))) (∃ c g h,cL f (aM d) (vS c g h)/\idx c g b 1 λc=>∃ g h i,cL f c (vS g h i)/\rE 53 [vS g h i] f λc g=>c = vU []/\∀ c,drawn g c->∃ (g:WP),g c/\∃ h i j,(∀ a,g a->cL a (aM d) (vS h i j))/\∃ j k l,(∀ a,g a->cL a (aM d) (vS j k l))/\idx j k b 1 λd=>∃ j k l,(∀ a,g a->cL a d (vS j k l))/\rE 240 [vS j k l] c λc d=>∃ j k l,c = vS j k l/\g d/\rE 107 [vS j k l] d λc d=>∃ j k l,c = vS j k l/\g d/\idx h i b 1 λc=>st1 d c (vS j k l) λc=>ax (b + 1)/\a (b + 1) c/\e (b + 1) c < e b f) (∃ a b c,cL f (aM d) (vS a b c)/\R (vS a b c) f))):ρ 203 [(.pointer a),(.func (.func b) #[] ⟨c⟩)] w R:=rv Tryz.func203 s8 (by kernel_rfl) h
abbrev zf:FuncId:=204
def we:bm:={ rngs:=[],loops:=[(1,[(14,(.one (.int .i64)))]),(5,[(36,(.one (.int .i64)))])],joins:=[],blocks:=[] }
theorem wg {a:FuncId} {b:List Value} {c:Addr} {d:Addr} (h:∃ e,cL w c (vP e)/\nn e λe=>∃ f g h,cL w (Addr.add e 8) (vS f g h)/\τ [(14,aB)] λe h=>e 0 w/\∀ (_:ν) i j,e i j->br (decide (i < (g:Int))) (idx f g i 2 λf=>∃ g k,rA j f 2 [iI g,iI k]/\new j (oC [iI 0,iI 0] 184) λf l=>da l (aM f) [iI g,iI k] λg=>∀ k,drawn g k->∃ (g:WP),g k/\∃ l,(∀ a,g a->cL a c (vP l))/\nn l λl=>∃ m,(∀ a,g a->cL a (Addr.add l 10) (Value.map m))/\∃ l n,(∀ a,g a->rA a (aM f) 2 [iI l,iI n])/\bf Proofs.Tryz.prog (Instr.lookup 180 (Value.map m) (vG [iI l,iI n]) false) k λf k=>∃ l,f = iI l/\g k/\ax (l - 1)/\∃ f,cL k c (vP f)/\nn f λf=>∃ g m n,cL k (Addr.add f 5) (vS g m n)/\idx g m (l - 1) 2 λf=>∃ g m n,cL k (Addr.add f 1) (vS g m n)/\τ [(36,aB)] λf n=>f 0 k/\∀ (_:ν) k o,f k o->br (decide (k < (m:Int))) (idx g m k 2 λe=>∃ g h,rA o e 2 [iI g,iI h]/\new o (oC [iI 0,iI 0] 56) λe j=>da j (aM e) [iI g,iI h] λg=>∀ h,drawn g h->∃ (g:WP),g h/\∃ j,(∀ a,g a->cL a (aM e) (iI j))/\∃ m p q,(∀ a,g a->cL a d (vS m p q))/\br (decide ((p:Int)<=j)) (∃ j,(∀ a,g a->cL a c (vP j))/\nn j λj=>∃ m p q,(∀ a,g a->cL a (Addr.add j 11) (vS m p q))/\∃ j,(∀ a,g a->cL a (aM e) (iI j))/\∃ q r s,(∀ a,g a->cL a d (vS q r s))/\ax (j - (r:Int))/\idx m p (j - (r:Int)) 1 λd=>∃ j,(∀ a,g a->cL a d (vB j))/\br j (∀ d,drawn h d->∃ (g:WP),g d/\∃ h,(∀ a,g a->cL a c (vP h))/\nn h λc=>∃ h,(∀ a,g a->cL a (Addr.add c 9) (Value.map h))/\∃ c,(∀ a,g a->cL a (aM e) (iI c))/\bf Proofs.Tryz.prog (Instr.lookup 180 (Value.map h) (vG [iI (l - 1),iI c]) false) d λc d=>∃ e,c = iI e/\g d/\ax (e - 1)/\yc (Proofs.YtndaepmjkbmjmaaGreatDoor.Fn a) (rE a (iI i :: iI (e - 1) :: b) d λa b=>a = vU []/\ax (k + 1)/\f (k + 1) b/\n (k + 1) b < n k o)) (ax (k + 1)/\f (k + 1) h/\n (k + 1) h < n k o)) (ax (k + 1)/\f (k + 1) h/\n (k + 1) h < n k o)) (ax (i + 1)/\e (i + 1) o/\h (i + 1) o < h i j)) (R (vU []) j)):ρ 204 [(.func (.func a) #[] ⟨b⟩),(.pointer (some c)),(.pointer (some d))] w R:=rv Tryz.func204 we (by kernel_rfl) h
abbrev uJ:FuncId:=205
def qV:bm:={ rngs:=[],loops:=[(2,[(14,(.one (.int .i64)))]),(5,[(27,(.one (.int .i64)))])],joins:=[],blocks:=[] }
theorem qW {a:FuncId} {b:List Value} {c:Addr} {d:Addr} (h:new w (oC [Value.func (Fn.func a) (Array.mk []) (Array.mk b)] 186) λa b=>∃ e,cL b c (vP e)/\nn e λe=>∃ f g h,cL b (Addr.add e 8) (vS f g h)/\τ [(14,aB)] λe h=>e 0 b/\∀ (_:ν) b i,e b i->br (decide (b < (g:Int))) (idx f g b 2 λf=>∃ g j,rA i f 2 [iI g,iI j]/\new i (oC [iI 0] 3) λf k=>new k (oC [iI 0,iI 0] 184) λk l=>st1 l (aM f) (iI b) λl=>da l (aM k) [iI g,iI j] λg=>∀ j,drawn g j->∃ (g:WP),g j/\∃ l,(∀ a,g a->cL a c (vP l))/\nn l λl=>∃ m,(∀ a,g a->cL a (Addr.add l 12) (Value.map m))/\∃ l,(∀ a,g a->cL a (Addr.add (aM k) 1) (iI l))/\bf Proofs.Tryz.prog (Instr.lookup 160 (Value.map m) (iI l) false) j λj l=>∃ m n o,j = vS m n o/\g l/\τ [(27,aB)] λg j=>g 0 l/\∀ (_:ν) l o,g l o->br (decide (l < (n:Int))) (idx m n l 1 λb=>∃ e,cL o b (iI e)/\∃ b h i,cL o (Addr.add d 4) (vS b h i)/\idx b h e 3 λb=>∃ d e h,cL o (Addr.add b 1) (vS d e h)/\new o (oC [vS none 0 0] 24) λb i=>st1 i (aM b) (vS d e h) λd=>∃ e,cL d c (vP e)/\∃ h,cL d (aM k) (iI h)/\∃ i k m,cL d (aM b) (vS i k m)/\rE 105 [vP e,iI h,vS i k m,Value.func (Fn.func 206) (Array.mk []) (Array.mk [vP (some c),vP (some (aM b)),vP (some (aM a)),vP (some (aM f))])] d λa b=>∃ c,a = iI c/\ax (l + 1)/\g (l + 1) b/\j (l + 1) b < j l o) (ax (b + 1)/\e (b + 1) o/\h (b + 1) o < h b i)) (R (vU []) i)):ρ 205 [(.func (.func a) #[] ⟨b⟩),(.pointer (some c)),(.pointer (some d))] w R:=rv Tryz.func205 qV (by kernel_rfl) h
abbrev pY:FuncId:=206
def np:bm:={ rngs:=[],loops:=[],joins:=[],blocks:=[] }
theorem nq {c:Addr} {d:Addr} {e:Addr} {f:Addr} (h:∀ a,drawn w a->∃ (b:WP),b a/\∃ g,(∀ a,b a->cL a c (vP g))/\nn g λg=>∃ h,(∀ a,b a->cL a (Addr.add g 9) (Value.map h))/\∃ g i j,(∀ a,b a->cL a d (vS g i j))/\idx g i B 1 λg=>∃ i,(∀ a,b a->cL a g (iI i))/\bf Proofs.Tryz.prog (Instr.lookup 180 (Value.map h) (vG [iI A,iI i]) false) a λa g=>∃ h,a = iI h/\b g/\∀ a,drawn g a->∃ (b:WP),b a/\br (decide (0 < h)) (∃ g,(∀ a,b a->cL a c (vP g))/\∃ c i j,(∀ a,b a->cL a d (vS c i j))/\ax (B + 1)/\lR c i j (some (B + 1)) none none 1 λ(c:aa3) (d i:Nat)=>rE 207 [vP g,vS c d i] a λa c=>∃ d,a = vB d/\b c/\br d (∃ a b,cL c e (Value.func (Fn.func a) (Array.mk []) (Array.mk b))/\ax (h - 1)/\∃ d,cL c f (iI d)/\yc (Proofs.YtndaepmjkbmjmaaGreatDoor.Fn a) (rE a (iI (h - 1) :: iI d :: b) c λa b=>a = vU []/\R (vU []) b)) (R (vU []) c)) (R (vU []) a)):ρ 206 [(.int .i64 A),(.int .i64 B),(.pointer (some c)),(.pointer (some d)),(.pointer (some e)),(.pointer (some f))] w R:=rv Tryz.func206 np (by kernel_rfl) h
abbrev pZ:FuncId:=207
def nr:bm:={ rngs:=[],loops:=[],joins:=[],blocks:=[] }
theorem nu (h:new w (oC [vP a] 175) λa c=>rE 209 [vS b i j,Value.func (Fn.func 241) (Array.mk []) (Array.mk [vP (some (aM a))])] c λa b=>∃ c,a = vB c/\R (vB !c) b):ρ 207 [(.pointer a),(.slice b i j)] w R:=rv Tryz.func207 nr (by kernel_rfl) h
abbrev bx:FuncId:=239
def ox:bm:={ rngs:=[],loops:=[],joins:=[],blocks:=[] }
theorem oy {c:Addr} (h:∀ a,drawn w a->∃ (b:WP),b a/\∃ d e f,(∀ a,b a->cL a c (vS d e f))/\∃ f g h,(∀ a,b a->cL a c (vS f g h))/\idx f g A 1 λc=>∃ f g h,(∀ a,b a->cL a c (vS f g h))/\new a (oC [iI B] 3) λa c=>b c/\rS (fe 24 (Array.mk [vS f g h,vS (some (aM a)) 1 1])) c λa c=>∃ f g h,a = vS f g h/\b c/\idx d e A 1 λa=>st1 c a (vS f g h) λa=>R (vU []) a):ρ 239 [(.int .i64 A),(.int .i64 B),(.pointer (some c))] w R:=rv Tryz.func239 ox (by kernel_rfl) h
abbrev fP:FuncId:=241
def kP:bm:={ rngs:=[],loops:=[],joins:=[],blocks:=[] }
theorem kQ {b:Addr} (h:∀ a,drawn w a->∃ (c:WP),c a/\∃ d,(∀ a,c a->cL a b (vP d))/\nn d λd=>∃ e f g,(∀ a,c a->cL a d (vS e f g))/\br (decide (A < (f:Int))) (R (vB true) a) (∃ d,(∀ a,c a->cL a b (vP d))/\nn d λd=>∃ e f g,(∀ a,c a->cL a (Addr.add d 11) (vS e f g))/\∃ d,(∀ a,c a->cL a b (vP d))/\nn d λb=>∃ d g h,(∀ a,c a->cL a b (vS d g h))/\ax (A - (g:Int))/\idx e f (A - (g:Int)) 1 λb=>∃ d,(∀ a,c a->cL a b (vB d))/\R (vB !d) a)):ρ 241 [(.int .i64 A),(.pointer (some b))] w R:=rv Tryz.func241 kP (by kernel_rfl) h
end
theorem Hz:∀ (l:List Int) (a b:Int),dd (l ++ [a,b]) = if a = b then dd (l ++ [a]) else dd (l ++ [a]) ++ [b]
 | [],a,b=>by
  by_cases h:a = b
  ·subst h; simp [dd]
  ·simp [dd,h]
 | [x],a,b=>by
  have:=Hz [] a b
  simp only [Zz] at this
  by_cases h:a = b
  ·subst h; simp [dd]
  ·by_cases h2:x = a
   ·subst h2; simp [dd,h]
   ·simp [dd,h,h2]
 | x :: y :: l,a,b=>by
  have ih:=Hz (y :: l) a b
  have e1:dd (x :: y :: l ++ [a,b]) = if x = y then dd (y :: l ++ [a,b]) else x :: dd (y :: l ++ [a,b]):=rfl
  have e2:dd (x :: y :: l ++ [a]) = if x = y then dd (y :: l ++ [a]) else x :: dd (y :: l ++ [a]):=rfl
  rw [e1,e2,ih]
  by_cases h:a = b <;> by_cases h2:x = y <;> simp [h,h2]
theorem CA {xs:List Int} {m:Nat} {a b:Int} (ha:xs[m]? = some a) (hb:xs[m + 1]? = some b):dd (xs.take (m + 2)) = if a = b then dd (xs.take (m + 1)) else dd (xs.take (m + 1)) ++ [b]:=by
 have u:xs.take (m + 1) = xs.take m ++ [a]:=by rw [Y2,ha]; rfl
 have z:xs.take (m + 2) = xs.take m ++ [a,b]:=by rw [Y2,hb,u]; simp
 rw [z,u,Hz]
theorem Qw {xs:List Int} {n:Nat} (h:n<=1):dd (xs.take n) = xs.take n:=by
 match n,h with
 | 0,_=>simp [dd]
 | 1,_=>cases xs <;> simp [dd]
section
open Go.V Go.Sort Go.Shelf
variable {w:aa4} {L:List az} {a:aa3} {l c:Nat} {xs:List Int}
theorem Lt (h:St w (own 1 a l c (iv xs) :: L)) (hb:l < 4611686018427387904) :
  ρ nk [.slice a l c] w λv w'=>∃ a' c',v = .slice a' (dd xs).length c'/\St w' (own 1 a' (dd xs).length c' (iv (dd xs)) :: L):=by
 have a8:=jg h;rw [jl] at a8;have W:=dI h;have hl:xs.length = l:=ω
 refine lJ (ae (λh1=>?_) λh1=>?_)
 ·have h1:l < 2:=by have:=YR h1; omega
  have e:dd xs = xs:=by have:=Qw (xs:=xs) (n:=l) ω; rwa [Zb ω] at this
  rw [e,hl]; exact ⟨a,c,rfl,h⟩
 have h1:2<=l:=by have:=YS h1; omega
 refine ⟨λz w'=>∃ n:Nat,z = ((n + 1:Nat):Int)/\n + 1<=l/\dd (xs.take (n + 1)) = xs.take (n + 1)/\St w' (own 1 a l c (iv xs) :: L),λz _=>l - z.toNat,⟨0,rfl,ω,Qw (Zc _),h⟩,?_⟩;clear h;rintro _ z w1 ⟨n,rfl,hn,hS,h⟩;refine ae (λR=>?_) λR=>?_
 rotate_left
 ·have R:l = n + 1:=by have:=YS R; omega
  have e:dd xs = xs:=by rwa [Zb ω] at hS
  rw [e,hl]; exact ⟨a,c,rfl,h⟩
 have R:n + 1 < l:=by have:=YR R; omega
 intro w2 hd;have h:=h.eq (aE hd);have Y:bh (hp w2) xs a l:=eO hl (dJ 0 h.l);obtain ⟨x,ad,hx,rfl,cx⟩:=Y.cY R;obtain ⟨z,ac,hz,e2,cz⟩:=Y.cY (by omega:n < l);cases e2;have e1:((n + 1:Nat):Int) - 1 = (n:Int):=ω
 rw [e1];refine ⟨λu=>Gr w2 u,Gr.refl _,aw rfl R ⟨x,λu s=>cx u s,⟨ω,ω⟩,aw rfl ω ⟨z,λu s=>cz u s,ae (λG=>?_) λG=>?_⟩⟩⟩
 rotate_left
 ·have G:x≠z:=by simpa using G
  refine ⟨⟨ω,ω⟩,⟨n + 1,σ,R,?_,h⟩,bn R⟩;rw [CA hz hx,YZ (aaw G),hS,Y2 (i:=n + 1),hx]; rfl
 have G:x = z:=by simpa using G
 subst G;refine ct ω W ?_
 refine ⟨λz y w'=>∃ (k t:Nat) (us:List Int),z = (k:Int)/\y = ((t + 1:Nat):Int)/\n + 1<=k/\k<=n + 1 + t/\n + 1 + t + 1<=l/\us.length = l/\us.drop k = xs.drop k/\us.take k = dd (xs.take (n + 1 + t + 1))/\St w' (own 1 (some ad) l c (iv us) :: L),λ_ y _=>l - y.toNat,
  ⟨n + 1,0,xs,rfl,rfl,Zc _,Zc _,ω,hl,rfl,?_,h⟩,?_⟩
 ·rw [show n + 1 + 0 + 1 = n + 2 by omega,CA hz hx,Y5 rfl,hS]
 clear h Y cx cz;rintro _ _ _ w3 ⟨k,t,us,rfl,rfl,a7,ab,ht,U,V,O,h⟩;have a0:(iv us).length = l:=by rw [jl,U]
 refine ae (λG=>?_) λG=>?_
 rotate_left
 ·have G:l = n + 1 + t + 1:=by have:=YS G; omega
  rw [<- G,Zb (show xs.length<=l by omega)] at O;have a9:(dd xs).length = k:=by rw [<- O,Zj]; omega
  have hc:=FU (ty:=0) (c2:=c - k) aQ (rfl:aj Ty PJ = .slice _) (rfl:Ty dv = some _) rfl rfl (λv hv=>by rcases Ze.1 hv with rfl | hv; rfl; cases hv) (by show 0 < 1; decide) h (show k<=l by omega);refine ct ω W (hc.mono ?_);rintro _ w4 ⟨vs,hv,h⟩;refine nJ ω ?_;have h:=Co h (k:=k) ω;have e:vs.take (k * 1) = iv (dd xs):=hv.trans (by rw [<- O]; show (iv us).take (k * 1) = _; rw [Z4]; unfold iv; rw [List.map_take]);rw [a9];exact ⟨_,_,rfl,by rw [<- e]; exact h⟩
 have G:t + 1 < l - (n + 1):=by have:=YR G; omega
 intro w4 hd;have h:=h.eq (aE hd);have Y:=(eO U (dJ 0 h.l):bh (hp w4) us (some ad) l).drop (k:=n + 1) (m:=c) ω W
 have same:∀ j,k<=j->us[j]? = xs[j]?:=λj hj=>by
  have:=congrArg (λl=>l[j - k]?) V;simp only [Zv] at this;rwa [show k + (j - k) = j by omega] at this
 obtain ⟨Z,aa,a1,e3,cx⟩:=Y.cY G;obtain ⟨z2,am,a3,e4,cz⟩:=Y.cY (by omega:t < l - (n + 1));rw [e3] at e4;cases e4;rw [Zv,same _ ω] at a1 a3;have e1:((t + 1:Nat):Int) - 1 = (t:Int):=ω
 have a5:xs[n + 1 + t + 1]? = some Z:=by rw [<- a1]; congr 1
 have a4:xs[n + 1 + t]? = some z2:=by rw [<- a3]
 rw [e1];refine ⟨λu=>Gr w4 u,Gr.refl _,aw e3 G ⟨Z,λu s=>cx u s,⟨ω,ω⟩,aw e3 ω ⟨z2,λu s=>cz u s,ae (λX=>?_) λX=>?_⟩⟩⟩
 rotate_left
 ·have X:Z = z2:=by simpa using X
  subst X;refine ⟨⟨ω,ω⟩,⟨k,t + 1,us,rfl,σ,a7,ω,ω,U,V,?_,h⟩,bn ω⟩;rw [O,show n + 1 + (t + 1) + 1 = n + 1 + t + 2 by omega,CA a4 a5,Y5 rfl]
 have X:Z≠z2:=by simpa using X
 refine aw e3 G ⟨Z,cx _ (Gr.refl _),aw rfl ω ?_⟩;refine nF h rfl (by rw [a0]; omega) λw5 h=>?_;rw [Cp] at h
 refine ⟨⟨ω,ω⟩,⟨ω,ω⟩,⟨k + 1,t + 1,us.set k Z,σ,σ,ω,ω,ω,by rw [Zn,U],?_,?_,h⟩,bn ω⟩
 ·rw [List.drop_set_of_lt ω,<- List.drop_drop (i:=1),V,List.drop_drop]
 ·have a6:k < us.length:=ω
  rw [show n + 1 + (t + 1) + 1 = n + 1 + t + 2 by omega,CA a4 a5,YZ (aaw X),<- O,Y2,aap a6,List.take_set_of_le (Zc _)];rfl
end
section
open MapKept
section
variable {κ : Type} [DecidableEq κ] [MVal κ] {P:Program} {w:aa4} {L:List az} {Ty:TypeId->Option dg}
theorem vm (k:κ) (u v:Value):∀ m:List (κ × Value),bU k v (bU k u m) = bU k v m
 | []=>by simp [bU]
 | (a,x) :: m=>by
  unfold bU
  by_cases h:k = a
  ·subst h; simp [bU]
  ·have e:bU k u ((a,x) :: m) = (a,x) :: bU k u m:=by show (if k = a then _ else _) = _; rw [YZ h]
   rw [e,YZ h]
   show (if k = a then _ else (a,x) :: bU k v (bU k u m)) = _
   rw [YZ h,vm k u v m]
theorem UL {k:κ} {u:Value}:∀ {m:List (κ × Value)} {j:Nat},assoc k m = some u->(m[j]?).map (·.1) = some k->(∀ v,bU k v m = m.set j (k,v))->m[j]? = some (k,u)
 | [],j,h,_,_=>by cases h
 | (a,x) :: m,0,h,hk,hp=>by
  simp at hk; subst hk
  simp [assoc] at h; subst h
  rfl
 | (a,x) :: m,j + 1,h,hk,hp=>by
  by_cases e:k = a
  ·subst e
   have h1:=hp (.bool true)
   have h2:=hp (.bool false)
   simp [bU] at h1 h2
   have h3:=h1.1.trans h2.1.symm
   cases h3
  ·have e1:assoc k ((a,x) :: m) = assoc k m:=by show (if k = a then _ else _) = _; rw [YZ e]
   rw [e1] at h
   rw [aaL] at hk ⊢
   refine UL h hk λv=>?_
   have h1:=hp v
   simpa [bU,e] using h1
def VL (b:Nat) (m:List (κ × Value)) (k:κ) (n:Int):az:=λh=>∃ es clock i,h b = some (.map es clock)/\wL es clock m/\i < m.length/\(∀ u,bU k u m = m.set i (k,u))/\(m[i]?).map (·.1) = some k/\(es[i]?).map (λe=>(e.born:Int)) = some n
theorem HA {b:Nat} {m:List (κ × Value)} {k:κ} {n:Int}:St w (VL b m k n :: L)↔∃ es clock i,wL es clock m/\i < m.length/\(∀ u,bU k u m = m.set i (k,u))/\(m[i]?).map (·.1) = some k/\(es[i]?).map (λe=>(e.born:Int)) = some n/\St w (blk b (.map es clock) :: L) :=
 ⟨λ⟨Z,W,d,G,z,⟨es,cl,i,U,R,X,q3,V,O⟩,Y⟩=>⟨es,cl,i,R,X,q3,V,O,Z,W,d,G,z,U,Y⟩,λ⟨es,cl,i,R,X,q3,V,O,Z,W,d,G,z,U,Y⟩=>⟨Z,W,d,G,z,⟨es,cl,i,U,R,X,q3,V,O⟩,Y⟩⟩
theorem Lu {b:Nat} {es:Array MapEntry} {cl:Nat} (hg:w.heap[b]? = some (.map es cl)) (o:Array MapEntry × Nat):Ev w { w with heap:=w.heap.setIfInBounds b (.map o.1 o.2) }:=by
 refine ⟨rfl,rfl,rfl,σ,?_,?_⟩ <;>
 ·intro x d u;rw [aad]; exact u;intro e; subst e; rw [hg] at u; cases u
theorem map_take (hT:dP P Ty) {t kt et:TypeId} {i:dg} {z:Value} (hk:aj Ty t = .map kt et) (hkt:ua P kt κ) (hi:Ty et = some i) (hz:i.zero = some z) {b:Nat} {m:List (κ × Value)} (h:St w (mapA b m :: L)) (k:κ) :
  bf P (Instr.mapEntry t (.map (some b)) (MVal.val k)) w λv w'=>∃ n:Int,v = .tuple #[(assoc k m).getD z,.int .i64 n]/\St w' (VL b (bU k ((assoc k m).getD z) m) k n :: L):=by
 obtain ⟨d,hd,a4⟩:=db hT hk σ;rw [yE a4] at hd;obtain ⟨es,cl,⟨he,a0,V⟩,h⟩:=j4.1 h;obtain ⟨r,hf,q2,q3,Z⟩:=hkt.find w k es.toList m he;obtain ⟨a8,d2,ha⟩:=oV hT hi;have a7:(zeroValue et).run P w = .ok z w:=j9 ha.inf (by rw [<- ha.zero,hz]);have X:=h.get;have hc:=λe=>hkt.check w e k;have a1:es.size = m.length:=by have:=congrArg List.length he; simpa using this
 cases r with
 | none =>
  have e0:assoc k m = none:=by rw [<- q2]; rfl
  rw [e0]
  refine ⟨_,_,?_,Lu X (es.push { key:=MVal.val k,val:=z,born:=cl },cl + 1),cl,rfl,HA.2 ⟨_,_,m.length,?_,?_,?_,?_,?_,h.setObj _⟩⟩
  ·unfold Instr.mapEntry;simp only [Sem.run_bind,aZ hd,Result.andThen_ok,run_getObj_map w b es cl X,hc,hf,a7];rw [run_setObj_map _ X];rfl
  ·refine ⟨by rw [Z rfl]; simp [he],?_,?_⟩
   ·rw [Array.toList_push,Zg,ZE];refine ⟨a0,σ,λa ha b hb e=>?_⟩;obtain ⟨x,hx,rfl⟩:=Zh.1 ha;have:=V x hx;simp at hb; omega
   ·intro e R;rw [Array.toList_push,YY,Zl] at R
    rcases R with R | rfl
    ·have:=V e R; omega
    ·exact Nat.lt_succ_self _
  ·show _ < (bU k z m).length
   rw [Z rfl]; simp
  ·intro u
   show bU k u (bU k z m) = (bU k z m).set _ _
   rw [vm,Z rfl u,Z rfl z];simp
  ·show ((bU k z m)[m.length]?).map _ = _
   rw [Z rfl]; simp
  ·rw [<- a1]; simp
 | some x =>
  obtain ⟨j,u⟩:=x;obtain ⟨p2,p3,p4⟩:=q3 j u rfl;have hj:j < es.size:=ω
  have e0:assoc k m = some u:=by rw [<- q2]; rfl
  have W:m[j]? = some (k,u):=UL e0 p3 p4
  have G:bU k u m = m:=by
   rw [p4 u];exact pG W
  have Y:(es[j]?).map (λe=>(e.key,e.val)) = some (MVal.val k,u):=by
   have h1:=congrArg (λl=>l[j]?) he;simp only [YW,W,ZY] at h1;rw [<- h1]; simp
  obtain ⟨e,O,a6⟩:=aaP.1 Y;have U:e.key = MVal.val k:=congrArg Prod.fst a6;have a5:((es[j]?).map (·.key)).getD (MVal.val k) = MVal.val k:=by rw [O]; exact U
  have a3:(es.modify j λe=>{ e with key:=MVal.val k }) = es:=by
   apply Array.ext_getElem?;intro i;rw [ZW]
   split
   ·rename_i hji; subst hji;rw [O,<- U]; rfl
   ·rfl
  rw [e0]
  refine ⟨_,_,?_,Lu X (es,cl),(e.born:Int),rfl,HA.2 ⟨_,_,j,?_,?_,?_,?_,?_,h.setObj _⟩⟩
  ·unfold Instr.mapEntry;simp only [Sem.run_bind,aZ hd,Result.andThen_ok,run_getObj_map w b es cl X,hc,hf,a5,Instr.keyThatStays,hkt.bits,if_true,Sem.run_pure,a3];rw [run_setObj_map _ X];simp [O,goInt]
  ·show wL _ _ (bU k u m)
   rw [G]; exact ⟨he,a0,V⟩
  ·show _ < (bU k u m).length
   rw [G]; exact p2
  ·intro v
   show bU k v (bU k u m) = (bU k u m).set _ _
   rw [G,p4 v]
  ·show ((bU k u m)[j]?).map _ = _
   rw [G,W]; rfl
  ·rw [O]; rfl
theorem JH {t:TypeId} {b:Nat} {m:List (κ × Value)} {k:κ} {n:Int} (h:St w (VL b m k n :: L)) (x:Value) :
  bf P (Instr.entryStore t (.map (some b)) (.int .i64 n) x) w λ_ w'=>St w' (mapA b (bU k x m) :: L):=by
 obtain ⟨es,cl,i,⟨he,G,O⟩,hi,V,W,hb,h⟩:=HA.1 h;have Z:=h.get;have a1:es.size = m.length:=by have:=congrArg List.length he; simpa using this
 obtain ⟨e,z,a0⟩:=aaP.1 hb
 have U:es.findIdx? (λe=>(e.born:Int) == n) = some i:=by
  rw [Array.findIdx?_eq_some_iff_getElem]
  refine ⟨ω,?_,λj hj=>?_⟩
  ·have:=(ZG.1 z).2;rw [this,a0]; simp
  ·intro X;have X:(es[j].born:Int) = n:=by simpa using X
   have u:(es.toList.map (·.born))[j]? = some es[j].born:=by simp [show j < es.size by omega]
   have h2:(es.toList.map (·.born))[i]? = some e.born:=by rw [YW,ZD,z]; rfl
   have e3:es[j].born = e.born:=ω
   rw [e3] at u;have:=G;have h4:=(List.getElem?_inj (i:=j) (j:=i) (by simp; omega) G).1 (by rw [u,h2]);omega
 refine ⟨(),_,?_,Lu Z (es.modify i λe=>{ e with val:=x },cl),j4.2 ⟨_,_,?_,h.setObj _⟩⟩
 ·unfold Instr.entryStore;simp only [Sem.run_bind,run_getObj_map w b es cl Z,Result.andThen_ok]
  show ((asInt (.int .i64 n)).run P w).andThen _ = _
  have ha:(asInt (.int .i64 n)).run P w = .ok n w:=rfl;rw [ha,Result.andThen_ok];simp only [U];exact run_setObj_map _ Z
 ·refine ⟨?_,?_,?_⟩
  rotate_left
  ·have:(es.modify i λe=>{ e with val:=x }).toList.map (·.born) = es.toList.map (·.born):=by
    apply ZK;intro i;simp only [YW,ZD,ZW]
    split
    ·cases es[i]? <;> rfl
    ·rfl
   rw [this]; exact G
  ·intro e Y;obtain ⟨i,hi⟩:=Zr Y;rw [ZD,ZW] at hi
   split at hi
   ·cases hx:es[i]? with
    | none=>rw [hx] at hi; cases hi
    | some x=>rw [hx] at hi; cases hi; exact O x (by rw [<- ZD] at hx; exact YV hx)
   ·rw [<- ZD] at hi; exact O e (YV hi)
  rw [V x];apply ZK;intro j;have u:=congrArg (λl=>l[j]?) he;simp only [YW,ZD] at u;simp only [YW,ZD,ZW,ZN]
  by_cases R:i = j
  ·subst R;rw [z] at u ⊢;cases hmi:m[i]? with
   | none=>rw [hmi] at W; cases W
   | some y =>
    rw [hmi] at u W;simp only [ZY,Option.some.injEq,Prod.mk.injEq] at u W;simp [hi,u.1,W]
  ·simp [R,u]
end
theorem Av {bs:List Bool} {n:Nat} (h:bs.length<=n):dB bs = ((List.range n).filter λk=>aV bs k).map λ(k:Nat)=>(k:Int):=by
 unfold dB mb tZ;have e:n = bs.length + (n - bs.length):=ω
 rw [e,List.range_add,Zs]
 have:((List.range (n - bs.length)).map (bs.length + ·)).filter (λk=>aV bs k) = []:=by
  rw [aaj];intro k u;obtain ⟨j,_,rfl⟩:=Zh.1 u;rw [qy ω]; simp
 rw [this,Zm]
theorem au.part {h:Hp} {b:Nat} {vs:List Value} (r:au h ⟨b,0,none⟩ vs) (i n:Nat):au h ((⟨b,0,none⟩ : Addr).add (cE i n)) ((vs.drop (i * n)).take n):=λj v u=>by
 rw [ZT] at u
 split at u
 ·rw [Zv] at u
  rw [add_add,aN]
  exact r _ v u
 ·cases u
def xD (n:Nat) (bs cs:List Bool):List Bool:=yz n λk=>decide (k < n) && (aV bs k || aV cs k)
theorem jv (n:Nat) (bs cs:List Bool):(xD n bs cs).length = n:=mg _ _
theorem Aw {n:Nat} {bs cs:List Bool} (h1:bs.length = n) (h2:cs.length = n) (k:Nat):aV (xD n bs cs) k = true↔aV bs k = true\/aV cs k = true:=by
 unfold xD;rw [yA λk u=>by simp; omega];simp only [Zd,ZZ,Y7];exact ⟨λh=>h.2,λh=>⟨by rcases h with h | h <;> have:=Vs h <;> omega,h⟩⟩
theorem HB {ms:List Bool} {u:Nat} (h:u < ms.length):(bv ms)[u]? = some (.bool (aV ms u)):=by
 unfold bv; rw [YW,YU h,j3 (YU h)]; rfl
theorem CB {w:aa4} {k u:Nat} {ms:List Bool} (r:au (hp w) ⟨k,0,none⟩ (bv ms)) (h:u < ms.length):w.cell? ((⟨k,0,none⟩ : Addr).add u) = some (.bool (aV ms u)):=r.cell (sub.refl _) (j:=u) (HB h)
theorem HC (ms:List Bool) (u:Nat) (b:Bool):(bv ms).set u (.bool b) = bv (ms.set u b):=by simp only [bv,ZM]
theorem D4 (n:Nat):List.replicate n (Value.bool false) = bv (List.replicate n false):=by simp [bv]
def Qx (g:af) (nn:List Bool) (row:List Int):Prop:=∀ s∈row,(g.T:Int)<=s/\aV nn (s.toNat - g.T) = true
def WO (g:af) (nn:List Bool) (p:aP):Prop:=Qx g nn p.right->aV nn (p.left.toNat - g.T) = true
theorem j6.X2 {g:af} {nn:List Bool} (h:j6 g nn) (iG:Sf g) {row:List Int}:Qx g nn row↔E9 g row:=by
 refine forall_congr' λs=>imp_congr Iff.rfl ?_
 constructor
 ·rintro ⟨O,z⟩;have:=(h.2 _).1 z;rwa [show ((g.T + (s.toNat - g.T):Nat):Int) = s from ω] at this
 ·intro u;have G:=u.left iG;refine ⟨G.1,(h.2 _).2 ?_⟩;rwa [show ((g.T + (s.toNat - g.T):Nat):Int) = s from ω]
theorem VM {g:af} {nn:List Bool} (iG:Sf g) (hl:nn.length = g.N) (hs:∀ i,aV nn i = true->BZ g ((g.T + i:Nat):Int)) (hc:∀ p∈g.prods,WO g nn p):j6 g nn:=by
 refine ⟨hl,λi=>⟨hs i,λh=>?_⟩⟩
 have key:∀ s,BZ g s->aV nn (s.toNat - g.T) = true:=λs h=>by
  induction h with
  | mk p hp h1 ih=>exact hc p hp λs hs=>⟨(h1 s hs |>.left iG).1,ih s hs⟩
 have:=key _ h;rwa [show ((g.T + i:Nat):Int).toNat - g.T = i from ω] at this
end
section
variable {w:aa4} {L:List az} {g:af} {x:GA} {a an:aa3} {l c nl cn:Nat} {row:List Int} {nn:List Bool}
theorem D5 (hg:gR (hp w) g x) (hn:bh (hp w) nn an nl) (hnl:nn.length = g.N) (hr:bh (hp w) row a l) (hs:X4 g row) (hb:l<=4611686018427387904) (hT:g.T<=65) (hN:g.N<=65):ρ pP [.agg ⟨x.cells⟩,.slice an nl cn,.slice a l c] w λv w'=>(∃ r:Bool,v = .bool r/\(r = true↔Qx g nn row))/\Gr w w':=by
 refine nj ?_;refine cG hg λk1 X gw hg B=>?_;have tl:g.T = x.tl:=hg.t.1;have hn:=hn.mono gw;have hr:=hr.mono gw;have a3:=hn.1;refine ⟨λn w'=>∃ j:Nat,n = j/\j<=l/\Qx g nn (row.take j)/\Gr X w',λn _=>l - n.toNat,⟨0,rfl,ω,λs hs=>by simp at hs,Gr.refl _⟩,?_⟩;rintro _ n w2 ⟨j,rfl,hj,hv,g2⟩
 refine ae (λu=>?_) λu=>?_
 ·have u:j < l:=by have:=YR u; omega
  obtain ⟨y,ad,V,R,z⟩:=hr.cY u;have U:=YV V;have a1:=hs y U;intro w3 hd;have Y:Gr X w3:=g2.trans (Gr.drawn hd);have no:¬ ((g.T:Int)<=y/\aV nn (y.toNat - g.T) = true)->(∃ r:Bool,Value.bool false = .bool r/\(r = true↔Qx g nn row))/\Gr w w3:=λhn=>⟨⟨false,rfl,⟨λh=>absurd h (by decide),λh=>absurd (h y U) hn⟩⟩,gw.trans Y⟩
  refine ⟨λw=>Gr X w,Y,aw R u ⟨y,λw s=>z _ s,_,_,_,λw s=>B.c0 s,ae (λG=>no ?_) λG=>?_⟩⟩
  ·have G:=YR G; omega
  have G:=YS G;have W:y.toNat - g.T < nl:=ω
  obtain ⟨b,a4,O,a0,Z⟩:=hn.cY W;have eu:y - (x.tl:Int) = ((y.toNat - g.T:Nat):Int):=by rw [<- tl]; omega
  refine aw R u ⟨y,λw s=>z _ s,_,_,_,λw s=>B.c0 s,⟨ω,ω⟩,?_⟩;rw [eu]
  refine aw a0 W ⟨b,λw s=>Z _ s,ae (λh3=>no ?_) λh3=>?_⟩
  ·rw [j3 O]
   cases b
   ·simp
   ·cases h3
  ·refine ⟨⟨ω,ω⟩,⟨j + 1,σ,ω,λs hs=>?_,Y⟩,bn u⟩;rw [bI V] at hs
   rcases YY.1 hs with hs | hs
   ·exact hv s hs
   ·simp at hs; subst hs;exact ⟨ω,by rw [j3 O]; simpa using h3⟩
 ·have u:j = l:=by have:=YS u; omega
  subst u;rw [Zb (by have:=hr.1; omega)] at hv;exact ⟨⟨true,rfl,by simp [hv]⟩,gw.trans g2⟩
theorem VN (hg:gR (hp w) g x) (hb:jd g) (he:im g):ρ vM [.agg ⟨x.cells⟩] w λv w'=>∃ (k:Nat) (nn:List Bool),v = .slice (some ⟨k,0,none⟩) g.N g.N/\j6 g nn/\St w' (aH k (bv nn) :: all w):=by
 refine sU ?_;refine cG hg λk1 w1 gw hg B=>?_;obtain ⟨iG,bT,bN,pN,pT,bP⟩:=Tz he;have tl:g.T = x.tl:=hg.t.1;have nl:g.N = x.nl:=hg.n.1;have pl:=hg.p.1;have gs:sub (hp w) (hp w1):=gw;have h1:=St.all w1;unfold Proofs.YtndaepmjkbmjmaaGreatDoor.all at h1;generalize hH:hp w1 = H at *;refine ⟨_,_,_,B.c1 (aR 0 h1.l),?_⟩;rw [<- nl];refine ⟨⟨ω,rfl,ω⟩,?_⟩;rw [Za,dq,D4];refine ag h1 λk4 w2 h2=>?_;obtain ⟨Q,hQ⟩:=Cx (λ(b:Bool) (w:aa4) (m:Nat)=>∃ nn:List Bool,nn.length = g.N/\(∀ i,aV nn i = true->BZ g ((g.T + i:Nat):Int))/\m = DY nn + (if b then 1 else 0)/\(b = false->∀ p∈g.prods,WO g nn p)/\St w [aH k4 (bv nn),has H]);obtain ⟨μ,aI,b0⟩:=DZ (λ(y:Bool × aa4) m=>Q y.1 y.2 m)
 refine ⟨λb w'=>∃ m,Q b w' m,λb w=>μ (b,w),⟨DY (List.replicate g.N false) + 1,?_⟩,?_⟩
 ·rw [hQ];exact ⟨List.replicate g.N false,σ,λi h=>(by rw [lD] at h; exact absurd h (by decide)),rfl,λh=>absurd h (by decide),h2⟩
 clear h2;intro _ b w3 hP;have hP:=b0 (b,w3) hP;dsimp only at hP;generalize hμ : μ (b,w3) = μ0 at *;rw [hQ] at hP;obtain ⟨z,Z,a0,aT,a8,h⟩:=hP;refine ae (λR=>?_) λR=>?_
 rotate_left
 ·exact ⟨k4,z,rfl,VM iG Z a0 (a8 R),h.nf (bH gs)⟩
 subst R;rw [Y5 rfl] at aT;refine ⟨λb n w'=>∃ (j:Nat) (nn:List Bool),n = j/\j<=g.prods.length/\nn.length = g.N/\(∀ i,aV nn i = true->BZ g ((g.T + i:Nat):Int))/\DY nn + (if b then 1 else 0)<=DY z/\(b = false->∀ p∈g.prods.take j,WO g nn p)/\St w' [aH k4 (bv nn),has H],λ_ n _=>g.prods.length - n.toNat,⟨0,z,rfl,ω,Z,a0,σ,σ,h⟩,?_⟩;clear h a8;rintro _ b n w4 ⟨j,nn,rfl,hj,X,O,hm,hc,h⟩;refine ⟨_,_,_,B.c4 (aR 1 h.l),ae (λW=>?_) λW=>?_⟩
 rotate_left
 ·have W:j = g.prods.length:=by have:=YS W; omega
  subst W;rw [Zi] at hc
  have key:Q b w4 (DY nn + (if b then 1 else 0)):=by
   rw [hQ]; exact ⟨nn,X,O,rfl,hc,h⟩
  refine ⟨⟨_,key⟩,?_⟩;have:=aI (b,w4) _ key;dsimp only;rw [hμ];omega
 have W:j < g.prods.length:=by have:=YR W; omega
 obtain ⟨p,ad,vs,a6,aa,a9,ra,rl,rc,rfl,b2,Y⟩:=hg.p.get (i:=j) ω;have U:=YV a6;obtain ⟨b3,a7⟩:=iG p U;have b6:=hb.2.2.2.2.2.2 p U;have b5:=Y.1;have et:g.prods.take (j + 1) = g.prods.take j ++ [p]:=by rw [Y2,a6]; rfl
 intro w5 hd;have h:=h.drawn hd;have ab:p.left.toNat - g.T < g.N:=ω
 have eu:p.left - (x.tl:Int) = ((p.left.toNat - g.T:Nat):Int):=by rw [<- tl]; omega
 refine ⟨λw=>sub H (hp w),aR 1 h.l,_,_,_,λw s=>B.c4 s,aq aa ω ⟨_,λw s=>a9.cell0 s,_,_,_,λw s=>B.c0 s,⟨ω,ω⟩,?_⟩⟩;rw [eu]
 have nx:∀ {w' : aa4} {nn' : List Bool} {b' : Bool},nn'.length = g.N->(∀ i,aV nn' i = true->BZ g ((g.T + i:Nat):Int))->DY nn' + (if b' then 1 else 0)<=DY z->(b' = false->(∀ p∈g.prods.take j,WO g nn' p)/\WO g nn' p)->St w' [aH k4 (bv nn'),has H]->ax ((j:Int) + 1)/\(∃ (j' : Nat) (nn:List Bool),(j:Int) + 1 = j'/\j'<=g.prods.length/\nn.length = g.N/\(∀ i,aV nn i = true->BZ g ((g.T + i:Nat):Int))/\DY nn + (if b' then 1 else 0)<=DY z/\(b' = false->∀ p∈g.prods.take j',WO g nn p)/\St w' [aH k4 (bv nn),has H])/\g.prods.length - ((j:Int) + 1).toNat < g.prods.length - (j:Int).toNat:=λ{w' nn' b'} a1 a2 a3 a4 a5=>by
  refine ⟨⟨ω,ω⟩,⟨j + 1,nn',σ,ω,a1,a2,a3,λu q V=>?_,a5⟩,bn W⟩;rw [et] at V
  rcases YY.1 V with V | V
  ·exact (a4 u).1 q V
  ·simp at V; subst V; exact (a4 u).2
 refine aw rfl ab ⟨_,CB (ah 0 h.l) ω,ae (λh4=>nx X O hm (λu=>⟨hc u,λ_=>h4⟩) h) λh4=>?_⟩;intro w9 b1;have h:=h.drawn b1;refine ⟨λw=>sub H (hp w),aR 1 h.l,_,_,_,_,_,_,_,_,_,_,_,_,_,λw s=>B.row s,_,_,_,λw s=>B.c4 s,aq aa ω ⟨_,_,_,λw s=>a9.cell s (j:=1) rfl,?_⟩⟩;have rn:bh (hp w9) nn (some ⟨k4,0,none⟩) g.N:=mf X (.inr ⟨_,rfl,ah 0 h.l⟩);refine (D5 (x:=x) (hg.mono (aR 1 h.l)) rn X (Y.mono (aR 1 h.l)) (λs O=>⟨(a7 s O).1,(a7 s O).2⟩) ω bT bN).mono ?_;rintro _ bb ⟨⟨r,rfl,hr⟩,am⟩;have h:=h.gr am
 refine ⟨_,rfl,ae (λh5=>?_) λh5=>nx X O hm (λu=>⟨hc u,λhv=>?_⟩) h⟩
 ·have G : p.left.toNat - g.T < nn.length:=ω
  refine aw rfl ab ?_;rw [aK];refine bj h (by rw [n_]; exact G) λba h=>?_;rw [HC] at h;have b4:=MP G h4
  refine nx (by rw [Zn]; exact X) (λi hi=>?_) ?_ (λu=>absurd u (by decide)) h
  ·rw [pW G,ZZ,aaR] at hi
   rcases hi with hi | rfl
   ·exact O i hi
   ·rw [show ((g.T + (p.left.toNat - g.T):Nat):Int) = p.left from ω];refine .mk p U λs ac=>?_;obtain ⟨v1,v2⟩:=hr.1 h5 s ac;have:=O _ v2;rwa [show ((g.T + (s.toNat - g.T):Nat):Int) = s from ω] at this
  ·have:=hm;rw [Y5 rfl]
   split at this <;> omega
 ·rw [hr.2 hv] at h5; cases h5
end
def td (T:Nat) (nn:List Bool):List Bool:=List.replicate T false ++ nn
theorem JI {T:Nat} {nn:List Bool} (i:Nat):aV (td T nn) i = (decide (T<=i) && aV nn (i - T)):=by
 unfold td aV;rw [YX,YX]
 by_cases h:T<=i
 ·rw [Y_ (by simpa using h),Z7]; simp [h]
 ·rw [Y8 (by simp; omega),Z2,Y5 ω];simp [h]
def JJ (T p:Nat):Value:=.slice (some ⟨p,0,none⟩) T T
section
variable {w:aa4} {L:List az} {T ks q:Nat} {x:GA} {a an ao:aa3} {l c nl cn ol co:Nat} {row:List Int} {nn bs:List Bool} {ps:List Nat} {vs:List (List Bool)}
theorem UM (hT:T = x.tl) (h:St w (aH q (bv bs) :: L)) (hs:∀ h,aD L h->au h ⟨ks,0,none⟩ (x.cells ++ [.slice an nl cn,.slice ao ol co])) (hn:∀ h,aD L h->bh h nn an nl) (ho:∀ h,aD L h->∃ ad,ao = some ad/\au h ad (ps.map (JJ T))) (hol:ps.length = ol) (hv:vs.length = ol) (hnl:ol = T + nl)
  (hle:∀ v∈vs,v.length = T) (hbl:bs.length = T) (hq:∀ h,aD L h->∀ (i:Nat) p v,ps[i]? = some p->vs[i]? = some v->au h ⟨p,0,none⟩ (bv v)\/(p = q/\v = bs))
  (hr:∀ h,aD L h->bh h row a l) (hin:∀ s∈row,0<=s/\s.toNat < ol) (hb:l<=4611686018427387904) (hb2:ol<=4611686018427387904) :
  ρ ot [.pointer (some ⟨ks,0,none⟩),.slice a l c,.slice (some ⟨q,0,none⟩) T T] w λv w'=>v = .bool (decide (fi (td T nn) vs bs row≠bs))/\St w' (aH q (bv (fi (td T nn) vs bs row)) :: L):=by
 subst hT;obtain ⟨h0,hl,_,h1⟩:=h.freeze;have hs:=hs h0 hl;have hn:=hn h0 hl;obtain ⟨aI,rfl,bl⟩:=ho h0 hl;have hq:=hq h0 hl;have hr:=hr h0 hl;have bC:=hn.1;have bP:=hr.1;have done:∀ w' b,St w' (aH q b :: [has h0])->St w' (aH q b :: L):=λw' b h=>h.nf hl;clear h hl;have c0:∀ w',sub h0 (hp w')->w'.cell? (⟨ks,0,none⟩ : Addr) = some (.slice x.ta x.tl x.tc):=λw' s=>hs.cell0 s;have c5:∀ w',sub h0 (hp w')->w'.cell? ((⟨ks,0,none⟩ : Addr).add 5) = some (.slice an nl cn):=λw' s=>hs.cell s (j:=5) rfl;have c6:∀ w',sub h0 (hp w')->w'.cell? ((⟨ks,0,none⟩ : Addr).add 6) = some (.slice (some aI) ol co):=λw' s=>hs.cell s (j:=6) rfl;refine mr ?_;refine ⟨λb n w'=>∃ (j:Nat) (U:List Bool),n = j/\j<=l/\U.length = bs.length/\(∀ k,aV bs k = true->aV U k = true)/\(b = true↔U≠bs)/\fi (td x.tl nn) vs bs row = fi (td x.tl nn) vs U (row.drop j)/\St w' [aH q (bv U),has h0],λ_ n _=>l - n.toNat,⟨0,bs,rfl,ω,rfl,λ_ h=>h,σ,σ,h1⟩,?_⟩;clear h1;rintro _ b n w1 ⟨j,U,rfl,hj,hU,Z,aT,Y,h⟩
 have fin:∀ {w' : aa4} {V:List Bool} {b:Bool},(b = true↔V≠bs)->fi (td x.tl nn) vs bs row = V->St w' [aH q (bv V),has h0]->Value.bool b = .bool (decide (fi (td x.tl nn) vs bs row≠bs))/\St w' (aH q (bv (fi (td x.tl nn) vs bs row)) :: L):=λ{w' V b} h1 h2 h3=>by
  rw [h2];refine ⟨?_,done _ _ h3⟩;congr 1;rw [ZI,h1,Y7]
 refine ae (λG=>?_) λG=>?_
 rotate_left
 ·have G:j = l:=by have:=YS G; omega
  subst G;rw [aab ω,DX] at Y;exact fin aT Y h
 have G:j < l:=by have:=YR G; omega
 obtain ⟨y,ad,b4,a9,ab⟩:=hr.cY G;obtain ⟨y0,yl⟩:=hin y (YV b4);obtain ⟨u,rfl⟩ : ∃ u:Nat,y = u:=⟨y.toNat,ω⟩;rw [Za] at yl;obtain ⟨p,am⟩ : ∃ p,ps[u]? = some p:=⟨ps[u]'ω,YU _⟩;obtain ⟨v,ac⟩ : ∃ v,vs[u]? = some v:=⟨vs[u]'ω,YU _⟩;have bA:=hle v (YV ac);have ba:vs.getD u [] = v:=by simp [List.getD,ac]
 have b7:=hq u p v am ac
 have ed:row.drop j = (u:Int) :: row.drop (j + 1):=by
  have:=Zy (l:=row) (i:=j) (by rw [hr.1]; exact G);rw [this]; congr 1;have:=YT.1 b4; exact this.2
 rw [ed,Ap,Za,ba,JI] at Y;intro w2 hd;have h:=h.drawn hd;have cp:∀ w',sub h0 (hp w')->w'.cell? (aI.add u) = some (JJ x.tl p):=λw' s=>bl.cell s (j:=u) (by rw [YW,am]; rfl);refine ⟨λw=>sub h0 (hp w),aR 1 h.l,_,_,_,λw s=>c6 w s,aw a9 G ⟨_,λw s=>ab _ s,aw rfl ω ⟨_,_,_,λw s=>cp w s,?_⟩⟩⟩;refine ⟨λb n w'=>∃ (t:Nat) (V:List Bool),n = t/\t<=x.tl/\V.length = bs.length/\(∀ k,aV V k = (aV U k || (decide (k < t) && aV v k)))/\(b = true↔V≠bs)/\St w' [aH q (bv V),has h0],λ_ n _=>x.tl - n.toNat,⟨0,U,rfl,ω,hU,λk=>σ,aT,h⟩,?_⟩;clear h;rintro _ b n3 w6 ⟨t,V,rfl,ht,hV,a5,X,h⟩
 refine ae (λz=>?_) λz=>?_
 ·have z:t < x.tl:=by have:=YR z; omega
  have a0:t < V.length:=ω
  have nx:∀ {w' : aa4} {V' : List Bool} {b' : Bool},V'.length = bs.length->(∀ k,aV V' k = (aV U k || (decide (k < t + 1) && aV v k)))->(b' = true↔V'≠bs)->St w' [aH q (bv V'),has h0]->ax ((t:Int) + 1)/\(∃ (t' : Nat) (V:List Bool),(t:Int) + 1 = t'/\t'<=x.tl/\V.length = bs.length/\(∀ k,aV V k = (aV U k || (decide (k < t') && aV v k)))/\(b' = true↔V≠bs)/\St w' [aH q (bv V),has h0])/\x.tl - ((t:Int) + 1).toNat < x.tl - (t:Int).toNat:=λ{w' V' b'} a1 a2 a3 a4 =>
   ⟨⟨ω,ω⟩,⟨t + 1,V',σ,ω,a1,a2,a3,a4⟩,bn z⟩
  have a6:aV V t = aV U t:=by rw [a5]; simp
  have step:∀ k,k≠t->(aV U k || (decide (k < t + 1) && aV v k)) = aV V k:=λk W=>by
   rw [a5]
   by_cases h1:k < t
   ·simp [h1,show k < t + 1 by omega]
   ·simp [h1,show ¬ k < t + 1 by omega]
  obtain ⟨lt,b3,a8⟩ : ∃ lt:Bool,w6.cell? ((⟨p,0,none⟩ : Addr).add t) = some (.bool lt)/\(lt = aV v t\/(lt = aV V t/\(aV v t = true->aV V t = true))):=by
   rcases b7 with be | ⟨rfl,rfl⟩
   ·exact ⟨_,CB (be.mono (aR 1 h.l)) ω,.inl rfl⟩
   ·refine ⟨_,CB (ah 0 h.l) a0,.inr ⟨rfl,λb6=>?_⟩⟩;rw [a6]; exact Z t b6
  refine aw rfl z ⟨lt,b3,ae (λR=>?_) λR=>?_⟩
  ·refine aw rfl z ⟨_,CB (ah 0 h.l) a0,ae (λO=>?_) λO=>?_⟩
   ·have O:aV V t = false:=by simpa using O
    have bb:aV v t = true:=by
     rcases a8 with e | ⟨e,_⟩
     ·rw [<- e]; exact R
     ·rw [O] at e; rw [e] at R; cases R
    refine aw rfl z ?_;rw [aK];refine bj h (by rw [n_]; exact a0) λw7 h=>?_;rw [HC] at h
    refine nx (by rw [Zn]; exact hV) (λk=>?_) ⟨λ_ he=>?_,λ_=>rfl⟩ h
    ·rw [pW a0]
     by_cases W:k = t
     ·subst W; rw [bb]; simp
     ·rw [step k W]; simp [W]
    ·have:=a6 ▸ O;have bd:aV bs t = true:=by rw [<- he,pW a0]; simp
     rw [Z t bd] at this; cases this
   ·have O:aV V t = true:=by simpa using O
    refine nx hV (λk=>?_) X h
    by_cases W:k = t
    ·subst W; rw [O,<- a6,O]; rfl
    ·exact (step k W).symm
  ·refine nx hV (λk=>?_) X h
   by_cases W:k = t
   ·subst W
    have:aV v k = true->aV V k = true:=λa7=>by
     rcases a8 with e | ⟨_,e⟩
     ·rw [e,a7] at R; cases R
     ·exact e a7
    rw [<- a6]
    cases a7 : aV v k
    ·simp
    ·rw [this a7]; rfl
   ·exact (step k W).symm
 have z:t = x.tl:=by have:=YS z; omega
 subst z
 have eV:V = dC U (dB v):=ij (by rw [bR,hV,hU]) λk=>by
  rw [a5,eR,hU,hbl]
 have aa:∀ k,aV bs k = true->aV V k = true:=λk W=>by rw [a5,Z k W]; rfl
 rw [<- eV] at Y;intro w8 bc;have h:=h.drawn bc
 refine ⟨λw=>sub h0 (hp w),aR 1 h.l,aw a9 G ⟨_,λw s=>ab _ s,_,_,_,λw s=>c0 w s,ae (λR=>?_) λR=>?_⟩⟩
 ·have R:u < x.tl:=by have:=YR R; omega
  rw [Zu ω,Bool.false_and,YZ (by decide)] at Y;exact fin X Y h
 have R:x.tl<=u:=by have:=YS R; omega
 have b1:u - x.tl < nl:=ω
 obtain ⟨b5,bG,b2,bi,b0⟩:=hn.cY b1;have eu:(u:Int) - (x.tl:Int) = ((u - x.tl:Nat):Int):=ω
 refine ⟨_,_,_,λw s=>c5 w s,aw a9 G ⟨_,λw s=>ab _ s,_,_,_,λw s=>c0 w s,⟨ω,ω⟩,?_⟩⟩;rw [eu];rw [Zp R,aaz,j3 b2] at Y
 refine aw bi b1 ⟨b5,λw s=>b0 _ s,ae (λO=>?_) λO=>?_⟩
 ·have O:b5 = false:=by simpa using O
  rw [O,YZ (by decide)] at Y;exact fin X Y h
 ·have O:b5 = true:=by simpa using O
  rw [O,Y5 rfl] at Y;exact ⟨⟨ω,ω⟩,⟨j + 1,V,σ,ω,hV,aa,X,Y,h⟩,bn G⟩
theorem VO (hr:bh (hp w) bs a l) (hb:l<=4611686018427387904) (hb8:l * 8<=140737488355328):ρ vK [.slice a l c] w λv w'=>∃ o c',v = .slice o (bg bs) c'/\St w' (own 1 o (bg bs) c' (iv (dB bs)) :: all w):=by
 refine sM ?_;have h0:=St.all w;unfold Proofs.YtndaepmjkbmjmaaGreatDoor.all at *;have a0:=hr.1;generalize hp w = H at *;have key:∀ j,dB (bs.take j) = ((List.range j).filter λk=>aV (bs.take j) k).map λ(k:Nat)=>(k:Int):=λj=>Av (by simp; omega)
 refine ⟨λo V c' n w'=>∃ j:Nat,n = j/\j<=l/\V = bg (bs.take j)/\St w' [own 1 o V c' (iv (dB (bs.take j))),has H],λ_ _ _ n _=>l - n.toNat,⟨0,rfl,ω,by simp [bg,kZ],?_⟩,?_⟩
 ·have:dB (bs.take 0) = []:=by simp [dB,mb,tZ]
  rw [this]; exact ay 1 h0
 rintro _ o V c' n w1 ⟨j,rfl,hj,rfl,h⟩;have s1:sub H (hp w1):=aR 1 h.l;have a1:=fZ (bs.take j);refine ae (λu=>?_) λu=>?_
 rotate_left
 ·have u:j = l:=by have:=YS u; omega
  subst u;rw [Zb ω] at h ⊢;exact ⟨o,c',rfl,h⟩
 have u:j < l:=by have:=YR u; omega
 obtain ⟨b,ad,G,U,O⟩:=hr.cY u;have Y:bs.take (j + 1) = bs.take j ++ [b]:=by rw [Y2,G]; rfl
 have lt:(bs.take j).length = j:=by rw [Zj]; omega
 have W:dB (bs.take (j + 1)) = dB (bs.take j) ++ (if b then [(j:Int)] else []):=by
  rw [Av (n:=j + 1) (by simp; omega),Z1,Zs,Zg]
  have e1:((List.range j).filter λk=>aV (bs.take (j + 1)) k) = (List.range j).filter λk=>aV (bs.take j) k:=Z5 λk Z=>by
   have Z:k < j:=by simpa using Z
   unfold aV;rw [YX,YX,Y,Y8 ω]
  rw [e1,<- Av (n:=j) ω]
  have z:aV (bs.take (j + 1)) j = b:=by
   rw [Y]; exact j3 (by rw [Y_ ω,lt,Z0]; rfl)
  simp only [Z_,z,List.filter_nil];cases b <;> rfl
 have X:bg (bs.take (j + 1)) = bg (bs.take j) + (if b then 1 else 0):=by
  rw [<- qz,W,Y0,qz];cases b <;> rfl
 refine aw U u ⟨b,O _ s1,ae (λR=>?_) λR=>?_⟩
 ·subst R;refine ag h λk3 w2 h=>?_;refine (aL aQ (rfl:aj Ty _ = .slice _) (rfl:aj Ty _ = .slice _) rfl rfl rfl h rfl (by simp [aG]) (by show (_ + 1) * 8<=_; omega) ω).mono ?_;rintro _ w3 ⟨o2,c2,rfl,h⟩;refine ⟨_,_,_,rfl,⟨ω,ω⟩,⟨j + 1,σ,ω,X.symm,?_⟩,bn u⟩;have z:iv (dB (bs.take j)) ++ [Value.int .i64 (j:Int)] = iv (dB (bs.take (j + 1))):=by rw [W]; simp [iv]
  rw [z] at h;exact h.pick 3 [0,2]
 ·subst R;refine ⟨⟨ω,ω⟩,⟨j + 1,σ,ω,by rw [X]; rfl,?_⟩,bn u⟩;rw [W,YZ (by decide),Zm];exact h
end
def hZ (ps:List Nat) (vs:List (List Bool)):List az:=List.zipWith (λp v=>aH p (bv v)) ps vs
theorem X5 {L:List az} {h:Hp} {ps:List Nat} {vs:List (List Bool)} {k p:Nat} {v:List Bool} (i:Nat) (hl:aD L h) (hp:ps[k]? = some p) (hv:vs[k]? = some v) (e:qm L i = aC (hZ ps vs):=by rfl) (hi:Nat.blt i (yC L) = true:=by rfl):au h ⟨p,0,none⟩ (bv v):=by
 obtain ⟨R,s,u⟩:=dm i (by simpa [il] using hi) hl;rw [e] at u;obtain ⟨O,z,G⟩:=mh (A:=aH p (bv v)) (YV (i:=k) (by unfold hZ; rw [aau,hp,hv])) u;exact (qx G).mono (z.trans s)
theorem X6 {L:List az} {h:Hp} {ps:List Nat} {vs:List (List Bool)} {k m p:Nat} {v:List Bool} (i:Nat) (hl:aD L h) (hp:ps[k]? = some p) (hv:vs[k]? = some v) (hk:k≠m) (e:qm L i = aC ((hZ ps vs).eraseIdx m):=by rfl) (hi:Nat.blt i (yC L) = true:=by rfl):au h ⟨p,0,none⟩ (bv v):=by
 obtain ⟨R,s,u⟩:=dm i (by simpa [il] using hi) hl;rw [e] at u;obtain ⟨O,z,G⟩:=mh (A:=aH p (bv v)) (List.mem_eraseIdx_iff_getElem?.2 ⟨k,hk,by unfold hZ; rw [aau,hp,hv]⟩) u;exact (qx G).mono (z.trans s)
theorem MQ {L:List az} {h:Hp} {a:aa3} {sz l c:Nat} {vs:List Value} (i:Nat) (hl:aD L h) (e:qm L i = own sz a l c vs:=by rfl) (hi:Nat.blt i (yC L) = true:=by rfl):fo a vs h:=by
 obtain ⟨z,s,u⟩:=dm i (by simpa [il] using hi) hl;rw [e] at u;exact fo.mono s (cP u)
def jU (T i:Nat):List Bool:=if i < T then (List.replicate T false).set i true else List.replicate T false
def lj (T j:Nat):List (List Bool):=(List.range j).map (jU T)
theorem Lv (T j:Nat):lj T (j + 1) = lj T j ++ [jU T j]:=by simp [lj,Z1]
theorem F9 (T j:Nat):(lj T j).length = j:=by simp [lj]
theorem Ax (T i:Nat):(jU T i).length = T/\∀ t,aV (jU T i) t = true↔t = i/\t < T:=by
 unfold jU
 by_cases h:i < T
 ·rw [Y5 h];refine ⟨σ,λt=>?_⟩;rw [pW (by simpa using h),lD];simp; omega
 ·rw [YZ h];refine ⟨σ,λt=>?_⟩;rw [lD]; simp; omega
theorem j6.sym {g:af} {nn:List Bool} (h:j6 g nn) (iG:Sf g) (i:Nat):aV (td g.T nn) i = true↔BZ g (i:Int):=by
 rw [JI,Zd,Y7]
 constructor
 ·rintro ⟨O,z⟩;have:=(h.2 _).1 z;rwa [show ((g.T + (i - g.T):Nat):Int) = i from ω] at this
 ·intro u;have G:=u.left iG;refine ⟨ω,(h.2 _).2 ?_⟩;rwa [show ((g.T + (i - g.T):Nat):Int) = i from ω]
theorem Qy {g:af} {nn:List Bool} (iG:Sf g) (hn:j6 g nn):E_ g (td g.T nn) (lj g.T (g.T + g.N)):=by
 have u:∀ i,(lj g.T (g.T + g.N)).getD i [] = if i < g.T + g.N then jU g.T i else []:=λi=>by
  unfold lj;rw [YX,YW]
  by_cases h:i < g.T + g.N
  ·rw [Z8 h,Y5 h]; rfl
  ·rw [Zf (by simp; omega),YZ h]; rfl
 refine ⟨by unfold td; simp [hn.1],F9 _ _,λv hv=>?_,λi h=>(hn.sym iG i).1 h,λi t h=>?_,λt ht=>?_⟩
 ·obtain ⟨i,_,rfl⟩:=Zh.1 hv;exact (Ax _ _).1
 ·rw [u] at h
  split at h
  ·obtain ⟨rfl,h'⟩:=((Ax g.T i).2 t).1 h;exact .tm t h'
  ·simp [aV] at h
 ·rw [u,Y5 ω];exact ((Ax _ _).2 _).2 ⟨rfl,ht⟩
theorem j6.vR {g:af} {nn:List Bool} (h:j6 g nn) (iG:Sf g) {p:aP} (hp:p∈g.prods):vR (td g.T nn) p.right = true->aV (td g.T nn) p.left.toNat = true:=λz=>by
 obtain ⟨O,G⟩:=iG p hp
 rw [h.sym iG,b_ ω]
 refine .mk p hp λs u=>?_
 have:=(h.sym iG _).1 (za.1 z s u)
 rwa [b_ (G s u).1] at this
theorem F_ {α : Type} {l:List α} {k:Nat} {v:α} (h:l[k]? = some v):l.set k v = l:=by
 apply ZK;intro i;rw [ZN]
 split
 ·rename_i e; subst e; rw [h]; simp; exact (YT.1 h).1
 ·rfl
section
variable {w:aa4} {L:List az} {g:af} {x:GA}
theorem TA (hg:gR (hp w) g x) (hb:jd g) (he:im g):ρ ux [.agg ⟨x.cells⟩] w λv w'=>∃ (b k4:Nat) (o:aa3) (c:Nat) (nn:List Bool) (ps:List Nat) (vs:List (List Bool)),v = .pointer (some ⟨b,0,none⟩)/\j6 g nn/\Ll g (td g.T nn) vs/\ps.length = vs.length /\
  St w' (aH b (FC x k4 g.N o (g.T + g.N) c) :: aH k4 (bv nn) :: own 1 o (g.T + g.N) c (ps.map (JJ g.T)) :: aC (hZ ps vs) :: all w):=by
 refine qK ?_;refine cG hg λk1 w1 gw hg B=>?_;obtain ⟨iG,bT,bN,pN,pT,bP⟩:=Tz he;have tl:g.T = x.tl:=hg.t.1;have nl:g.N = x.nl:=hg.n.1;have pl:=hg.p.1;intro w2 hd;have e2:hp w2 = hp w1:=dT hd;have gs:sub (hp w) (hp w1):=gw;have be:gR (hp w2) g x:=hg.mono (e2 ▸ sub.refl _);have h2:=St.all w2;unfold Proofs.YtndaepmjkbmjmaaGreatDoor.all at h2;rw [e2] at h2;generalize hH:hp w1 = H at *;refine ⟨λw=>sub H (hp w),e2 ▸ sub.refl _,_,_,_,_,_,_,_,_,_,_,_,_,_,λw s=>B.row s,_,_,_,_,_,_,_,_,_,_,_,_,_,λw s=>B.row s,(VN (x:=x) be hb he).mono ?_⟩;rintro _ w5 ⟨k4,nn,rfl,a0,h5⟩;have h5:=h5.nf h2;refine ⟨_,_,_,rfl,aR 1 h5.l,ag h5 λz w6 h=>⟨aR 2 h.l,?_⟩⟩;have h:St w6 [aH z (FC x k4 g.N none 0 0),aH k4 (bv nn),has H]:=h
 refine ⟨λn w'=>∃ (j:Nat) (o:aa3) (c:Nat) (ps:List Nat),n = j/\j<=g.T + g.N/\ps.length = j/\St w' [aH z (FC x k4 g.N o j c),aH k4 (bv nn),own 1 o j c (ps.map (JJ g.T)),aC (hZ ps (lj g.T j)),has H],λn _=>g.T + g.N - n.toNat,⟨0,none,0,[],rfl,ω,rfl,?_⟩,?_⟩
 ·have h7:St w6 (aC (hZ [] (lj g.T 0)) :: _):=St.flat.2 (show St w6 ([] ++ _) from ay 1 h);exact h7.pick 5 [2,3,1,0,4]
 clear h h5 h2;rintro _ n w7 ⟨j,o,c,ps,rfl,hj,Y,h⟩;refine ⟨_,_,_,_,_,_,_,_,_,_,_,_,_,B.row (aR 4 h.l),(iX (x:=x) (hg.mono (aR 4 h.l)) hb).mono ?_⟩;rintro _ w8 ⟨rfl,g8⟩;have h:=h.gr g8
 refine ⟨_,rfl,ae (λu=>?_) λu=>?_⟩
 ·have u:j < g.T + g.N:=by have:=YR u; omega
  refine ⟨_,_,_,B.c0 (aR 4 h.l),?_⟩;rw [<- tl];refine ⟨⟨ω,rfl,ω⟩,?_⟩;rw [Za,dq,D4];refine ag h λO w9 h=>⟨_,_,_,B.c0 (aR 5 h.l),?_⟩
  have fin:∀ {w' : aa4} {o' : aa3} {c' : Nat},St w' [aH z (FC x k4 g.N o' (j + 1) c'),own 1 o' (j + 1) c' (ps.map (JJ g.T) ++ [JJ g.T O]),aH O (bv (jU g.T j)),aH k4 (bv nn),aC (hZ ps (lj g.T j)),has H]->ax ((j:Int) + 1)/\(∃ (V : Nat) (o:aa3) (c:Nat) (ps:List Nat),(j:Int) + 1 = V/\V<=g.T + g.N/\ps.length = V/\St w' [aH z (FC x k4 g.N o V c),aH k4 (bv nn),own 1 o V c (ps.map (JJ g.T)),aC (hZ ps (lj g.T V)),has H])/\g.T + g.N - ((j:Int) + 1).toNat < g.T + g.N - (j:Int).toNat:=λ{w' o' c'} h=>by
   refine ⟨⟨ω,ω⟩,⟨j + 1,o',c',ps ++ [O],σ,ω,by simp [Y],?_⟩,bn u⟩;have h:=St.snoc (A:=aH O (bv (jU g.T j))) (M:=hZ ps (lj g.T j)) (h.pick 6 [2,4,0,1,3,5])
   have bc:(hZ ps (lj g.T j) ++ [aH O (bv (jU g.T j))]) = hZ (ps ++ [O]) (lj g.T (j + 1)):=by
    rw [Lv]; unfold hZ; rw [List.zipWith_append (by rw [F9]; exact Y)]; rfl
   have e1:ps.map (JJ g.T) ++ [JJ g.T O] = (ps ++ [O]).map (JJ g.T):=σ
   rw [bc,e1] at h;exact h.pick 5 [1,3,2,0,4]
  refine ae (λhT=>?_) λhT=>?_
  ·have hT:j < g.T:=by have:=YR hT; omega
   refine aw rfl hT ?_;rw [aK];refine bj h (by rw [n_]; simpa using hT) λbA h=>?_;rw [HC] at h;have ei:(List.replicate g.T false).set j true = jU g.T j:=by unfold jU; rw [Y5 hT]
   rw [ei] at h;have U:au (hp bA) ⟨z,0,none⟩ (FC x k4 g.N o j c):=ah 1 h.l;refine ⟨_,_,_,U.cell (sub.refl _) (j:=6) rfl,ag h λbl c5 h=>?_⟩;refine (aL aQ (rfl:aj Ty _ = .slice _) (rfl:aj Ty _ = .slice _) rfl rfl rfl (h.pick 7 [0,4,2,1,3,5,6]) rfl (by simp [aG]) (by show (j + 1) * 24<=_; omega) ω).mono ?_;rintro _ bC ⟨o',c',rfl,h⟩;refine ⟨_,_,_,rfl,?_⟩;rw [aK];refine bj (h.pick 7 [2,0,3,4,5,6]) (by simp [FC]) λcc h=>fin h
  ·have hT:¬ j < g.T:=by have:=YS hT; omega
   have ei:List.replicate g.T false = jU g.T j:=by unfold jU; rw [YZ hT]
   rw [ei] at h;have U:au (hp w9) ⟨z,0,none⟩ (FC x k4 g.N o j c):=ah 1 h.l;refine ⟨_,_,_,U.cell (sub.refl _) (j:=6) rfl,ag h λbl c5 h=>?_⟩;refine (aL aQ (rfl:aj Ty _ = .slice _) (rfl:aj Ty _ = .slice _) rfl rfl rfl (h.pick 7 [0,4,2,1,3,5,6]) rfl (by simp [aG]) (by show (j + 1) * 24<=_; omega) ω).mono ?_;rintro _ bC ⟨o',c',rfl,h⟩;refine ⟨_,_,_,rfl,?_⟩;rw [aK];refine bj (h.pick 7 [2,0,3,4,5,6]) (by simp [FC]) λcc h=>fin h
 have u:j = g.T + g.N:=by have:=YS u; omega
 subst u;obtain ⟨G,X⟩:=Cx (td g.T nn);obtain ⟨Q,hQ⟩:=Cx (λ(b:Bool) (w:aa4) (m:Nat)=>∃ (vs:List (List Bool)),E_ g G vs/\m = nm G vs + (if b then 1 else 0)/\(b = false->∀ p∈g.prods,Tw G vs p)/\St w [aH z (FC x k4 g.N o (g.T + g.N) c),aH k4 (bv nn),own 1 o (g.T + g.N) c (ps.map (JJ g.T)),aC (hZ ps vs),has H]);obtain ⟨μ,c6,cb⟩:=DZ (λ(y:Bool × aa4) m=>Q y.1 y.2 m)
 refine ⟨λb w'=>∃ m,Q b w' m,λb w=>μ (b,w),⟨nm G (lj g.T (g.T + g.N)) + 1,?_⟩,?_⟩
 ·rw [hQ];exact ⟨_,X ▸ Qy iG a0,σ,λh=>absurd h (by decide),h⟩
 clear h;intro _ b3 ab hP;have hP:=cb (b3,ab) hP;dsimp only at hP;generalize hμ : μ (b3,ab) = μ0 at *;rw [hQ] at hP;obtain ⟨W,a8,c8,bi,h⟩:=hP;refine ae (λa6=>?_) λa6=>?_
 rotate_left
 ·refine ⟨z,k4,o,c,nn,ps,W,rfl,a0,X ▸ a8.all iG (bi a6),by rw [Y,a8.lv],?_⟩;exact St.on (N:=[_,_,_,_]) h (bH gs)
 subst a6;rw [Y5 rfl] at c8;refine ⟨λb n w'=>∃ (j:Nat) (vs:List (List Bool)),n = j/\j<=g.prods.length/\nm G vs + (if b then 1 else 0)<=nm G W/\E_ g G vs/\(b = false->∀ p∈g.prods.take j,Tw G vs p)/\St w' [aH z (FC x k4 g.N o (g.T + g.N) c),aH k4 (bv nn),own 1 o (g.T + g.N) c (ps.map (JJ g.T)),aC (hZ ps vs),has H],λ_ n _=>g.prods.length - n.toNat,⟨0,W,rfl,ω,σ,a8,σ,h⟩,?_⟩;clear h;rintro _ b2 n6 b1 ⟨j,vs,rfl,hj,bb,mk,R,h⟩;refine ⟨_,_,_,B.c4 (aR 4 h.l),ae (λu=>?_) λu=>?_⟩
 rotate_left
 ·have u:j = g.prods.length:=by have:=YS u; omega
  subst u;rw [Zi] at R
  have key:Q b2 b1 (nm G vs + (if b2 then 1 else 0)):=by
   rw [hQ]; exact ⟨vs,mk,rfl,R,h⟩
  refine ⟨⟨_,key⟩,?_⟩;have:=c6 (b2,b1) _ key;dsimp only;rw [hμ];omega
 have u:j < g.prods.length:=by have:=YR u; omega
 obtain ⟨p,ad,ch,ac,b4,b5,ra,rl,rc,rfl,ci,aa⟩:=hg.p.get (i:=j) ω;have Z:=YV ac;obtain ⟨ck,aI⟩:=iG p Z;have cm:=aa.1;have cp:=hb.2.2.2.2.2.2 p Z;have et:g.prods.take (j + 1) = g.prods.take j ++ [p]:=by rw [Y2,ac]; rfl
 obtain ⟨k,hk⟩ : ∃ k:Nat,p.left = k:=⟨p.left.toNat,ω⟩;have aT:p.left.toNat = k:=ω
 have b0:k < g.T + g.N:=ω
 obtain ⟨px,a1⟩ : ∃ px,ps[k]? = some px:=⟨ps[k]'ω,YU _⟩;obtain ⟨v,hv⟩ : ∃ v,vs[k]? = some v:=⟨vs[k]'(by rw [mk.lv]; exact b0),YU _⟩;have b6:vs.getD k [] = v:=by rw [YX,hv]; rfl
 intro a7 hd;have h:=h.drawn hd
 have ro:∃ ad,o = some ad/\au (hp a7) ad (ps.map (JJ g.T)):=by
  rcases MQ 2 h.l with e | ⟨ad,e,hc⟩
  ·have:=congrArg List.length e;rw [Y3,ZJ] at this; omega
  ·exact ⟨ad,e,hc⟩
 obtain ⟨bG,a4,c7⟩:=ro;have U:au (hp a7) ⟨z,0,none⟩ (FC x k4 g.N o (g.T + g.N) c):=ah 0 h.l;have rH:sub H (hp a7):=aR 4 h.l;have gS:(hZ ps vs)[k]? = some (aH px (bv v)):=by unfold hZ; rw [aau,a1,hv]
 have Gz:∀ v',(hZ ps vs).set k (aH px (bv v')) = hZ ps (vs.set k v'):=λv'=>Mv (λp v=>aH p (bv v)) a1;refine ⟨λw=>au (hp w) ⟨z,0,none⟩ (FC x k4 g.N o (g.T + g.N) c)/\au (hp w) bG (ps.map (JJ g.T))/\sub H (hp w),⟨U,c7,rH⟩,_,_,_,λw s=>B.c4 s.2.2,aq b4 ω ⟨_,_,_,λw s=>b5.cell s.2.2 (j:=1) rfl,_,_,_,λw s=>s.1.cell (sub.refl _) (j:=6) rfl,_,_,_,λw s=>B.c4 s.2.2,aq b4 ω ⟨_,λw s=>b5.cell0 s.2.2,?_⟩⟩⟩;rw [hk];refine aw a4 b0 ⟨_,_,_,λw s=>s.2.1.cell (sub.refl _) (j:=k) (by rw [YW,a1]; rfl),?_⟩;have h:=St.out (h.pick 5 [3,0,1,2,4]) gS
 refine (UM (T:=g.T) (x:=x) (ks:=z) (nn:=nn) (vs:=vs) (ps:=ps) (row:=p.right) (an:=some ⟨k4,0,none⟩) (nl:=g.N) (cn:=g.N) (ao:=o) (ol:=g.T + g.N) (co:=c) tl h (λh hh=>ah 1 hh) (λh hh=>mf a0.1 (.inr ⟨_,rfl,ah 2 hh⟩)) (λh hh=>?_) Y mk.lv rfl mk.le (mk.le v (YV hv)) (λh hh i q v' hi a9=>?_) (λh hh=>aa.mono (aR 4 hh)) (λs hs=>⟨(aI s hs).1,by have:=(aI s hs).2; omega⟩) ω ω).mono ?_
 ·rcases MQ 3 hh with e | ⟨ad,e,hc⟩
  ·have:=congrArg List.length e;rw [Y3,ZJ] at this; omega
  ·exact ⟨ad,e,hc⟩
 ·by_cases ek:i = k
  ·subst ek;rw [a1] at hi; cases hi;rw [hv] at a9; cases a9;exact .inr ⟨rfl,rfl⟩
  ·exact .inl (X6 0 hh hi a9 ek)
 rintro _ bd ⟨rfl,h⟩;rw [<- X] at h ⊢;have ba:=mk.lay iG Z;rw [aT,b6] at ba;have a3:(fi G vs v p.right).length = v.length:=uF _ _ _ _;have am:=Aq G vs p.right v;have cu:=JF (nl:=G) hv a3 am;have c9:=qP G vs p.right v;have h:=St.back h gS;rw [Gz] at h
 refine ⟨_,rfl,⟨ah 1 h.l,?_,aR 4 h.l⟩,?_⟩
 ·rcases MQ 3 h.l with e | ⟨ad,e,hc⟩
  ·have:=congrArg List.length e;rw [Y3,ZJ] at this; omega
  ·rw [a4] at e; cases e; exact hc
 have nx:∀ {b' : Bool},(b' = true↔b2 = true\/fi G vs v p.right≠v)->ax ((j:Int) + 1)/\(∃ (V : Nat) (vs:List (List Bool)),(j:Int) + 1 = V/\V<=g.prods.length/\nm G vs + (if b' then 1 else 0)<=nm G W/\E_ g G vs/\(b' = false->∀ p∈g.prods.take V,Tw G vs p)/\St bd [aH z (FC x k4 g.N o (g.T + g.N) c),aH k4 (bv nn),own 1 o (g.T + g.N) c (ps.map (JJ g.T)),aC (hZ ps vs),has H])/\g.prods.length - ((j:Int) + 1).toNat < g.prods.length - (j:Int).toNat:=λ{b'} a5=>by
  refine ⟨⟨ω,ω⟩,⟨j + 1,vs.set k (fi G vs v p.right),σ,ω,?_,ba,λhf q hq=>?_,h.pick 5 [1,2,3,0,4]⟩,bn u⟩
  ·by_cases h0:fi G vs v p.right = v
   ·rw [h0,F_ hv];have:b' = b2:=by rw [ZI,a5]; simp [h0]
    rw [this]; exact bb
   ·have cg : bg v < bg (fi G vs v p.right):=Nat.lt_of_le_of_ne am λe=>h0 (D0 a3 c9 e.symm);have:=fZ (fi G vs v p.right)
    split at bb <;> split <;> omega
  ·have h0:fi G vs v p.right = v:=Z3 λhn=>by
    have:=a5.2 (.inr hn);rw [hf] at this; cases this
   have ca:b2 = false:=by
    cases hbb:b2
    ·rfl
    ·have:=a5.2 (.inl hbb);rw [hf] at this; cases this
   rw [h0,F_ hv];rw [et] at hq
   rcases YY.1 hq with hq | hq
   ·exact R ca q hq
   ·simp at hq; subst hq;refine ⟨X ▸ a0.vR iG Z,?_⟩;rw [aT,b6]; exact h0
 exact ae (λhb=>nx (by simp [hb])) λhb=>nx (by simp [hb])
end
structure Lw (h:Hp) (g:af) (x:GA) (b k4:Nat) (o:aa3) (c:Nat) (nn:List Bool) (ps:List Nat) (vs:List (List Bool)):Prop where
 f:au h ⟨b,0,none⟩ (FC x k4 g.N o (g.T + g.N) c)
 n:au h ⟨k4,0,none⟩ (bv nn)
 p:∃ ad,o = some ad/\au h ad (ps.map (JJ g.T))
 v:∀ (i:Nat) p v,ps[i]? = some p->vs[i]? = some v->au h ⟨p,0,none⟩ (bv v)
theorem Lw.mono {h h' : Hp} {g:af} {x:GA} {b k4:Nat} {o:aa3} {c:Nat} {nn:List Bool} {ps:List Nat} {vs:List (List Bool)} (s:sub h h') (t:Lw h g x b k4 o c nn ps vs):Lw h' g x b k4 o c nn ps vs :=
 ⟨t.f.mono s,t.n.mono s,by obtain ⟨u,e,r⟩:=t.p; exact ⟨u,e,r.mono s⟩,λi p v G z=>(t.v i p v G z).mono s⟩
theorem TB {L:List az} {h:Hp} {g:af} {x:GA} {b k4:Nat} {o:aa3} {c:Nat} {nn:List Bool} {ps:List Nat} {vs:List (List Bool)} (hl:ps.length = g.T + g.N) (hN:0 < g.N) (hs:aD (aH b (FC x k4 g.N o (g.T + g.N) c) :: aH k4 (bv nn) :: own 1 o (g.T + g.N) c (ps.map (JJ g.T)) :: aC (hZ ps vs) :: L) h):Lw h g x b k4 o c nn ps vs:=by
 refine ⟨ah 0 hs,ah 1 hs,?_,λi p v hp hv=>X5 3 hs hp hv⟩
 rcases MQ (sz:=1) (l:=g.T + g.N) (c:=c) 2 hs with e | ⟨u,e,z⟩
 ·have:=congrArg List.length e;rw [Y3,ZJ] at this; omega
 ·exact ⟨u,e,z⟩
section
variable {w:aa4} {L:List az} {g:af} {x:GA} {b k4:Nat} {o a:aa3} {c l cl:Nat} {nn:List Bool} {ps:List Nat} {vs:List (List Bool)} {row:List Int}
theorem X7 (hg:gR (hp w) g x) (he:im g) (t:Lw (hp w) g x b k4 o c nn ps vs) (hn:j6 g nn) (al:Ll g (td g.T nn) vs) (hps:ps.length = vs.length) (hr:bh (hp w) row a l) (hs:X4 g row) (hb:l<=4611686018427387904):ρ pO [.pointer (some ⟨b,0,none⟩),.slice a l cl] w λv w'=>∃ (k3:Nat) (bs:List Bool) (r:Bool),v = .tuple #[.slice (some ⟨k3,0,none⟩) g.T g.T,.bool r]/\YF g row bs/\(r = true↔E9 g row)/\St w' (aH k3 (bv bs) :: all w):=by
 refine nh ?_;obtain ⟨Z,bT,bN,pN,pT,bP⟩:=Tz he;have tl:g.T = x.tl:=hg.t.1;have h0:=St.all w;unfold Proofs.YtndaepmjkbmjmaaGreatDoor.all at h0;have X:=al.lv;refine ⟨_,_,_,t.f.cell0 (sub.refl _),?_⟩;rw [<- tl];refine ⟨⟨ω,rfl,ω⟩,?_⟩;rw [Za,dq,D4];refine ag h0 λk3 w1 h=>?_;have z:∀ {h:Hp},aD [has (hp w)] h->sub (hp w) h:=λu=>aR 0 u;refine (UM (T:=g.T) (x:=x) (ks:=b) (nn:=nn) (vs:=vs) (ps:=ps) (row:=row) (an:=some ⟨k4,0,none⟩) (nl:=g.N) (cn:=g.N) (ao:=o) (ol:=g.T + g.N) (co:=c) tl h (λh u=>t.f.mono (z u)) (λh u=>mf hn.1 (.inr ⟨_,rfl,t.n.mono (z u)⟩)) (λh u=>(t.mono (z u)).p) ω X rfl al.le σ (λh u i q v' hi U=>.inl ((t.mono (z u)).v i q v' hi U)) (λh u=>hr.mono (z u)) (λs G=>⟨(hs s G).1,by have:=(hs s G).2; omega⟩) hb ω).mono ?_;rintro _ w2 ⟨rfl,h⟩;refine ⟨_,rfl,λO hd=>?_⟩;have h:=h.drawn hd;have R:sub (hp w) (hp O):=aR 1 h.l;have W:=t.mono R;have rg:au (hp O) ⟨b,0,none⟩ x.cells:=au.take (vs:=[.slice (some ⟨k4,0,none⟩) g.N g.N,.slice o (g.T + g.N) c]) W.f;have rn:bh (hp O) nn (some ⟨k4,0,none⟩) g.N:=mf hn.1 (.inr ⟨_,rfl,W.n⟩);refine ⟨λw=>sub (hp O) (hp w),sub.refl _,_,_,_,_,_,_,_,_,_,_,_,_,_,λw s=>rg.at s rfl,_,_,_,λw s=>W.f.cell s (j:=5) rfl,(D5 (x:=x) (hg.mono R) rn hn.1 (hr.mono R) hs hb bT bN).mono ?_⟩;rintro _ w6 ⟨⟨r,rfl,V⟩,Y⟩;obtain ⟨a1,a2⟩:=al.row hs;refine ⟨_,rfl,Y,k3,_,r,rfl,⟨by rw [uF]; simp,λt=>?_⟩,by rw [V,hn.X2 Z],h.gr Y⟩;rw [a2,lD];simp only [Z7,aav,false_or];refine ⟨λh=>h.2,λh=>⟨?_,h⟩⟩;obtain ⟨_,_,_,_,h⟩:=h;exact h.lt
end
def VP (g:af) (e:Int) (nn:List Bool):Prop:=(¬ im g/\e = 1/\nn = [])\/(im g/\e = 0/\j6 g nn)
section
variable {w:aa4} {L:List az} {g:af} {x:GA} {a a2:aa3} {l l2 c c2:Nat} {bs:List Bool} {row:List Int}
theorem JK (hg:gR (hp w) g x) (hb:jd g) (ht:gA (hp w)):ρ pV [.agg ⟨x.cells⟩] w λv w'=>∃ (o:aa3) (n c:Nat) (e:Int) (nn:List Bool),v = .tuple #[.slice o n c,.int .i64 e]/\nn.length = n/\VP g e nn/\St w' (own 1 o n c (bv nn) :: all w):=by
 refine (Lo hg hb ht).mono ?_
 rintro _ w' (⟨G,rfl,z⟩ | ⟨G,k,nl,nn,z,u,rfl,O⟩)
 ·exact ⟨_,_,_,_,[],rfl,rfl,.inl ⟨G,rfl,rfl⟩,ay 1 (bH z)⟩
 ·refine ⟨_,_,_,_,nn,rfl,u.1,.inr ⟨G,rfl,u⟩,?_⟩;have e:bv (nl ++ nn) = bv nl ++ (bv nn ++ ([] ++ [])):=by simp [bv]
  rw [e] at O;have:=dS (pre:=bv nl) (vs:=bv nn) (cs:=[]) (post:=[]) (l:=g.N) (c:=g.N) (sz:=1) O (by rw [n_,u.1,Z4]) (by rw [Zm,n_,u.1,Z4]) (Zc _);rw [n_,z] at this;exact this
end
end Go.Proofs.YtndaepmjkbmjmaaGreatDoor
