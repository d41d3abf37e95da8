/- Texts of this claim, one behind the other. -/
import Derived.Test.YtndaepmjkbmjmaaGreatDoorG3
import Derived.Test.YtndaepmjkbmjmaaGreatDoorG1
import Derived.Laws.StructEq
import Derived.Test.YtndaepmjkbmjmaaGreatDoorG2
set_option linter.unusedVariables false
set_option linter.unusedSectionVars false
set_option maxRecDepth 100000
set_option maxHeartbeats 16000000
namespace Go.V
end Go.V
namespace Go.Proofs.YtndaepmjkbmjmaaGreatDoor
end Go.Proofs.YtndaepmjkbmjmaaGreatDoor
open Go.V Go.Proofs.YtndaepmjkbmjmaaGreatDoor
namespace Go.V
def xE (h:Hp) (ss:List SQ) (o:YB):Prop:=∀ (i:Nat) q,ss[i]? = some q->∃ ad,o = some ad/\av h (ad.add (cY i 2)) (Qh q)/\a_ h q.1.2 q.1.1.1 q.1.2.length/\a_ h q.2.2 q.2.1.1 q.2.2.length
theorem xE.mono {h h' : Hp} {ss:List SQ} {o:YB} (s:sub h h') (r:xE h ss o):xE h' ss o:=λi q hq=>by
 obtain ⟨ad,h1,h2,h3,h4⟩:=r i q hq
 exact ⟨ad,h1,h2.mono s,h3.mono s,h4.mono s⟩
theorem Rj {h:Hp} {xs:List aP} {a:YB} {l:Nat} (hl:xs.length = l) (r:eJ a (IF xs) h):a_ h xs a l:=by
 refine ⟨hl,λi x hx=>?_⟩
 rcases r with e | ⟨ad,rfl,hc⟩
 ·have h1:=congrArg List.length e
  rw [Q9,Xk] at h1
  have:=(Wt.1 hx).1; omega
 ·exact ⟨ad,Ot x,rfl,bQ (n:=2) (λ_=>rfl) xs ad hc i x hx,rfl⟩
theorem lr {h:Hp} {xs:List aP} {a:YB} {l:Nat} (r:a_ h xs a l) {i:Nat} (hi:i < l):∃ x ad,xs[i]? = some x/\a = some ad/\av h (ad.add (cY i 2)) (Ot x):=by
 obtain ⟨x,ad,vs,hx,ha,hr,e⟩:=r.get hi
 rw [show vs = Ot x from e] at hr
 exact ⟨x,ad,hx,ha,hr⟩
theorem ui {h:Hp} {L:List ay} {ss:List SQ} {o:YB} {n c:Nat} (hs:aC (own 2 o n c (wC ss) :: aG (Au ss) :: aG (wD ss) :: L) h):xE h ss o:=λi q hq=>by
 obtain ⟨ad,e,r⟩:=yU (fB 0 hs) hq
 obtain ⟨h1,s1,a1⟩:=uh (bw hs) (FI hq)
 obtain ⟨h2,s2,a2⟩:=uh (bw (bw hs)) (K5 hq)
 exact ⟨ad,e,r,(FJ a1).mono s1,(Rj rfl (cf a2)).mono s2⟩
def dU (g:af) (K:cg) (s:Nat):List Nat:=(List.range s).filter λs=>decide (aF g K s≠[])
section
variable {g:af} {K:cg} {ss:List SQ} {asked:Int} {i s:Nat} {es:List aP}
theorem jP:dU g K (s + 1) = dU g K s ++ if aF g K (s:Int)≠[] then [s] else []:=by
 unfold dU
 rw [XD,W5]
 congr 1
 by_cases h:aF g K (s:Int)≠[]
 ·simp [h]
 ·simp [h]
theorem Cm:∀ (s n:Nat),s<=n->∃ t,dU g K n = dU g K s ++ t
  | s, 0, h => ⟨[], by have : s = 0 := by omega
                       subst this; simp⟩
  | s,n + 1,h=>by
    by_cases e:s = n + 1
    · subst e; exact ⟨[],by simp⟩
    · obtain ⟨t,ht⟩:=Cm s n (by omega)
      exact ⟨t ++ if aF g K (n:Int)≠[] then [n] else [],by rw [jP,ht,WG]⟩
theorem HK (h:s<=g.T + g.N):dU g K s = (bD g K).take (dU g K s).length:=by
 obtain ⟨t,ht⟩:=Cm (g:=g) (K:=K) s _ h
 rw [show bD g K = dU g K (g.T + g.N) from rfl,ht,List.take_left' rfl]
theorem Oz (hc:ak g) (hf:∀ x∈K,jZ g x):aF g K 0 = []:=by
 refine Xv λh=>?_
 have:=s_ (s:=0) hc hf (Int.le_refl _) h
 omega
structure Mt (g:af) (ss:List SQ) (asked:Int) (i:Nat):Prop where
 ks:bL ss = (b_ g i).1
 es:bz ss = (b_ g i).2 ++ List.replicate (ss.length - i) []
 lt:∀ j,j < i->j < (b_ g j).1.length
 le:ss.length<=256
 ask:asked = 1 + (xD (b_ g i).2:Int)
structure xF (g:af) (K:cg) (ss:List SQ) (asked:Int) (i s:Nat) (es:List aP):Prop where
 ks:bL ss = (kK g K (dU g K s) ((b_ g i).1,[])).1
 ed:es = (kK g K (dU g K s) ((b_ g i).1,[])).2
 eL:bz ss = (b_ g i).2 ++ es :: List.replicate (ss.length - i - 1) []
 le:ss.length<=256
 ask:asked = 1 + (xD (b_ g i).2:Int) + es.length
theorem Mt.start {b:YB} {d:Nat}:Mt g [(((b,d),[⟨0,0⟩]),((none,0),[]))] 1 0:=⟨rfl,rfl,λj hj=>by omega,by simp,rfl⟩
theorem Mt.inner (h:Mt g ss asked i) (hi:i < ss.length) (h0:aF g K 0 = []):xF g K ss asked i 1 []:=by
 have e:dU g K 1 = []:=by rw [show (1:Nat) = 0 + 1 from rfl,jP]; simp [h0,dU]
 refine ⟨by rw [e]; exact h.ks,by rw [e]; rfl,?_,h.le,by rw [h.ask]; simp⟩
 rw [h.es,show ss.length - i = (ss.length - i - 1) + 1 by omega,Ym]; simp
theorem xF.skip (h:xF g K ss asked i s es) (hk:aF g K (s:Int) = []):xF g K ss asked i (s + 1) es:=by
 have e:dU g K (s + 1) = dU g K s:=by rw [jP]; simp [hk]
 exact ⟨by rw [e]; exact h.ks,by rw [e]; exact h.ed,h.eL,h.le,h.ask⟩
theorem Rk (ss:List SQ) (b:YB) (d:Nat) (K:cg):bz (fk ss b d K) = bz ss ++ List.replicate ((fk ss b d K).length - ss.length) []:=by
 unfold fk
 split
 ·simp
 ·simp [bz]
theorem xF.next (h:xF g K ss asked i s es) (hk:aF g K (s:Int)≠[]) (hi:i < ss.length) (hes:(b_ g i).2.length = i) {b:YB} {d:Nat} (hle:(fk ss b d (aF g K s)).length<=256) {q:SQ} (hq:(fk ss b d (aF g K s))[i]? = some q) (E:Lq aP)
  (hE:E.2 = es ++ [⟨(s:Int),(((bL ss).idxOf (aF g K s):Nat):Int)⟩]):xF g K ((fk ss b d (aF g K s)).set i (q.1,E)) (asked + 1) i (s + 1) E.2:=by
 have e:dU g K (s + 1) = dU g K s ++ [s]:=by rw [jP,WJ hk]
 have hs:=yW hq E
 have hnl:=Ck ss b d (aF g K s)
 refine ⟨?_,?_,?_,by rw [W1]; exact hle,by rw [h.ask,hE]; simp; omega⟩
 ·rw [hs.1,AY,e,xw,h.ks]
 ·rw [hE,e,xw,h.ed,h.ks]
 ·rw [hs.2.2.1,Rk,h.eL,W1,WG,XT _ _ (by omega),hes,Xz,List.cons_append,List.set_cons_zero,List.replicate_append_replicate]
  congr 3
  omega
theorem xF.done (h:xF g K ss asked i (g.T + g.N) es) (hb:∀ j,j < i->j < (b_ g j).1.length) (hK:(b_ g i).1[i]? = some K):Mt g ss asked (i + 1):=by
 have hb1:=d_ hK
 refine ⟨by rw [hb1]; exact h.ks,?_,λj hj=>?_,h.le,?_⟩
 ·rw [hb1,h.eL,h.ed,WG]; rfl
 ·by_cases e2:j = i
  ·subst e2; exact (Wt.1 hK).1
  ·exact hb j (by omega)
 ·rw [hb1,yV,h.ask,h.ed]
  show _ = 1 + ((xD (b_ g i).2 + (kK g K (bD g K) ((b_ g i).1,[])).2.length:Nat):Int)
  rw [show bD g K = dU g K (g.T + g.N) from rfl]
  omega
theorem xF.len (h:xF g K ss asked i s es) (hs:s<=g.T + g.N):es.length<=s:=by
 rw [h.ed,kZ]
 have:=W6 (λs=>decide (aF g K (s:Nat)≠[])) (List.range s)
 rw [XN] at this
 simpa [dU] using this
theorem xF.get (h:xF g K ss asked i s es) (hes:(b_ g i).2.length = i) {q:SQ} (hq:ss[i]? = some q):q.2.2 = es:=by
 have h1:(bz ss)[i]? = some q.2.2:=by unfold bz; rw [Wx,hq]; rfl
 rw [h.eL,WK (by omega),hes,Xz] at h1
 simpa using h1.symm
end
end Go.V
namespace Go.Proofs.YtndaepmjkbmjmaaGreatDoor
variable {w:YC} {L:List ay} {g:af} {x:GA} {a a2:YB} {l c l2 c2:Nat} {I J:List ag}
theorem Rl {ss:List SQ} {o:YB} (hs:xE (hp w) ss o) (hx:a_ (hp w) I a l) (hn:ss.length<=300) (hk:∀ q∈ss,q.1.2.length<=4611686018427387904):aA Tryz.prog td [.slice o ss.length c,.slice a l c2] w λv w'=>v = .int .i64 (if I∈bL ss then (((bL ss).idxOf I:Nat):Int) else -1)/\hp w' = hp w:=by
 refine pB ⟨λz w'=>∃ j:Nat,z = j/\j<=ss.length/\I∉(bL ss).take j/\hp w' = hp w,λz _=>ss.length - z.toNat,⟨0,rfl,WC _,by simp,rfl⟩,?_⟩
 rintro _ _ w1 ⟨j,rfl,hj,hni,e1⟩
 refine ae (λh1=>?_) λh1=>?_
 rotate_left
 ·have h1:j = ss.length:=by have:=Ws h1; omega
  rw [h1,WN (by rw [dJ]; exact WO _)] at hni
  exact ⟨by rw [WB hni],e1⟩
 have h1:j < ss.length:=by have:=Wr h1; omega
 have hq:ss[j]? = some ss[j]:=Wv h1
 obtain ⟨ad,rfl,r,rk,_⟩:=hs j _ hq
 have hkj:(bL ss)[j]? = some (ss[j]).1.2:=by unfold bL; rw [Wx,hq]; rfl
 refine aq rfl h1 ⟨_,_,_,r.cell0 (vy e1),(HI (by rw [e1]; exact rk) (by rw [e1]; exact hx) (hk _ (Wu hq))).mono ?_⟩
 rintro _ w2 ⟨rfl,e2⟩
 refine ⟨_,rfl,ae (λh2=>?_) λh2=>?_⟩
 ·have h2:(ss[j]).1.2 = I:=Wr h2
  rw [h2] at hkj
  have hm:=Wu hkj
  rw [WJ hm]
  have hjl:j < (bL ss).length:=(Wt.1 hkj).1
  have:(bL ss).idxOf I = j:=by
   refine Nat.le_antisymm (X6 λhlt=>?_) (X6 λhlt=>hni ?_)
   ·have e3:(bL ss).idxOf I<=j:=by
     have e4:bL ss = (bL ss).take j ++ I :: (bL ss).drop (j + 1):=by
      rw [<- (Wt.1 hkj).2,<- W_ hjl,WX]
     rw [e4,List.idxOf_append,WB hni]
     simp; omega
    omega
   ·have:=List.getElem_idxOf (Yl hm)
    refine Wu (i:=(bL ss).idxOf I) ?_
    rw [XB,WJ hlt,Wv (Yl hm),this]
  rw [this]
  exact ⟨rfl,e2.trans e1⟩
 ·have h2:(ss[j]).1.2≠I:=Ws h2
  exact ⟨⟨by omega,by omega⟩,⟨j + 1,by simp,h1,by rw [Wz,hkj,Wy]; simp [hni,X2 h2],e2.trans e1⟩,bx h1⟩
theorem OA {kt c i:Nat} {s t:Int} {o:YB} {rest:List Value} {ss:List SQ} {q:SQ} {X:YC->Prop} (h:St w (aK kt (.slice o ss.length c :: rest) :: own 2 o ss.length c (wC ss) :: aG (wD ss) :: L)) (hq:ss[i]? = some q) (hsz:q.2.2.length<=1000)
  (hX:∀ (w' : YC) (E:Lq aP),E.2 = q.2.2 ++ [⟨s,t⟩]->St w' (aK kt (.slice o ss.length c :: rest) :: own 2 o ss.length c (wC (ss.set i (q.1,E))) :: aG (wD (ss.set i (q.1,E))) :: L)->X w') :
  ∀ w1,drawn w w1->∃ C:YC->Prop,C w1/\∃ o1 k1 k2,(∀ u,C u->u.cell? (aM kt) = some (vS o1 k1 k2))/\∃ o2 k3 k4,(∀ u,C u->u.cell? (aM kt) = some (vS o2 k3 k4))/\idx o2 k3 (i:Int) 2 λa2=>∃ o3 k5 k6,(∀ u,C u->u.cell? (Addr.add a2 1) = some (vS o3 k5 k6)) /\
   new w1 (oC [.int .i64 s,.int .i64 t] Hf) λk7 w2=>C w2/\aX Tryz.prog (ir Dw (Array.mk [vS o3 k5 k6,vS (some (aM k7)) 1 1])) w2 λv w3=>∃ o4 k8 k9,v = vS o4 k8 k9/\C w3/\idx o1 k1 (i:Int) 2 λa3=>st1 w3 (Addr.add a3 1) (vS o4 k8 k9) X:=by
 intro w1 hd
 have h:=h.eq (aB hd)
 have hil:=(Wt.1 hq).1
 obtain ⟨ad,rfl,_⟩:=yU (fB 1 h.l) hq
 have cA:∀ {u:YC} {L' : List ay},St u (aK kt (.slice (some ad) ss.length c :: rest) :: L')->u.cell? (aM kt) = some (vS (some ad) ss.length c):=λh=>(ai 0 h.l).cell0 (sub.refl _)
 have cB:∀ {u:YC} {L' : List ay},St u (own 2 (some ad) ss.length c (wC ss) :: L')->u.cell? ((ad.add (cY i 2)).add 1) = some (dO q.2):=λh=>by
  obtain ⟨ad',e,r⟩:=yU (fB 0 h.l) hq
  cases e
  exact r.cell (sub.refl _) (j:=1) rfl
 refine ⟨λu=>u.cell? (aM kt) = some (vS (some ad) ss.length c)/\u.cell? ((ad.add (cY i 2)).add 1) = some (dO q.2),⟨cA h,cB (h.pick 2 [1])⟩,_,_,_,λu hu=>hu.1,_,_,_,λu hu=>hu.1,aq rfl hil ⟨_,_,_,λu hu=>hu.2,?_⟩⟩
 have h:=St.B7 (h.pick 3 [2,0,1]) (K5 hq)
 refine ah h λk7 w2 h=>⟨⟨cA (h.pick 4 [3]),cB (h.pick 5 [4])⟩,?_⟩
 have z1:(q.2.2.length + 1) * 16<=140737488355328/\q.2.2.length < 9223372036854775807:=by omega
 refine (aN (us:=IF q.2.2) aQ (rfl:aj Ty _ = .slice _) (rfl:aj Ty _ = .slice _) rfl rfl rfl h rfl (by simp [aV]) z1.1 z1.2).mono ?_
 rintro _ w3 ⟨o4,c4,rfl,h⟩
 refine ⟨_,_,_,rfl,⟨cA (h.pick 4 [3]),cB (h.pick 5 [4])⟩,aq rfl hil ?_⟩
 rw [add_add,aJ]
 refine pf (h.pick 5 [4,0,2,3]) rfl (by rw [FH]; omega) λw4 h=>?_
 have e1:=K6 hq ((o4,c4),q.2.2 ++ [⟨s,t⟩])
 have e2:=yW hq ((o4,c4),q.2.2 ++ [⟨s,t⟩])
 have e3:(q.2.2 ++ [(⟨s,t⟩ : aP)]).length = q.2.2.length + 1:=by simp
 have e4:IF (q.2.2 ++ [⟨s,t⟩]) = IF q.2.2 ++ [.int .i64 s,.int .i64 t]:=by unfold IF; rw [Xe]; rfl
 refine hX w4 ((o4,c4),q.2.2 ++ [⟨s,t⟩]) rfl ?_
 rw [<- e1,e2.2.2.2]
 have h:=St.Fw (M:=wD ss) (n:=i) (by unfold wD; rw [WE]; exact hil) (h.pick 4 [1,2,0,3])
 unfold dp dO
 rw [e3,e4]
 exact h.pick 3 [2,1,0]
variable {w:YC} {L:List ay} {g:af} {x:GA}
theorem Rm (hg:gR (hp w) g x) (hb:ik g):aA Tryz.prog jO [.agg ⟨x.cells⟩] w λv w' =>
  (¬ak g/\v = .tuple #[.agg #[.slice none 0 0,.int .i64 0,.int .i64 0],.int .i64 1]/\Gr w w') \/
  (ak g/\Q3 g/\v = .tuple #[.agg #[.slice none 0 0,.int .i64 0,.int .i64 0],.int .i64 11]/\Gr w w') \/
  (ak g/\∃ (o:YB) (c:Nat) (ss:List SQ),bn g ss/\v = .tuple #[.agg #[.slice o ss.length c,.int .i64 (1 + (xD (bz ss):Int)),.int .i64 (ss.length:Int)],.int .i64 0] /\
   St w' (own 2 o ss.length c (wC ss) :: aG (Au ss) :: aG (wD ss) :: all w)):=by
 refine pz (cN hg λk1 w1 gw hg B=>?_)
 refine ah (St.all w1) λk2 w2 h=>?_
 refine ⟨_,_,_,_,_,_,_,_,_,_,_,_,_,B.row h.aZ,(Hm (hg.mono h.aZ) hb).mono ?_⟩
 rintro _ w3 ⟨⟨rb,rfl,hrb⟩,g3⟩
 have h:=h.gr g3
 refine ⟨_,rfl,ae (λh1=>?_) λh1=>?_⟩
 ·have hn:¬ak g:=λhc=>by rw [hrb.2 hc] at h1; simp at h1
  exact bu h rfl (by simp [aV]) λw4 h=>⟨_,_,_,_,_,(ai 0 h.l).at (sub.refl _) rfl,.inl ⟨hn,rfl,gw.trans h.aZ⟩⟩
 have hc:ak g:=hrb.1 (by simpa using h1)
 obtain ⟨hT,hN,hP,hP2,hT1,hN2⟩:=hc.ct
 refine ah h λkt w5 h=>bu h rfl (by simp [aV]) λw6 h=>⟨_,_,_,(ai 0 h.l).cell0 (sub.refl _),ah h λk16 w7 h=>ah h λk17 w8 h=>?_⟩
 refine (aN (us:=[]) aQ (rfl:aj Ty _ = .slice _) (rfl:aj Ty _ = .slice _) rfl rfl rfl ((az 2 h).pick 2 [1,0]) rfl (by simp [aV]) (by decide) (by decide)).mono ?_
 rintro _ w9 ⟨o7,c7,rfl,h⟩
 refine ⟨_,_,_,rfl,bj (h.pick 4 [3,0,2]) (by simp) λw10 h=>?_⟩
 have h:St w10 (aK kt [.slice o7 1 c7,.int .i64 1,.int .i64 1] :: own 2 o7 1 c7 [.slice (some (aM k16)) 1 1,.slice none 0 0] :: aK k16 [.int .i64 0,.int .i64 0] :: aK k2 z3 :: all w1):=h
 have h:St w10 (own 2 (some (aM k16)) 1 1 (tv [⟨0,0⟩]) :: aK kt [.slice o7 1 c7,.int .i64 1,.int .i64 1] :: own 2 o7 1 c7 [.slice (some (aM k16)) 1 1,.slice none 0 0] :: aK k2 z3 :: all w1):=iD (cs:=[]) (h.pick 3 [2,0,1]) rfl rfl (WO _)
 have h:=St.snoc (M:=[]) (((St.flat (M:=[])).2 h).pick 2 [1,0])
 have h:=St.snoc (M:=[]) ((az 2 ((St.flat (M:=[])).2 h)).pick 2 [0,1])
 refine ⟨λz w'=>∃ (i:Nat) (ss:List SQ) (o:YB) (c:Nat) (asked:Int),z = i/\i<=ss.length/\Mt g ss asked i/\St w' (aK kt [.slice o ss.length c,.int .i64 asked,.int .i64 (ss.length:Int)] :: own 2 o ss.length c (wC ss) :: aG (Au ss) :: aG (wD ss) :: aK k2 z3 :: all w1),λz _=>300 - z.toNat,
  ⟨0,[(((some (aM k16),1),[⟨0,0⟩]),((none,0),[]))],o7,c7,1,rfl,WC _,.start,h.pick 5 [2,3,1,0,4]⟩,?_⟩
 clear h
 rintro _ _ w11 ⟨i,ss,o,c,asked,rfl,hi,hB,h⟩
 have hlen:ss.length<=256:=hB.le
 refine ⟨_,_,_,(ai 0 h.l).cell0 (sub.refl _),ae (λh1=>?_) λh1=>?_⟩
 rotate_left
 ·have h1:i = ss.length:=by have:=Ws h1; omega
  subst h1
  have hkl:=dJ ss
  have hes:=hB.es
  rw [Xz,List.replicate_zero,W2] at hes
  have hA:bn g ss:=⟨⟨by rw [<- hB.ks,hkl],hlen,hB.lt⟩,hB.ks,hes⟩
  have r0:av (hp w11) (aM kt) [.slice o ss.length c,.int .i64 asked,.int .i64 (ss.length:Int)]:=ai 0 h.l
  refine ⟨_,_,_,_,_,r0.at (sub.refl _) rfl,bu (h.pick 6 [4,1,2,3,5]) rfl (by simp [aV]) λw32 h=>⟨_,_,_,_,_,(ai 0 h.l).at (sub.refl _) rfl,.inr (.inr ⟨hc,o,c,ss,hA,?_,?_⟩)⟩⟩
  ·rw [hes,<- hB.ask]
  ·exact St.on (N:=[_,_,_]) (h.pick 5 [1,2,3,4]) (bC gw)
 have h1:i < ss.length:=by have:=Wr h1; omega
 obtain ⟨q,hq⟩ : ∃ q,ss[i]? = some q:=⟨_,Wv h1⟩
 obtain ⟨K,hKq⟩ : ∃ K,K = q.1.2:=⟨_,rfl⟩
 have hK:(b_ g i).1[i]? = some K:=by rw [<- hB.ks]; unfold bL; rw [Wx,hq,hKq]; rfl
 have hI:=di (g:=g) (by omega) i
 have hKm:=Wu hK
 have hKf:=hI.fit K hKm
 have hKd:∀ x∈K,x.dot<=i:=hI.dots i K hK
 have hKl:=xC hP (hI.PC K hKm) hKf λx hx=>by have:=hKd x hx; omega
 have htot:=AZ (g:=g) i
 have htot2:xD (b_ g i).2<=33280:=W0 htot (Yg (show i<=256 by omega) (show g.T + g.N<=130 by omega))
 have hes:=Fz (g:=g) i (by rw [<- hB.ks,dJ]; omega)
 have hkap:∀ q∈ss,q.1.2.length<=29100:=λq hq=>by
  obtain ⟨j,hj⟩:=W3 hq
  have e:(b_ g i).1[j]? = some q.1.2:=by rw [<- hB.ks]; unfold bL; rw [Wx,hj]; rfl
  have hm:=Wu e
  have hjl:=(Wt.1 hj).1
  exact xC hP (hI.PC _ hm) (hI.fit _ hm) λx hx=>by have:=hI.dots j _ e x hx; omega
 have hql:q.1.2.length = K.length:=by rw [hKq]
 have hz16:q.1.2.length * 16<=140737488351232:=by rw [hql]; omega
 intro w12 hd
 have h:=h.eq (aB hd)
 have s12:sub (hp w1) (hp w12):=aU 5 h.l
 have rt:av (hp w12) (aM kt) [.slice o ss.length c,.int .i64 asked,.int .i64 (ss.length:Int)]:=ai 0 h.l
 obtain ⟨ad,rfl,rs,rk0,_⟩:=ui (h.pick 4 [1,2,3]).l i q hq
 have rk:a_ (hp w12) K q.1.1.1 q.1.2.length:=by rw [hKq]; exact rk0
 clear rk0
 refine ⟨λu=>Gr w12 u,Gr.refl _,_,_,_,_,_,_,_,_,_,_,_,_,_,λu s=>B.row (sub.trans s12 s),_,_,_,λu s=>rt.cell0 s,aq rfl h1 ⟨_,_,_,λu s=>rs.cell0 s,(Em (hg.mono s12) hb hc rk hKf hz16).mono ?_⟩⟩
 rintro _ w16 ⟨oc,cc,rfl,h16⟩
 have h:=h16.qk h.l
 have hcl:=xB g K
 refine ⟨_,_,_,rfl,h16.aZ,λz w'=>∃ (s:Nat) (ss' : List SQ) (es:List aP) (o' : YB) (c' : Nat) (asked' : Int),z = s/\1<=s/\s<=g.T + g.N/\xF g K ss' asked' i s es/\ss.length<=ss'.length/\(∀ q∈ss',q.1.2.length<=29300) /\
   St w' (aK kt [.slice o' ss'.length c',.int .i64 asked',.int .i64 (ss'.length:Int)] :: own 2 o' ss'.length c' (wC ss') :: aG (Au ss') :: aG (wD ss') :: own 2 oc (cls g K).length cc (tv (cls g K)) :: aK k2 z3 :: all w1),λz _=>200 - z.toNat,
  ⟨1,ss,[],some ad,c,asked,rfl,WO _,by omega,hB.inner h1 (Oz hc hKf),WO _,λq hq=>W0 (hkap q hq) (by omega),h.pick 5 [1,2,3,4,0]⟩,?_⟩
 clear h h16 rs rk rt hq hKq hql
 rintro _ _ w17 ⟨s,ss',es,o',c',asked',rfl,hs1,hs2,hL,hle,hkap,h⟩
 have hle2:ss'.length<=256:=hL.le
 have hesl:=hL.len hs2
 have s17:sub (hp w1) (hp w17):=aU 6 h.l
 refine ⟨_,_,_,_,_,_,_,_,_,_,_,_,_,B.row s17,(jk (hg.mono s17) hb).mono ?_⟩
 rintro _ w18 ⟨rfl,g18⟩
 have h:=h.gr g18
 refine ⟨_,rfl,ae (λh2=>?_) λh2=>?_⟩
 rotate_left
 ·have h2:s = g.T + g.N:=by have:=Ws h2; omega
  rw [h2] at hL
  exact ⟨⟨by omega,by omega⟩,⟨i + 1,ss',o',c',asked',by simp,by omega,hL.done hB.lt hK,h.pick 6 [0,1,2,3,5]⟩,by dsimp only; omega⟩
 have h2:s < g.T + g.N:=by have:=Wr h2; omega
 have s18:sub (hp w1) (hp w18):=aU 6 h.l
 have hsI:ax ((s:Int) + 1):=⟨by omega,by omega⟩
 have hms:200 - ((s:Int) + 1).toNat < 200 - (s:Int).toNat:=by omega
 have hKk:∀ x∈aF g K (s:Int),jZ g x:=Cb hKf (W7 _)
 have hkl2:(aF g K (s:Int)).length<=(cls g K).length:=ug g _ _
 have hkl3:(aF g K (s:Int)).length<=29300:=W0 hkl2 (W0 hcl (by omega))
 have hcf:xz g (cls g K):=Ri hKf
 refine ⟨_,_,_,_,_,_,_,_,_,_,_,_,_,B.row s18,(TD (s:=(s:Int)) (hg.mono s18) hb (cq (h.pick 5 [4])) hcf (W0 hcl (by omega))).mono ?_⟩
 rintro _ w19 ⟨o24,c24,rfl,h19⟩
 have h:=h19.qk h.l
 have elk:lay (dP g (cls g K) (s:Int)) = aF g K (s:Int):=nY B9
 rw [elk] at h ⊢
 clear h19
 refine ⟨_,_,_,rfl,ae (λh3=>?_) λh3=>?_⟩
 ·have h3:aF g K (s:Int) = []:=by
   have:=eq_of_beq h3
   exact WU (by omega)
  exact ⟨hsI,⟨s + 1,ss',es,o',c',asked',by simp,by omega,h2,hL.skip h3,hle,hkap,h.pick 8 [1,2,3,4,5,6,7]⟩,hms⟩
 have h3:aF g K (s:Int)≠[]:=λe=>by rw [e] at h3; simp at h3
 have hask:=hL.ask
 refine ⟨_,(ai 1 h.l).cell (sub.refl _) (j:=1) rfl,⟨by omega,by omega⟩,?_⟩
 rw [aL]
 refine bj (h.pick 2 [1,0]) (by simp) λw20 h=>?_
 have h:St w20 (aK kt [.slice o' ss'.length c',.int .i64 (asked' + 1),.int .i64 (ss'.length:Int)] :: own 2 o24 (aF g K (s:Int)).length c24 (tv (aF g K (s:Int))) :: own 2 o' ss'.length c' (wC ss') :: aG (Au ss') :: aG (wD ss') :: own 2 oc (cls g K).length cc (tv (cls g K)) :: aK k2 z3 :: all w1):=h
 refine ⟨_,_,_,(ai 0 h.l).cell0 (sub.refl _),(Rl (c:=c') (c2:=c24) (ui (h.pick 5 [2,3,4]).l) (cq (h.pick 2 [1])) (by omega) λq hq=>W0 (hkap q hq) (by decide)).mono ?_⟩
 rintro _ w21 ⟨rfl,e21⟩
 have h:=h.eq e21
 have hnl:=Ck ss' o24 c24 (aF g K (s:Int))
 obtain ⟨q,hq⟩ : ∃ q,ss'[i]? = some q:=⟨_,Wv (by omega)⟩
 have hqe:=hL.get hes hq
 refine ⟨_,rfl,ae (λh4=>?_) λh4=>?_⟩
 rotate_left
 ·have hm:aF g K (s:Int)∈bL ss':=Xv λhn=>by rw [WB hn] at h4; exact absurd (Ws h4) (by decide)
  have hnS:fk ss' o24 c24 (aF g K (s:Int)) = ss':=by unfold fk; rw [WJ hm]
  rw [WJ hm]
  refine OA (h.pick 5 [0,2,4,3]) hq (by rw [hqe]; omega) λw40 E hE h=>?_
  have hn:=hL.next (b:=o24) (d:=c24) (q:=q) h3 (by omega) hes (by rw [hnS]; exact hle2) (by rw [hnS]; exact hq) E (by rw [hE,hqe])
  rw [hnS] at hn
  have e2:=yW hq E
  refine ⟨hsI,⟨s + 1,ss'.set i (q.1,E),E.2,o',c',asked' + 1,by simp,by omega,h2,hn,by rw [W1]; exact hle,λr hr=>?_,?_⟩,hms⟩
  ·rcases Yb hr with hr | rfl
   ·exact hkap r hr
   ·exact hkap q (Wu hq)
  ·rw [W1,e2.2.1]
   exact h.pick 4 [0,1,3,2]
 have hm:aF g K (s:Int)∉bL ss':=λhm=>by
  rw [WJ hm] at h4
  have:=Wr h4; omega
 have hnS:fk ss' o24 c24 (aF g K (s:Int)) = ss' ++ [(((o24,c24),aF g K (s:Int)),((none,0),[]))]:=by unfold fk; rw [WB hm]
 refine ⟨_,_,_,(ai 0 h.l).cell0 (sub.refl _),ae (λh5=>?_) λh5=>?_⟩
 ·have h5:256<=ss'.length:=by have:=Wr h5; omega
  refine bu (h.pick 8 [6,7]) rfl (by simp [aV]) λw22 h=>⟨_,_,_,_,_,(ai 0 h.l).at (sub.refl _) rfl,.inr (.inl ⟨hc,⟨i,K,(dU g K (s + 1)).length,hK,λj hj=>?_,?_⟩,rfl,sub.trans gw (aU 1 h.l)⟩)⟩
  ·by_cases e:j = i
   ·subst e; exact (Wt.1 hK).1
   ·exact hB.lt j (by omega)
  ·rw [<- HK (g:=g) (K:=K) (s:=s + 1) h2,jP,WJ h3,xw,<- hL.ks]
   show 256 < (ql _ _).length
   unfold ql
   rw [WB hm,WA,dJ]; simp; omega
 have h5:ss'.length < 256:=by have:=Ws h5; omega
 refine ⟨_,(ai 0 h.l).cell (sub.refl _) (j:=2) rfl,⟨by omega,by omega⟩,?_⟩
 rw [aL]
 refine bj h (by simp) λw23 h=>⟨_,_,_,(ai 0 h.l).cell0 (sub.refl _),ah h λk62 w24 h=>?_⟩
 have z1:(ss'.length + 1) * 48<=140737488355328/\ss'.length < 9223372036854775807:=by omega
 refine (aN (us:=wC ss') aQ (rfl:aj Ty _ = .slice _) (rfl:aj Ty _ = .slice _) rfl rfl rfl (h.pick 4 [0,3,1,2]) rfl (by simp [aV]) z1.1 z1.2).mono ?_
 rintro _ w25 ⟨o29,c29,rfl,h⟩
 refine ⟨_,_,_,rfl,bj (h.pick 4 [2,0,3]) (by simp) λw26 h=>?_⟩
 have h:St w26 (aK kt [.slice o29 (ss'.length + 1) c29,.int .i64 (asked' + 1),.int .i64 ((ss'.length:Int) + 1)] :: own 2 o29 (ss'.length + 1) c29 (wC ss' ++ [.slice o24 (aF g K (s:Int)).length c24,.slice none 0 0]) :: own 2 o24 (aF g K (s:Int)).length c24 (tv (aF g K (s:Int))) :: aG (Au ss') :: aG (wD ss') :: own 2 oc (cls g K).length cc (tv (cls g K)) :: aK k2 z3 :: all w1):=h
 have h:=St.snoc (h.pick 4 [2,3,0,1])
 have h:=St.snoc ((az 2 h).pick 5 [0,4,1,2,3])
 have h:St w26 (aG (wD ss' ++ [own 2 none 0 0 []]) :: aG (Au ss' ++ [own 2 o24 (aF g K (s:Int)).length c24 (tv (aF g K (s:Int)))]) :: aK kt [.slice o29 (ss'.length + 1) c29,.int .i64 (asked' + 1),.int .i64 ((ss'.length:Int) + 1)] :: own 2 o29 (ss'.length + 1) c29 (wC ss' ++ [.slice o24 (aF g K (s:Int)).length c24,.slice none 0 0]) :: own 2 oc (cls g K).length cc (tv (cls g K)) :: aK k2 z3 :: all w1):=h
 have e3:wC (ss' ++ [(((o24,c24),aF g K (s:Int)),((none,0),[]))]) = wC ss' ++ [.slice o24 (aF g K (s:Int)).length c24,.slice none 0 0]:=by rw [HD]; rfl
 have e4:Au (ss' ++ [(((o24,c24),aF g K (s:Int)),((none,0),[]))]) = Au ss' ++ [own 2 o24 (aF g K (s:Int)).length c24 (tv (aF g K (s:Int)))]:=by simp [Au,dp]
 have e5:wD (ss' ++ [(((o24,c24),aF g K (s:Int)),((none,0),[]))]) = wD ss' ++ [own 2 none 0 0 []]:=by simp [wD,dp,IF]
 have e6:(ss' ++ [(((o24,c24),aF g K (s:Int)),(((none,0),[]):Lq aP))]).length = ss'.length + 1:=by simp
 have e7:((ss'.length:Int) + 1) = ((ss'.length + 1:Nat):Int):=by omega
 have eix:((bL ss').idxOf (aF g K (s:Int)):Nat) = ss'.length:=by rw [List.idxOf_eq_length hm,dJ]
 rw [<- e3,<- e4,<- e5,e7,<- e6] at h
 obtain ⟨q2,hq2⟩ : ∃ q2,(fk ss' o24 c24 (aF g K (s:Int)))[i]? = some q2:=⟨_,Wv (by omega)⟩
 have hq3:=hq2
 rw [hnS] at hq3
 have e8:q2 = q:=by rw [WI (by omega),hq] at hq3; exact (Option.some.inj hq3).symm
 subst e8
 refine OA (t:=(ss'.length:Int)) (h.pick 4 [2,3,0,1]) hq3 (by rw [hqe]; omega) λw40 E hE h=>?_
 have hn:=hL.next (b:=o24) (d:=c24) (q:=q2) h3 (by omega) hes (by rw [hnS,e6]; omega) hq2 E (by rw [hE,hqe,eix])
 rw [hnS] at hn
 have e2:=yW hq3 E
 refine ⟨hsI,⟨s + 1,_,E.2,o29,c29,asked' + 1,by simp,by omega,h2,hn,by rw [W1,e6]; omega,λr hr=>?_,?_⟩,hms⟩
 ·rcases Yb hr with hr | rfl
  ·rcases Wy.1 hr with hr | hr
   ·exact hkap r hr
   ·rw [WW] at hr; subst hr; exact hkl3
  ·exact hkap q2 (Wu hq)
 ·rw [W1,e2.2.1]
  exact h.pick 4 [0,1,3,2]
end Go.Proofs.YtndaepmjkbmjmaaGreatDoor

namespace Go.V
theorem HL {α : Type} [oP α] {h:Hp} {xs:List α} {b:Nat} {vs:List Value} (r:av h ⟨b,0,none⟩ vs) (hx:∀ (i:Nat) x,xs[i]? = some x->rd h x ((vs.drop (i * oP.n α)).take (oP.n α))):a_ h xs (some ⟨b,0,none⟩) xs.length :=
 ⟨rfl,λi x hi=>by
  refine ⟨_,_,rfl,λj v hj=>?_,hx i x hi⟩
  rw [XB] at hj
  split at hj
  ·rw [W8] at hj
   rw [add_add,aJ]
   exact r _ v hj
  ·cases hj⟩
def qY (g:af) (ss:List SQ) (ask int f:Int):Prop :=
 (¬ak g/\ss = []/\ask = 0/\int = 0/\f = 1)\/(ak g/\Q3 g/\ss = []/\ask = 0/\int = 0/\f = 11)\/(ak g/\bn g ss/\ask = 1 + (xD (bz ss):Int)/\int = (ss.length:Int)/\f = 0)
theorem qY.one {g:af} {ss ss' : List SQ} {a i f a' i' f' : Int} (h:qY g ss a i f) (h' : qY g ss' a' i' f'):bL ss = bL ss'/\bz ss = bz ss'/\a = a'/\i = i'/\f = f'/\ss.length = ss'.length:=by
 rcases h with ⟨h1,rfl,rfl,rfl,rfl⟩ | ⟨h1,hb,rfl,rfl,rfl,rfl⟩ | ⟨h1,hA,rfl,rfl,rfl⟩
 ·rcases h' with ⟨h2,rfl,rfl,rfl,rfl⟩ | ⟨h2,_⟩ | ⟨h2,_⟩
  ·exact ⟨rfl,rfl,rfl,rfl,rfl,rfl⟩
  ·exact absurd h2 h1
  ·exact absurd h2 h1
 ·rcases h' with ⟨h2,_⟩ | ⟨h2,_,rfl,rfl,rfl,rfl⟩ | ⟨h2,hA,_⟩
  ·exact absurd h1 h2
  ·exact ⟨rfl,rfl,rfl,rfl,rfl,rfl⟩
  ·exact (Cc hA.dn hb).elim
 ·rcases h' with ⟨h2,_⟩ | ⟨h2,hb,_⟩ | ⟨h2,hA',rfl,rfl,rfl⟩
  ·exact absurd h1 h2
  ·exact (Cc hA.dn hb).elim
  ·have e:=Hu hA.dn hA'.dn
   have e2:bz ss = bz ss':=by rw [hA.es,hA'.es,e]
   refine ⟨by rw [hA.ks,hA'.ks,e],e2,by rw [e2],by rw [e],rfl,e⟩
theorem bn.yX {g:af} {ss:List SQ} (hc:ak g) (h:bn g ss):∀ q∈ss,q.1.2.length<=29100/\q.2.2.length<=130:=λq hq=>by
 obtain ⟨hT,hN,hP,hP2,_,_⟩:=hc.ct
 have hI:=di (g:=g) (by omega) ss.length
 obtain ⟨j,hj⟩:=W3 hq
 have e:(b_ g ss.length).1[j]? = some q.1.2:=by rw [<- h.ks]; unfold bL; rw [Wx,hj]; rfl
 have e2:(b_ g ss.length).2[j]? = some q.2.2:=by rw [<- h.es]; unfold bz; rw [Wx,hj]; rfl
 have hm:=Wu e
 have hjl:=(Wt.1 hj).1
 have h256:=h.dn.2.1
 refine ⟨xC hP (hI.PC _ hm) (hI.fit _ hm) λx hx=>by have:=hI.dots j _ e x hx; omega,?_⟩
 have key:∀ i,∀ es∈(b_ g i).2,es.length<=g.T + g.N:=by
  intro i
  induction i with
  | zero=>intro es hes; simp [b_] at hes
  | succ i ih =>
   intro es hes
   cases hi:(b_ g i).1[i]? with
   | none=>rw [n_ hi] at hes; exact ih es hes
   | some K =>
    rw [d_ hi] at hes
    rcases Wy.1 hes with hes | hes
    ·exact ih es hes
    ·rw [WW] at hes
     subst hes
     rw [kZ]
     have:=W6 (λs=>decide (aF g K (s:Nat)≠[])) (List.range (g.T + g.N))
     rw [XN] at this
     simpa [bD] using this
 have:=key _ _ (Wu e2)
 omega
end Go.V
namespace Go.Proofs.YtndaepmjkbmjmaaGreatDoor
section
variable {w:YC} {L:List ay} {g:af} {x:GA}
theorem Cn (hg:gR (hp w) g x) (hb:ik g):aA Tryz.prog zW [.agg ⟨x.cells⟩] w λv w'=>∃ (o:YB) (c:Nat) (ss:List SQ) (ask int f:Int),v = .tuple #[.agg #[.slice o ss.length c,.int .i64 ask,.int .i64 int],.int .i64 f]/\qY g ss ask int f/\St w' (own 2 o ss.length c (wC ss) :: aG (Au ss) :: aG (wD ss) :: all w):=by
 refine (Re hg hb).mono ?_
 have z:∀ {w' : YC},Gr w w'->St w' (own 2 none 0 0 (wC []) :: aG (Au []) :: aG (wD []) :: all w):=λgr=>az 2 ((St.flat (M:=[])).2 ((St.flat (M:=[])).2 (St.here gr)))
 rintro _ w' (⟨hn,rfl,gr⟩ | ⟨hc,hbig,rfl,gr⟩ | ⟨hc,o,ss,hA,rfl,h⟩)
 ·exact ⟨none,0,[],0,0,1,rfl,.inl ⟨hn,rfl,rfl,rfl,rfl⟩,z gr⟩
 ·exact ⟨none,0,[],0,0,11,rfl,.inr (.inl ⟨hc,hbig,rfl,rfl,rfl,rfl⟩),z gr⟩
 ·exact ⟨o,_,ss,_,_,0,rfl,.inr (.inr ⟨hc,hA,rfl,rfl,rfl⟩),h⟩
theorem HM (hg:gR (hp w) g x) (hb:ik g):aA Tryz.prog jO [.agg ⟨x.cells⟩] w λv w'=>∃ (o:YB) (c:Nat) (ss:List SQ) (ask int f:Int),v = .tuple #[.agg #[.slice o ss.length c,.int .i64 ask,.int .i64 int],.int .i64 f]/\qY g ss ask int f/\St w' (own 2 o ss.length c (wC ss) :: aG (Au ss) :: aG (wD ss) :: all w):=by
 refine (Rm hg hb).mono ?_
 have z:∀ {w' : YC},Gr w w'->St w' (own 2 none 0 0 (wC []) :: aG (Au []) :: aG (wD []) :: all w):=λgr=>az 2 ((St.flat (M:=[])).2 ((St.flat (M:=[])).2 (St.here gr)))
 rintro _ w' (⟨hn,rfl,gr⟩ | ⟨hc,hbig,rfl,gr⟩ | ⟨hc,o,c,ss,hA,rfl,h⟩)
 ·exact ⟨none,0,[],0,0,1,rfl,.inl ⟨hn,rfl,rfl,rfl,rfl⟩,z gr⟩
 ·exact ⟨none,0,[],0,0,11,rfl,.inr (.inl ⟨hc,hbig,rfl,rfl,rfl,rfl⟩),z gr⟩
 ·exact ⟨o,_,ss,_,_,0,rfl,.inr (.inr ⟨hc,hA,rfl,rfl,rfl⟩),h⟩
end
end Go.Proofs.YtndaepmjkbmjmaaGreatDoor


namespace Go.V
section
variable {g:af} {K:cg} {st:List cg} {n i j:Nat}
theorem K7 {k:cg}:(ql st k)[st.idxOf k]? = some k:=by
 unfold ql
 split
 ·rename_i h
  rw [Wv (Yl h),List.getElem_idxOf]
 ·rename_i h
  rw [List.idxOf_eq_length h,WK (WO _),Xz]; rfl
theorem Co:∀ (l:List Nat) (st:List cg) (es:List aP) (k s:Nat),l[k]? = some s->∃ to:Nat,(kK g K l (st,es)).2[es.length + k]? = some ⟨(s:Int),(to:Int)⟩/\(kK g K l (st,es)).1[to]? = some (aF g K (s:Int))
 | [],_,_,_,_,h=>by simp at h
 | a :: l,st,es,0,s,h=>by
  simp at h; subst h
  refine ⟨st.idxOf (aF g K (a:Int)),?_,?_⟩
  ·show (kK g K l (ql st (aF g K (a:Int)),es ++ [⟨(a:Int),_⟩])).2[es.length + 0]? = _
   have pre:∀ (l:List Nat) (st:List cg) (es:List aP) (k:Nat) e,es[k]? = some e->(kK g K l (st,es)).2[k]? = some e:=by
    intro l
    induction l with
    | nil=>exact λst es k e h=>h
    | cons b l ih =>
     intro st es k e h
     exact ih _ _ k e (by rw [WI (Wt.1 h).1]; exact h)
   exact pre l _ _ _ _ (by rw [Nat.add_zero,WK (WO _),Xz]; rfl)
  ·show (kK g K l (ql st (aF g K (a:Int)),es ++ [⟨(a:Int),_⟩])).1[_]? = _
   exact sM l _ _ _ _ K7
 | a :: l,st,es,k + 1,s,h=>by
  obtain ⟨to,h1,h2⟩:=Co l (ql st (aF g K (a:Int))) (es ++ [⟨(a:Int),((st.idxOf (aF g K (a:Int)):Nat):Int)⟩]) k s (by simpa using h)
  refine ⟨to,?_,h2⟩
  rw [WA,Yr] at h1
  rw [show es.length + (k + 1) = es.length + 1 + k by omega]
  exact h1
theorem Mu {i n:Nat} (h:i<=n) (j:Nat) (e:List aP) (he:(b_ g i).2[j]? = some e):(b_ g n).2[j]? = some e:=by
 induction h with
 | refl=>exact he
 | @step m _ ih =>
  cases hi:(b_ g m).1[m]? with
  | none=>rw [n_ hi]; exact ih
  | some K=>rw [d_ hi,WI (Wt.1 ih).1]; exact ih
theorem fl {ss:List SQ} (h:bn g ss) {i:Nat} {q:SQ} (hq:ss[i]? = some q):(b_ g i).1[i]? = some q.1.2/\q.2.2 = (kK g q.1.2 (bD g q.1.2) ((b_ g i).1,[])).2/\∀ (j:Nat) K,(b_ g (i + 1)).1[j]? = some K->∃ r,ss[j]? = some r/\r.1.2 = K:=by
 have hil:=(Wt.1 hq).1
 have hlt:=h.dn.2.2 i hil
 have e1:(b_ g ss.length).1[i]? = some q.1.2:=by rw [<- h.ks]; unfold bL; rw [Wx,hq]; rfl
 obtain ⟨K,hK⟩ : ∃ K,(b_ g i).1[i]? = some K:=⟨_,Wv hlt⟩
 have e2:=xx (Nat.le_of_lt hil) i K hK
 rw [e1] at e2
 cases e2
 refine ⟨hK,?_,λj K' hj=>?_⟩
 ·have hb:=d_ hK
  have hes:=Fz (g:=g) i (by omega)
  have e3:(b_ g (i + 1)).2[i]? = some (kK g q.1.2 (bD g q.1.2) ((b_ g i).1,[])).2:=by
   rw [hb,WK (by omega),hes,Xz]; rfl
  have e4:=Mu hil i _ e3
  rw [<- h.es] at e4
  unfold bz at e4
  rw [Wx,hq] at e4
  exact Option.some.inj e4
 ·have e5:=xx hil j K' hj
  rw [<- h.ks] at e5
  unfold bL at e5
  rw [Wx] at e5
  cases hr:ss[j]? with
  | none=>rw [hr] at e5; cases e5
  | some r=>rw [hr] at e5; exact ⟨r,rfl,Option.some.inj e5⟩
theorem bn.pos {ss:List SQ} (h:bn g ss):0 < ss.length:=by
 refine Ys λh0=>?_
 have:=h.dn.1
 rw [h0] at this
 simp [b_] at this
end
section
variable {g:af} {K K' : cg} {s s' : Int} {ss:List SQ}
theorem OB (h:aF g K s = aF g K' s') (hne:aF g K s≠[]):s = s':=by
 obtain ⟨x,hx⟩:=XP _ hne
 have hx':=hx
 rw [h] at hx'
 obtain ⟨y,_,h1,rfl⟩:=cJ.1 hx
 obtain ⟨z,_,h2,e⟩:=cJ.1 hx'
 injection e with e1 e2
 have:y = z:=ag.ext' e1 (by omega)
 rw [<- h1,<- h2,this]
theorem K8:∀ (l:List Nat) (st:List cg) (es:List aP) (j:Nat) (L:cg),st.length<=j->(kK g K l (st,es)).1[j]? = some L->∃ k s:Nat,l[k]? = some s/\L = aF g K (s:Int)/\(kK g K l (st,es)).2[es.length + k]? = some ⟨(s:Int),(j:Int)⟩
 | [],st,es,j,L,hj,h=>by
  have:=(Wt.1 h).1
  have h2:(kK g K [] (st,es)).1.length = st.length:=rfl
  omega
 | a :: l,st,es,j,L,hj,h=>by
  by_cases hlt:(ql st (aF g K (a:Int))).length<=j
  ·obtain ⟨k,s,h1,h2,h3⟩:=K8 l (ql st (aF g K (a:Int))) (es ++ [(⟨(a:Int),((st.idxOf (aF g K (a:Int)):Nat):Int)⟩ : aP)]) j L hlt h
   refine ⟨k + 1,s,by simpa using h1,h2,?_⟩
   rw [WA,Yr] at h3
   rw [show es.length + (k + 1) = es.length + 1 + k by omega]
   exact h3
  ·have hn:aF g K (a:Int)∉st:=λhm=>by
    have:(ql st (aF g K (a:Int))).length = st.length:=by unfold ql; rw [WJ hm]
    omega
   have hlen:(ql st (aF g K (a:Int))).length = st.length + 1:=by unfold ql; rw [WB hn]; simp
   have hjs:j = st.length:=by omega
   obtain ⟨to,h1,h2⟩:=Co (g:=g) (K:=K) (a :: l) st es 0 a rfl
   have e:st.idxOf (aF g K (a:Int)) = st.length:=List.idxOf_eq_length hn
   have hj2:(ql st (aF g K (a:Int)))[j]? = some (aF g K (a:Int)):=by rw [hjs,<- e]; exact K7
   have hL:=sM l (ql st (aF g K (a:Int))) (es ++ [(⟨(a:Int),((st.idxOf (aF g K (a:Int)):Nat):Int)⟩ : aP)]) j _ hj2 (g:=g) (K:=K)
   have h:(kK g K l (ql st (aF g K (a:Int)),es ++ [(⟨(a:Int),((st.idxOf (aF g K (a:Int)):Nat):Int)⟩ : aP)])).1[j]? = some L:=h
   rw [hL] at h
   refine ⟨0,a,rfl,(Option.some.inj h).symm,?_⟩
   have pre:∀ (l:List Nat) (st:List cg) (es:List aP) (k:Nat) e,es[k]? = some e->(kK g K l (st,es)).2[k]? = some e:=by
    intro l
    induction l with
    | nil=>exact λst es k e h=>h
    | cons b l ih =>
     intro st es k e h
     exact ih _ _ k e (by rw [WI (Wt.1 h).1]; exact h)
   show (kK g K l (ql st (aF g K (a:Int)),es ++ [⟨(a:Int),_⟩])).2[es.length + 0]? = _
   exact pre l _ _ _ _ (by rw [Nat.add_zero,WK (WO _),Xz,hjs,e]; rfl)
theorem fm (hc:ak g) (h:bn g ss) {i:Nat} {q:SQ} (hq:ss[i]? = some q) {m:Nat} {e:aP} (he:q.2.2[m]? = some e):1<=e.sym/\e.sym < g.T + g.N/\∃ (j:Nat) (r:SQ),e.to = j/\1<=j/\ss[j]? = some r/\r.1.2 = aF g q.1.2 e.sym/\aF g q.1.2 e.sym≠[]:=by
 obtain ⟨hK,hE,hto⟩:=fl h hq
 obtain ⟨_,_,_,hP2,_,_⟩:=hc.ct
 have hI:=di (g:=g) (by omega) i
 have hKf:=hI.fit _ (Wu hK)
 have hml:m < (bD g q.1.2).length:=by
  have:=(Wt.1 he).1
  rw [hE,kZ] at this
  simpa using this
 obtain ⟨to,h1,h2⟩:=Co (g:=g) (K:=q.1.2) (bD g q.1.2) (b_ g i).1 [] m _ (Wv hml)
 rw [<- hE] at h1
 have h1:q.2.2[m]? = some ⟨(((bD g q.1.2)[m] : Nat):Int),(to:Int)⟩:=by simpa using h1
 rw [he] at h1
 have h1:=Option.some.inj h1
 have hne:=ud (g:=g) (K:=q.1.2) _ (List.getElem_mem hml)
 obtain ⟨r,hr,hrK⟩:=hto to _ (by rw [d_ hK]; exact h2)
 have hsy:=s_ hc hKf (W7 _) hne
 rw [h1]
 refine ⟨hsy.1,hsy.2,to,r,rfl,Ys λh0=>?_,hr,hrK,hne⟩
 subst h0
 have e0:(b_ g ss.length).1[0]? = some [⟨0,0⟩]:=xx (WC _) 0 _ rfl
 rw [<- h.ks] at e0
 unfold bL at e0
 rw [Wx,hr] at e0
 have e0:r.1.2 = [⟨0,0⟩]:=Option.some.inj e0
 rw [hrK] at e0
 have hm:(⟨0,0⟩ : ag)∈aF g q.1.2 (((bD g q.1.2)[m] : Nat):Int):=by rw [e0]; simp
 obtain ⟨y,hy,_,e⟩:=cJ.1 hm
 injection e with _ e2
 have:=(hy.fit hKf).2.1
 omega
theorem HN (hc:ak g) (h:bn g ss) {j:Nat} (hj:1<=j) (hjl:j < ss.length):∃ (i:Nat) (q:SQ) (m:Nat) (e:aP),i < j/\ss[i]? = some q/\q.2.2[m]? = some e/\e.to = j:=by
 have key:∀ n,n<=ss.length->j < (b_ g n).1.length->∃ (i:Nat) (K:cg),i < n/\(b_ g i).1[i]? = some K/\(b_ g i).1.length<=j/\j < (b_ g (i + 1)).1.length:=by
  intro n
  induction n with
  | zero=>intro _ h2; have:(b_ g 0).1.length = 1:=rfl; omega
  | succ n ih =>
   intro hn h2
   by_cases h3:j < (b_ g n).1.length
   ·obtain ⟨i,K,h4,h5⟩:=ih (by omega) h3
    exact ⟨i,K,by omega,h5⟩
   ·exact ⟨n,_,Nat.lt_succ_self n,Wv (h.dn.2.2 n (by omega)),by omega,h2⟩
 obtain ⟨i,K,h1,h2,h3,h4⟩:=key ss.length (WO _) (by rw [h.dn.1]; exact hjl)
 have hil:i < ss.length:=h1
 obtain ⟨q,hq⟩ : ∃ q,ss[i]? = some q:=⟨_,Wv hil⟩
 obtain ⟨hK,hE,_⟩:=fl h hq
 rw [h2] at hK
 cases hK
 have hlt:=h.dn.2.2 i hil
 rw [d_ h2] at h4
 obtain ⟨m,s,h5,h6,h7⟩:=K8 (g:=g) (bD g q.1.2) (b_ g i).1 [] j _ h3 (Wv h4)
 exact ⟨i,q,m,_,by omega,hq,by rw [hE]; simpa using h7,rfl⟩
noncomputable def UU (g:af) (ss:List SQ) (j:Nat):Int:=Classical.epsilon λs:Int=>∃ (r:SQ) (K:cg),ss[j]? = some r/\(∀ x∈K,jZ g x)/\r.1.2 = aF g K s/\aF g K s≠[]/\1<=s
theorem Rn {j:Nat} {r:SQ} {K:cg} {s:Int} (hr:ss[j]? = some r) (hf:∀ x∈K,jZ g x) (hk:r.1.2 = aF g K s) (hne:aF g K s≠[]) (hs:1<=s):UU g ss j = s:=by
 obtain ⟨r',K',h1,_,h2,h3,_⟩:=Classical.epsilon_spec (p:=λs:Int=>∃ (r:SQ) (K:cg),ss[j]? = some r/\(∀ x∈K,jZ g x)/\r.1.2 = aF g K s/\aF g K s≠[]/\1<=s) ⟨s,r,K,hr,hf,hk,hne,hs⟩
 rw [hr] at h1
 cases h1
 show Classical.epsilon _ = s
 exact OB (h2.symm.trans hk) h3
theorem Ro (hc:ak g) (h:bn g ss) {j:Nat} (hj:1<=j) {r:SQ} (hr:ss[j]? = some r) {x:ag} (hx:x∈r.1.2):0<=x.prod/\1<=x.dot/\∃ p,g.prods[x.prod.toNat]? = some p/\x.dot<=p.right.length/\p.right[(x.dot - 1).toNat]? = some (UU g ss j):=by
 obtain ⟨i,q,m,e,hij,hq,he,hto⟩:=HN hc h hj (Wt.1 hr).1
 obtain ⟨h1,h2,j',r',e1,_,hr',hk,hne⟩:=fm hc h hq he
 have:j' = j:=by omega
 subst this
 rw [hr] at hr'
 cases hr'
 obtain ⟨hK,_⟩:=fl h hq
 obtain ⟨_,_,_,hP2,_,_⟩:=hc.ct
 have hKf:=(di (g:=g) (by omega) i).fit _ (Wu hK)
 rw [Rn hr hKf hk hne h1]
 rw [hk] at hx
 obtain ⟨y,hy,ha,rfl⟩:=cJ.1 hx
 obtain ⟨p,hp,h3,h4⟩:=Ca (hy.fit hKf) ha (by omega)
 have hyf:=hy.fit hKf
 refine ⟨hyf.1,by have:=hyf.2.1; show 1<=y.dot + 1; omega,p,hp,by show y.dot + 1<=_; omega,?_⟩
 show p.right[(y.dot + 1 - 1).toNat]? = _
 rw [show y.dot + 1 - 1 = y.dot by omega]
 exact h4
end
class kf (κ : Type) extends MVal κ where
 a:κ->Int
 b:κ->Int
 val2:∀ k,toMVal.val k = .agg ⟨[.int .i64 (a k),.int .i64 (b k)]⟩
 ext:∀ k l,a k = a l->b k = b l->k = l
section
variable {P:Program} {κ : Type} [DecidableEq κ] [kf κ] {kt ti:TypeId} {f0 f1:Field}
structure Ut (P:Program) (kt ti:TypeId) (f0 f1:Field):Prop where
 ht:P.underlying kt = some (.struct (P.fieldsOf kt))
 hf:P.fieldsOf kt = #[f0,f1]
 hi:P.underlying ti = some (.int .i64)
 ht0:f0.type = ti
 ht1:f1.type = ti
 n0 : f0.name ≠ "_"
 n1 : f1.name ≠ "_"
 o0:f0.offset = 0
 o1:f1.offset = 1
 sih:P.stoodInHeld kt = false
theorem JK (T:Ut P kt ti f0 f1) (w:YC) (x y u v:Int):(Op.equal kt (.agg #[.int .i64 x,.int .i64 y]) (.agg #[.int .i64 u,.int .i64 v])).run P w = .ok (decide (x = u/\y = v)) w:=by
 have p0:∀ (v u:Value) (w:YC),(part ti #[v,u] 0).run P w = .ok v w:=λv u w=>by simp [part,dz T.hi,dZ,Kd.isAgg]
 have p1:∀ (v u:Value) (w:YC),(part ti #[v,u] 1).run P w = .ok u w:=λv u w=>by simp [part,dz T.hi,dZ,Kd.isAgg]
 have eqI:∀ n m d w,(Op.equalIn (d + 1) ti (.int .i64 n) (.int .i64 m)).run P w = .ok (n == m) w:=λn m d w=>run_equalIn_int w d _ _ _ _ _ T.hi
 show (Op.equalIn (9998 + 1 + 1) kt _ _).run P w = _
 rw [run_equalIn_agg w (9998 + 1) kt _ _ T.ht T.sih,T.hf]
 have n0:=T.n0
 have n1:=T.n1
 have e:decide (x = u/\y = v) = (x == u && y == v):=by
  rw [Xh]; simp
 rw [e]
 unfold Op.eqFields
 simp only [ne_eq,n0,not_false_eq_true,if_true,Sem.run_bind,T.ht0,T.o0,p0,Result.andThen_ok,eqI]
 cases hq:(x == u)
 ·simp
 ·unfold Op.eqFields
  simp only [ne_eq,n1,not_false_eq_true,if_true,Sem.run_bind,T.ht1,T.o1,p1,Result.andThen_ok,eqI,Bool.not_true,X0,if_false]
  cases hn:(y == v)
  ·simp
  ·unfold Op.eqFields; simp
theorem HO (T:Ut P kt ti f0 f1) (w:YC) (k:κ):∀ (es:List MapEntry) (m:List (κ × Value)) (i:Nat),es.map (λe=>(e.key,e.val)) = m.map (λx=>(MVal.val x.1,x.2)) ->
  ∃ r,(Instr.findAsking kt (MVal.val k) es i).run P w = .ok r w/\(r.map (·.2)) = assoc k m/\(∀ j v,r = some (j,v)->i<=j/\j < i + m.length/\(m[j - i]?).map (·.1) = some k/\∀ u,bK k u m = m.set (j - i) (k,u))/\(r = none->∀ u,bK k u m = m ++ [(k,u)])
 | [],[],i,_=>⟨none,rfl,rfl,λj v h=>(by cases h),λ_ u=>rfl⟩
 | [],_ :: _,i,h=>by simp at h
 | _ :: _,[],i,h=>by simp at h
 | e :: es,(a,v) :: m,i,h=>by
  simp only [Xf,List.cons.injEq,Prod.mk.injEq] at h
  obtain ⟨⟨h1,h2⟩,h3⟩:=h
  have he:(Op.equal kt (MVal.val k) e.key).run P w = .ok (decide (k = a)) w:=by
   rw [h1,kf.val2,kf.val2]
   have:=JK T w (kf.a k) (kf.b k) (kf.a a) (kf.b a)
   have e2:decide (kf.a k = kf.a a/\kf.b k = kf.b a) = decide (k = a):=decide_eq_decide.2 ⟨λ⟨h1,h2⟩=>kf.ext k a h1 h2,λh=>by rw [h]; exact ⟨rfl,rfl⟩⟩
   rw [e2] at this
   exact this
  unfold Instr.findAsking
  simp only [Sem.run_bind,he,Result.andThen_ok]
  by_cases hk:k = a
  ·subst hk
   refine ⟨some (i,e.val),by simp,by simp [assoc,h2],λj u hj=>?_,λhn=>by cases hn⟩
   cases hj
   simp [bK]
  ·obtain ⟨r,q1,q2,q3,q4⟩:=HO T w k es m (i + 1) h3
   refine ⟨r,by simp [hk,q1],by simp [assoc,hk,q2],λj u hj=>?_,λhn u=>by simp [bK,hk,q4 hn u]⟩
   obtain ⟨p1,p2,p3,p4⟩:=q3 j u hj
   have e1:j - i = (j - (i + 1)) + 1:=by omega
   refine ⟨by omega,by simp; omega,by rw [e1]; simpa using p3,λu=>by rw [e1]; simp [bK,hk,p4 u]⟩
theorem sD.two (T:Ut P kt ti f0 f1):sD P kt κ where
 check:=λw em k=>by
  rw [kf.val2]
  have hd:=T.ht
  rw [T.hf] at hd
  have p0:∀ (v u:Value) (w:YC),(part ti #[v,u] 0).run P w = .ok v w:=λv u w=>by simp [part,dz T.hi,dZ,Kd.isAgg]
  have p1:∀ (v u:Value) (w:YC),(part ti #[v,u] 1).run P w = .ok u w:=λv u w=>by simp [part,dz T.hi,dZ,Kd.isAgg]
  have ci:∀ (n:Nat) (z:Int) (w:YC),(Instr.checkKey em (n + 1) ti (.int .i64 z)).run P w = .ok () w:=λn z w=>MapKept.run_checkKey (P:=P) (w:=w) T.hi (by exact rfl) em n
  show (Instr.checkKey em (9998 + 1 + 1) kt _).run P w = _
  unfold Instr.checkKey
  simp only [Sem.run_bind,run_underlying hd,Result.andThen_ok]
  have n0:=T.n0
  have n1:=T.n1
  simp [n0,n1,T.ht0,T.ht1,T.o0,T.o1,Sem.run_bind,p0,p1,ci]
 find:=λw k es m he=>by
  obtain ⟨r,q1,q2,q3,q4⟩:=HO T w k es m 0 he
  refine ⟨r,?_,q2,λj v hj=>?_,q4⟩
  ·have hd:=T.ht
   cases es with
   | nil =>
    cases m with
    | nil=>simp [Instr.findKey,run_underlying hd,Instr.findNow]; unfold Instr.findAsking at q1; simpa using q1
    | cons _ _=>simp at he
   | cons e es =>
    have hn:Instr.findNow (.struct (P.fieldsOf kt)) (MVal.val k) (e :: es) 0 = none:=by
     unfold Instr.findNow
     simp [Instr.sameNow]
    simp only [Instr.findKey,Sem.run_bind,run_underlying hd,Result.andThen_ok,hn]
    exact q1
  ·obtain ⟨_,p2,p3,p4⟩:=q3 j v hj
   rw [Nat.sub_zero] at p3 p4
   exact ⟨by omega,p3,p4⟩
 bits:=λk=>by rw [kf.val2]; simp [Instr.sameBits]
end
structure au where
 st:Int
 sym:Int
deriving DecidableEq
instance:Inhabited au:=⟨⟨0,0⟩⟩
instance:oP au:={ n:=2,rd:=λ_ x vs=>vs = [.int .i64 x.st,.int .i64 x.sym],mono:=λ_ h=>h,len:=λh=>by rw [h]; rfl }
instance:kf au:={ val:=λk=>.agg ⟨[.int .i64 k.st,.int .i64 k.sym]⟩,inj:=λa b h=>by cases a; cases b; simp at h; obtain ⟨h1,h2⟩:=h; subst h1; subst h2; rfl,a:=au.st,b:=au.sym,val2:=λ_=>rfl,ext:=λk l h1 h2=>by cases k; cases l; cases h1; cases h2; rfl }
def Cp (x:au):List Value:=[.int .i64 x.st,.int .i64 x.sym]
def Eo (xs:List au):List Value:=xs.flatMap Cp
theorem Rp (xs:List au):(Eo xs).length = xs.length * 2:=mS (f:=Cp) (n:=2) (λ_=>rfl) xs
theorem Rq (xs ys:List au):Eo (xs ++ ys) = Eo xs ++ Eo ys:=Xe
theorem A2 {h:Hp} {xs:List au} {a:YB} {l:Nat} (hl:xs.length = l) (r:eJ a (Eo xs) h):a_ h xs a l:=by
 refine ⟨hl,λi x hx=>?_⟩
 rcases r with e | ⟨ad,rfl,hc⟩
 ·have h1:=congrArg List.length e
  rw [Rp,Xk] at h1
  have:=(Wt.1 hx).1; omega
 ·exact ⟨ad,Cp x,rfl,bQ (n:=2) (λ_=>rfl) xs ad hc i x hx,rfl⟩
theorem tj {h:Hp} {xs:List au} {a:YB} {l:Nat} (r:a_ h xs a l) {i:Nat} (hi:i < l):∃ x ad,xs[i]? = some x/\a = some ad/\av h (ad.add (cY i 2)) (Cp x):=by
 obtain ⟨x,ad,vs,hx,ha,hr,e⟩:=r.get hi
 rw [show vs = Cp x from e] at hr
 exact ⟨x,ad,hx,ha,hr⟩
def eW (ss:List SQ) (i:Nat) (s:Int):Option Int:=match ss[i]? with
 | none=>none
 | some q=>(q.2.2.find? λe=>decide (e.sym = s)).map (·.to)
def fo (g:af) (i:Nat) (es:List aP):List au:=(es.filter λe=>decide ((g.T:Int)<=e.sym)).map λe=>⟨(i:Int),e.sym⟩
def uj (g:af) (ss:List SQ):Nat->List au
 | 0=>[]
 | i + 1=>uj g ss i ++ (match ss[i]? with | some q=>fo g i q.2.2 | none=>[])
def bm (g:af) (ss:List SQ):List au:=uj g ss ss.length
def il (g:af) (ss:List SQ) (t:au):List Int :=
 (if t = ⟨0,g.start⟩ then [0] else []) ++ (match eW ss t.st.toNat t.sym with
  | none=>[]
  | some j=>(match ss[j.toNat]? with | none=>[] | some q=>(q.2.2.filter λe=>decide (e.sym < (g.T:Int))).map (·.sym)))
def b9 (ss:List SQ):Int->List Int->Int
 | q,[]=>q
 | q,s :: l=>match eW ss q.toNat s with
  | none=>-1
  | some j=>b9 ss j l
section
variable {g:af} {ss:List SQ}
theorem oh {i:Nat} {q:SQ} (hq:ss[i]? = some q):uj g ss (i + 1) = uj g ss i ++ fo g i q.2.2:=by
 show uj g ss i ++ (match ss[i]? with | some q=>fo g i q.2.2 | none=>[]) = _
 rw [hq]
theorem Ep {i:Nat} {es:List aP} {e:aP}:fo g i (es ++ [e]) = if (g.T:Int)<=e.sym then fo g i es ++ [⟨(i:Int),e.sym⟩] else fo g i es:=by
 unfold fo
 rw [W5,WZ]
 by_cases h:(g.T:Int)<=e.sym <;> simp [h]
theorem om {i:Nat} {q:SQ} (hq:ss[i]? = some q) (s:Int):eW ss i s = (q.2.2.find? λe=>decide (e.sym = s)).map (·.to):=by unfold eW; rw [hq]
theorem Cq (h:bn g ss) {i:Nat} {q:SQ} (hq:ss[i]? = some q):q.2.2.map (·.sym) = (bD g q.1.2).map Int.ofNat:=by
 obtain ⟨hK,hE,_⟩:=fl h hq
 have key:∀ (l:List Nat) (st:List cg) (es:List aP),(kK g q.1.2 l (st,es)).2.map (·.sym) = es.map (·.sym) ++ l.map Int.ofNat:=by
  intro l
  induction l with
  | nil=>intro st es; simp [kK]
  | cons a l ih =>
   intro st es
   show (kK g q.1.2 l _).2.map _ = _
   rw [ih]; simp
 have:=key (bD g q.1.2) (b_ g i).1 []
 rw [<- hE] at this
 simpa using this
theorem K9:∀ {es:List aP} {k:Nat} {e:aP},(es.map (·.sym)).Nodup->es[k]? = some e->(es.find? λx=>decide (x.sym = e.sym)) = some e
 | [],k,e,_,h=>by simp at h
 | x :: es,0,e,_,h=>by simp at h; subst h; simp
 | x :: es,k + 1,e,hn,h=>by
  rw [Xf,Xp] at hn
  have h:es[k]? = some e:=by simpa using h
  have hne:x.sym≠e.sym:=λe2=>hn.1 (by rw [e2]; exact WS.2 ⟨e,Wu h,rfl⟩)
  rw [List.find?_cons,Xm hne]
  exact K9 hn.2 h
theorem Cr (h:bn g ss) {i:Nat} {q:SQ} (hq:ss[i]? = some q):(q.2.2.map (·.sym)).Nodup:=by
 rw [Cq h hq,Xi,Xn]
 exact (vM g q.1.2).imp λh e=>by simp at e; omega
theorem oq (h:bn g ss) {i:Nat} {q:SQ} (hq:ss[i]? = some q) {k:Nat} {e:aP} (he:q.2.2[k]? = some e):eW ss i e.sym = some e.to:=by
 rw [om hq,K9 (Cr h hq) he]; rfl
theorem pG {i:Nat} {s:Int} {j:Int} (h:eW ss i s = some j):∃ (q:SQ) (k:Nat) (e:aP),ss[i]? = some q/\q.2.2[k]? = some e/\e.sym = s/\e.to = j:=by
 unfold eW at h
 cases hq:ss[i]? with
 | none=>rw [hq] at h; cases h
 | some q =>
  rw [hq] at h
  simp only [Yn] at h
  obtain ⟨e,he,rfl⟩:=h
  obtain ⟨k,hk⟩:=W3 (List.mem_of_find?_eq_some he)
  have:=List.find?_some he
  exact ⟨q,k,e,rfl,hk,Wr this,rfl⟩
end
end Go.V
namespace Go.Proofs.YtndaepmjkbmjmaaGreatDoor
def mW:bg:={ rngs:=[],loops:=[],joins:=[],blocks:=[] }
theorem dr {a:YB} {b c:Nat} {w:YC} {R:Value->WP} (h:uw a b c none (some (b:Int)) (some (b:Int)) 1 λ(o1:YB) (k1 k2:Nat)=>R (vS o1 k1 k2) w):aA Tryz.prog 107 [(.slice a b c)] w R:=rv Tryz.func107 mW (by kernel_rfl) h
def gU:bg:={ rngs:=[],loops:=[],joins:=[],blocks:=[] }
theorem gV {a:YB} {b c:Nat} {w:YC} {R:Value->WP} (h:uw a b c none (some (b:Int)) (some (b:Int)) 3 λ(o1:YB) (k1 k2:Nat)=>R (vS o1 k1 k2) w):aA Tryz.prog 108 [(.slice a b c)] w R:=rv Tryz.func108 gU (by kernel_rfl) h
abbrev lu:FuncId:=158
def yY:bg:={ rngs:=[],loops:=[(6,[(6,(.one .slice)),(23,(.one (.int .i64)))]),(12,[(9,(.one .slice)),(50,(.one (.int .i64)))])],joins:=[(11,[(9,(.one .slice))])],blocks:=[] }
theorem yZ {a:YB} {b c:Nat} {d:YB} {e f:Nat} {g:YB} {i j:Nat} {k:Int} {l:YB} {m n:Nat} {w:YC} {R:Value->WP} (h:new w (oC [vS a b c,vS d e f,vS g i j,iI k,vS l m n] 27) λk1 w1=>∃ o1 k2 k3 o2 k4 k5 o3 k6 k7 n1 o4 k8 k9,rA w1 (aM k1) 5 [vS o1 k2 k3,vS o2 k4 k5,vS o3 k6 k7,iI n1,vS o4 k8 k9]/\rE 200 [vG [vS o1 k2 k3,vS o2 k4 k5,vS o3 k6 k7,iI n1,vS o4 k8 k9]] w1 λv1 w2=>∃ o5 n2,v1 = vU [vP o5,iI n2]/\br (n2 != 0) (R (vU [vS none 0 0,iI n2]) w2) (rE 201 [vP o5] w2 λv2 w3=>∃ o6 k10 k11,v2 = vS o6 k10 k11/\∃ (x1:lP [(6,fX),(23,aD)]),∃ (x2:lN [(6,fX),(23,aD)]),x1 none 0 0 0 w3/\∀ (I1:Nat->Value) (o7:YB) (k12 k13:Nat) (n3:Int) (w4:YC),x1 o7 k12 k13 n3 w4->br (decide (n3 < (k10:Int))) (idx o6 k10 n3 2 λa1=>∃ n4 n5,rA w4 a1 2 [iI n4,iI n5]/\new w4 (oC [iI 0,iI 0] 184) λk14 w5=>fL w5 (aM k14) [iI n4,iI n5] λw6=>∃ (x3:lP [(9,fX)]),(∃ n6 n7,rA w6 (aM k14) 2 [iI n6,iI n7]/\∃ n8,cL w6 (Addr.add (aM k1) 3) (iI n8)/\∃ v3,Sem.run Proofs.Tryz.prog (iB BinOp.eql 184 (Operand.tmp 27) (Operand.tmp 30) (vG [iI n6,iI n7]) (vG [iI 0,iI n8])) w6 = Result.ok v3 w6/\∃ b1,v3 = vB b1/\br b1 (new w6 (oC [iI 0] 3) λk15 w7=>rS (ir 24 (Array.mk [vS none 0 0,vS (some (aM k15)) 1 1])) w7 λv4 w8=>∃ o8 k16 k17,v4 = vS o8 k16 k17/\x3 o8 k16 k17 w8) (x3 none 0 0 w6))/\∀ (I2:Nat->Value) (o9:YB) (k18 k19:Nat) (w9:YC),x3 o9 k18 k19 w9->∀ w10,drawn w9 w10->∃ (I3:WP),I3 w10/\nn o5 λa2=>∃ o10 k20 k21,(∀ w11,I3 w11->cL w11 (Addr.add a2 5) (vS o10 k20 k21))/\nn o5 λa3=>∃ o11,(∀ w12,I3 w12->cL w12 (Addr.add a3 8) (Value.map o11))/\∃ n9 n10,(∀ w13,I3 w13->rA w13 (aM k14) 2 [iI n9,iI n10])/\aX Proofs.Tryz.prog (Instr.lookup 180 (Value.map o11) (vG [iI n9,iI n10]) false) w10 λv5 w14=>∃ n11,v5 = iI n11/\∃ (I4:WP),I4 w14/\(∀ w15,I4 w15->I3 w15)/\idx o10 k20 n11 2 λa4=>∃ o12 k22 k23,(∀ w16,I4 w16->cL w16 (Addr.add a4 1) (vS o12 k22 k23))/\∃ (x4:lP [(9,fX),(50,aD)]),∃ (x5:lN [(9,fX),(50,aD)]),x4 o9 k18 k19 0 w14/\∀ (I5:Nat->Value) (o13:YB) (k24 k25:Nat) (n12:Int) (w17:YC),x4 o13 k24 k25 n12 w17->br (decide (n12 < (k22:Int))) (idx o12 k22 n12 2 λa5=>∃ n13 n14,rA w17 a5 2 [iI n13,iI n14]/\new w17 (oC [iI 0,iI 0] 56) λk26 w18=>fL w18 (aM k26) [iI n13,iI n14] λw19=>∃ n15,cL w19 (aM k26) (iI n15)/\∃ o14 k27 k28,cL w19 (aM k1) (vS o14 k27 k28)/\br (decide (n15 < (k27:Int))) (∃ n16,cL w19 (aM k26) (iI n16)/\new w19 (oC [iI n16] 3) λk29 w20=>rS (ir 24 (Array.mk [vS o13 k24 k25,vS (some (aM k29)) 1 1])) w20 λv6 w21=>∃ o15 k30 k31,v6 = vS o15 k30 k31/\ax (n12 + 1)/\x4 o15 k30 k31 (n12 + 1) w21/\x5 o15 k30 k31 (n12 + 1) w21 < x5 o13 k24 k25 n12 w17) (ax (n12 + 1)/\x4 o13 k24 k25 (n12 + 1) w19/\x5 o13 k24 k25 (n12 + 1) w19 < x5 o13 k24 k25 n12 w17)) (rE 107 [vS o13 k24 k25] w17 λv7 w22=>∃ o16 k32 k33,v7 = vS o16 k32 k33/\new w22 (oC [vS o16 k32 k33] 24) λk34 w23=>rS (ir 71 (Array.mk [vS o7 k12 k13,vS (some (aM k34)) 1 1])) w23 λv8 w24=>∃ o17 k35 k36,v8 = vS o17 k35 k36/\ax (n3 + 1)/\x1 o17 k35 k36 (n3 + 1) w24/\x2 o17 k35 k36 (n3 + 1) w24 < x2 o7 k12 k13 n3 w4)) (rE 202 [vS o7 k12 k13] w4 λv9 w25=>∃ o18 k37 k38,v9 = vS o18 k37 k38/\R (vU [vS o18 k37 k38,iI 0]) w25))):aA Tryz.prog 158 [(.agg #[(.slice a b c),(.slice d e f),(.slice g i j),(.int .i64 k),(.slice l m n)])] w R:=rv Tryz.func158 yY (by kernel_rfl) h
abbrev FL:FuncId:=163
def Ct:bg:={ rngs:=[],loops:=[],joins:=[],blocks:=[] }
theorem Cu {a:YB} {b c:Nat} {d:YB} {e f:Nat} {g:YB} {i j:Nat} {k:Int} {l:YB} {m n:Nat} {w:YC} {R:Value->WP} (h:new w (oC [vS a b c,vS d e f,vS g i j,iI k,vS l m n] 27) λk1 w1=>∃ o1 k2 k3 o2 k4 k5 o3 k6 k7 n1 o4 k8 k9,rA w1 (aM k1) 5 [vS o1 k2 k3,vS o2 k4 k5,vS o3 k6 k7,iI n1,vS o4 k8 k9]/\rE 200 [vG [vS o1 k2 k3,vS o2 k4 k5,vS o3 k6 k7,iI n1,vS o4 k8 k9]] w1 λv1 w2=>∃ o5 n2,v1 = vU [vP o5,iI n2]/\br (n2 != 0) (R (vU [vS none 0 0,iI n2]) w2) (rE 201 [vP o5] w2 λv2 w3=>∃ o6 k10 k11,v2 = vS o6 k10 k11/\R (vU [vS o6 k10 k11,iI 0]) w3)):aA Tryz.prog 163 [(.agg #[(.slice a b c),(.slice d e f),(.slice g i j),(.int .i64 k),(.slice l m n)])] w R:=rv Tryz.func163 Ct (by kernel_rfl) h
abbrev JL:FuncId:=200
def FM:bg:={ rngs:=[],loops:=[(6,[(27,(.one (.int .i64)))]),(9,[(35,(.one (.int .i64)))])],joins:=[],blocks:=[] }
theorem FN {a:YB} {b c:Nat} {d:YB} {e f:Nat} {g:YB} {i j:Nat} {k:Int} {l:YB} {m n:Nat} {w:YC} {R:Value->WP} (h:new w (oC [vS a b c,vS d e f,vS g i j,iI k,vS l m n] 27) λk1 w1=>∃ o1 k2 k3 o2 k4 k5 o3 k6 k7 n1 o4 k8 k9,rA w1 (aM k1) 5 [vS o1 k2 k3,vS o2 k4 k5,vS o3 k6 k7,iI n1,vS o4 k8 k9]/\rE 26 [vG [vS o1 k2 k3,vS o2 k4 k5,vS o3 k6 k7,iI n1,vS o4 k8 k9]] w1 λv1 w2=>∃ o5 k10 k11 n2 n3 n4,v1 = vU [vG [vS o5 k10 k11,iI n2,iI n3],iI n4]/\new w2 (oC [vS none 0 0,iI 0,iI 0] 45) λk12 w3=>fL w3 (aM k12) [vS o5 k10 k11,iI n2,iI n3] λw4=>br (n4 != 0) (R (vU [vP none,iI n4]) w4) (∃ o6 k13 k14 o7 k15 k16 o8 k17 k18 n5 o9 k19 k20,rA w4 (aM k1) 5 [vS o6 k13 k14,vS o7 k15 k16,vS o8 k17 k18,iI n5,vS o9 k19 k20]/\∃ o10 k21 k22 n6 n7,rA w4 (aM k12) 3 [vS o10 k21 k22,iI n6,iI n7]/\new w4 (Obj.map (Array.mk []) 0) λk23 w5=>new w5 (oC [vS o6 k13 k14,vS o7 k15 k16,vS o8 k17 k18,iI n5,vS o9 k19 k20,vS o10 k21 k22,iI n6,iI n7,Value.map (some k23)] 279) λk24 w6=>∃ o11 k25 k26,cL w6 (aM k12) (vS o11 k25 k26)/\∃ (x1:lP [(27,aD)]),∃ (x2:lN [(27,aD)]),x1 0 w6/\∀ (I1:Nat->Value) (n8:Int) (w7:YC),x1 n8 w7->br (decide (n8 < (k25:Int))) (idx o11 k25 n8 2 λa1=>∃ o12 k27 k28 o13 k29 k30,rA w7 a1 2 [vS o12 k27 k28,vS o13 k29 k30]/\new w7 (oC [vS none 0 0,vS none 0 0] 54) λk31 w8=>fL w8 (aM k31) [vS o12 k27 k28,vS o13 k29 k30] λw9=>∃ o14 k32 k33,cL w9 (Addr.add (aM k31) 1) (vS o14 k32 k33)/\∃ (x3:lP [(35,aD)]),∃ (x4:lN [(35,aD)]),x3 0 w9/\∀ (I2:Nat->Value) (n9:Int) (w10:YC),x3 n9 w10->br (decide (n9 < (k32:Int))) (idx o14 k32 n9 2 λa2=>∃ n10 n11,rA w10 a2 2 [iI n10,iI n11]/\new w10 (oC [iI 0,iI 0] 56) λk34 w11=>fL w11 (aM k34) [iI n10,iI n11] λw12=>∀ w13,drawn w12 w13->∃ (I3:WP),I3 w13/\∃ o15,(∀ w14,I3 w14->cL w14 (Addr.add (aM k24) 8) (Value.map o15))/\∃ n12,(∀ w15,I3 w15->cL w15 (aM k34) (iI n12))/\∃ n13,(∀ w16,I3 w16->cL w16 (Addr.add (aM k34) 1) (iI n13))/\aX Proofs.Tryz.prog (Instr.mapUpdate 180 (Value.map o15) (vG [iI n8,iI n12]) (iI n13)) w13 λ(x5:Unit) (w17:YC)=>ax (n9 + 1)/\x3 (n9 + 1) w17/\x4 (n9 + 1) w17 < x4 n9 w10) (ax (n8 + 1)/\x1 (n8 + 1) w10/\x2 (n8 + 1) w10 < x2 n8 w7)) (R (vU [vP (some (aM k24)),iI 0]) w7))):aA Tryz.prog 200 [(.agg #[(.slice a b c),(.slice d e f),(.slice g i j),(.int .i64 k),(.slice l m n)])] w R:=rv Tryz.func200 FM (by kernel_rfl) h
abbrev xG:FuncId:=201
def uL:bg:={ rngs:=[],loops:=[(3,[(3,(.one .slice)),(14,(.one (.int .i64)))]),(6,[(3,(.one .slice)),(22,(.one (.int .i64)))])],joins:=[],blocks:=[] }
theorem uM {a:YB} {w:YC} {R:Value->WP} (h:nn a λa1=>∃ o1 k1 k2,cL w (Addr.add a1 5) (vS o1 k1 k2)/\∃ (x1:lP [(3,fX),(14,aD)]),∃ (x2:lN [(3,fX),(14,aD)]),x1 none 0 0 0 w/\∀ (I1:Nat->Value) (o2:YB) (k3 k4:Nat) (n1:Int) (w1:YC),x1 o2 k3 k4 n1 w1->br (decide (n1 < (k1:Int))) (idx o1 k1 n1 2 λa2=>∃ o3 k5 k6 o4 k7 k8,rA w1 a2 2 [vS o3 k5 k6,vS o4 k7 k8]/\new w1 (oC [vS none 0 0,vS none 0 0] 54) λk9 w2=>fL w2 (aM k9) [vS o3 k5 k6,vS o4 k7 k8] λw3=>∃ o5 k10 k11,cL w3 (Addr.add (aM k9) 1) (vS o5 k10 k11)/\∃ (x3:lP [(3,fX),(22,aD)]),∃ (x4:lN [(3,fX),(22,aD)]),x3 o2 k3 k4 0 w3/\∀ (I2:Nat->Value) (o6:YB) (k12 k13:Nat) (n2:Int) (w4:YC),x3 o6 k12 k13 n2 w4->br (decide (n2 < (k10:Int))) (idx o5 k10 n2 2 λa3=>∃ n3 n4,rA w4 a3 2 [iI n3,iI n4]/\new w4 (oC [iI 0,iI 0] 56) λk14 w5=>fL w5 (aM k14) [iI n3,iI n4] λw6=>∀ w7,drawn w6 w7->∃ (I3:WP),I3 w7/\∃ n5,(∀ w8,I3 w8->cL w8 (aM k14) (iI n5))/\nn a λa4=>∃ o7 k15 k16,(∀ w9,I3 w9->cL w9 a4 (vS o7 k15 k16))/\br (decide ((k15:Int)<=n5)) (∃ n6,cL w7 (aM k14) (iI n6)/\new w7 (oC [iI n1,iI n6] 184) λk17 w10=>rS (ir 179 (Array.mk [vS o6 k12 k13,vS (some (aM k17)) 1 1])) w10 λv1 w11=>∃ o8 k18 k19,v1 = vS o8 k18 k19/\ax (n2 + 1)/\x3 o8 k18 k19 (n2 + 1) w11/\x4 o8 k18 k19 (n2 + 1) w11 < x4 o6 k12 k13 n2 w4) (ax (n2 + 1)/\x3 o6 k12 k13 (n2 + 1) w7/\x4 o6 k12 k13 (n2 + 1) w7 < x4 o6 k12 k13 n2 w4)) (ax (n1 + 1)/\x1 o6 k12 k13 (n1 + 1) w4/\x2 o6 k12 k13 (n1 + 1) w4 < x2 o2 k3 k4 n1 w1)) (rE 238 [vS o2 k3 k4] w1 λv2 w12=>∃ o9 k20 k21,v2 = vS o9 k20 k21/\R (vS o9 k20 k21) w12)):aA Tryz.prog 201 [(.pointer a)] w R:=rv Tryz.func201 uL (by kernel_rfl) h
def lx:bg:={ rngs:=[],loops:=[],joins:=[],blocks:=[] }
theorem ly {a:YB} {b c:Nat} {w:YC} {R:Value->WP} (h:uw a b c none (some (b:Int)) (some (b:Int)) 1 λ(o1:YB) (k1 k2:Nat)=>R (vS o1 k1 k2) w):aA Tryz.prog 202 [(.slice a b c)] w R:=rv Tryz.func202 lx (by kernel_rfl) h
def fS:bg:={ rngs:=[],loops:=[],joins:=[],blocks:=[] }
theorem fT {a:YB} {b c:Nat} {w:YC} {R:Value->WP} (h:uw a b c none (some (b:Int)) (some (b:Int)) 2 λ(o1:YB) (k1 k2:Nat)=>R (vS o1 k1 k2) w):aA Tryz.prog 238 [(.slice a b c)] w R:=rv Tryz.func238 fS (by kernel_rfl) h
abbrev l9:FuncId:=240
def kC:bg:={ rngs:=[],loops:=[(4,[(3,(.one (.int .i64)))]),(9,[(3,(.one (.int .i64))),(5,(.one (.int .i64)))])],joins:=[],blocks:=[] }
theorem kD {a:YB} {b c:Nat} {w:YC} {R:Value->WP} (h:br (decide ((b:Int) < 2)) (R (vS a b c) w) (∃ (x1:lP [(3,aD)]),∃ (x2:lN [(3,aD)]),x1 1 w/\∀ (I1:Nat->Value) (n1:Int) (w1:YC),x1 n1 w1->br (decide (n1 < (b:Int))) (∀ w2,drawn w1 w2->∃ (I2:WP),I2 w2/\idx a b n1 1 λa1=>∃ n2,(∀ w3,I2 w3->World.cell? w3 a1 = some (iI n2))/\ax (n1 - 1)/\idx a b (n1 - 1) 1 λa2=>∃ n3,(∀ w4,I2 w4->World.cell? w4 a2 = some (iI n3))/\br (n2 == n3) (uw a b c (some n1) none none 1 λ(o1:YB) (k1 k2:Nat)=>∃ (x3:lP [(3,aD),(5,aD)]),∃ (x4:lN [(3,aD),(5,aD)]),x3 n1 1 w2/\∀ (I3:Nat->Value) (n4 n5:Int) (w5:YC),x3 n4 n5 w5->br (decide (n5 < (k1:Int))) (∀ w6,drawn w5 w6->∃ (I4:WP),I4 w6/\idx o1 k1 n5 1 λa3=>∃ n6,(∀ w7,I4 w7->World.cell? w7 a3 = some (iI n6))/\ax (n5 - 1)/\idx o1 k1 (n5 - 1) 1 λa4=>∃ n7,(∀ w8,I4 w8->World.cell? w8 a4 = some (iI n7))/\br (n6 != n7) (idx o1 k1 n5 1 λa5=>∃ n8,World.cell? w6 a5 = some (iI n8)/\idx a b n4 1 λa6=>st1 w6 a6 (iI n8) λw9=>ax (n4 + 1)/\ax (n5 + 1)/\x3 (n4 + 1) (n5 + 1) w9/\x4 (n4 + 1) (n5 + 1) w9 < x4 n4 n5 w5) (ax (n5 + 1)/\x3 n4 (n5 + 1) w6/\x4 n4 (n5 + 1) w6 < x4 n4 n5 w5)) (uw a b c (some n4) none none 1 λ(o2:YB) (k3 k4:Nat)=>rS (Builtin.clear_ (Array.mk [24]) 0 (Array.mk [vS o2 k3 k4])) w5 λv1 w10=>uw a b c none (some n4) none 1 λ(o3:YB) (k5 k6:Nat)=>R (vS o3 k5 k6) w10)) (ax (n1 + 1)/\x1 (n1 + 1) w2/\x2 (n1 + 1) w2 < x2 n1 w1)) (R (vS a b c) w1))):aA Tryz.prog 240 [(.slice a b c)] w R:=rv Tryz.func240 kC (by kernel_rfl) h
end Go.Proofs.YtndaepmjkbmjmaaGreatDoor
namespace Go.V
def y6 (ss:List SQ) (m:List (au × Value)) (i:Nat) (es:List aP):Prop:=∀ k:au,assoc k m =
 if k.st < 0 then none else if k.st.toNat < i then (eW ss k.st.toNat k.sym).map (Value.int .i64) else if k.st.toNat = i then (es.find? λe=>decide (e.sym = k.sym)).map (λe=>Value.int .i64 e.to) else none
section
variable {ss:List SQ} {m:List (au × Value)} {i:Nat}
theorem y6.start:y6 ss [] 0 []:=λk=>by simp [assoc]
theorem Er {es:List aP} {e:aP} (hn:e.sym∉es.map (·.sym)) (s:Int):((es ++ [e]).find? λx=>decide (x.sym = s)) = if s = e.sym then some e else es.find? λx=>decide (x.sym = s):=by
 rw [List.find?_append]
 by_cases h:s = e.sym
 ·subst h
  have:(es.find? λx=>decide (x.sym = e.sym)) = none:=List.find?_eq_none.2 λx hx h2=>hn (WS.2 ⟨x,hx,by simpa using h2⟩)
  rw [this]; simp
 ·rw [WB h]
  have:([e].find? λx=>decide (x.sym = s)) = none:=by simp [X2 h]
  rw [this]; simp
theorem y6.step {es:List aP} (h:y6 ss m i es) {e:aP} (hn:e.sym∉es.map (·.sym)):y6 ss (bK ⟨(i:Int),e.sym⟩ (.int .i64 e.to) m) i (es ++ [e]):=λk=>by
 rw [dC,h k,Er hn]
 by_cases hk:k = ⟨(i:Int),e.sym⟩
 ·subst hk
  simp
 ·rw [WB hk]
  split
  ·rfl
  ·split
   ·rfl
   ·split
    ·have:k.sym≠e.sym:=λh=>hk (by cases k; simp at *; omega)
     rw [WB this]
    ·rfl
theorem y6.next {q:SQ} (hq:ss[i]? = some q) (h:y6 ss m i q.2.2):y6 ss m (i + 1) []:=λk=>by
 rw [h k]
 split
 ·rfl
 ·by_cases h1:k.st.toNat < i
  ·rw [WJ h1,WJ (by omega)]
  ·rw [WB h1]
   by_cases h2:k.st.toNat = i
   ·rw [WJ h2,WJ (by omega),h2,om hq,Option.map_map]; rfl
   ·rw [WB h2,WB (by omega)]; simp
theorem y6.all (h:y6 ss m ss.length []) {k:au} (hk:0<=k.st):assoc k m = (eW ss k.st.toNat k.sym).map (Value.int .i64):=by
 rw [h k,WB (by omega)]
 split
 ·rfl
 ·have:eW ss k.st.toNat k.sym = none:=by unfold eW; rw [WR (by omega)]
  rw [this]; simp
end
abbrev UW (x:GA) (o:YB) (n c:Nat) (a int:Int) (kb:Nat):List Value:=x.cells ++ [.slice o n c,.int .i64 a,.int .i64 int,.map (some kb)]
structure UX (h:Hp) (g:af) (ss:List SQ) (k:Nat):Prop where
 ex:∃ (x:GA) (o:YB) (c kb:Nat) (a int:Int) (m:List (au × Value)),av h (aM k) (UW x o ss.length c a int kb)/\gR h g x/\xE h ss o/\mapA kb m h/\y6 ss m ss.length []
theorem UX.mono {h h' : Hp} {g:af} {ss:List SQ} {k:Nat} (s:sub h h') (r:UX h g ss k):UX h' g ss k:=by
 obtain ⟨x,o,c,kb,a,int,m,h1,h2,h3,h4,h5⟩:=r.ex
 exact ⟨x,o,c,kb,a,int,m,h1.mono s,h2.mono s,h3.mono s,dI s h4,h5⟩
end Go.V
namespace Go.Proofs.YtndaepmjkbmjmaaGreatDoor
variable {w:YC} {L:List ay} {g:af} {x:GA}
theorem Es : Ut Tryz.prog kB cZ { name := "State", type := cZ, offset := 0, embedded := false, tag := "", pkgPath := "", byteOffset := 0 } { name := "Sym", type := cZ, offset := 1, embedded := false, tag := "", pkgPath := "", byteOffset := 8 } where
 ht:=by kernel_rfl
 hf:=by kernel_rfl
 hi:=bB
 ht0:=rfl
 ht1:=rfl
 n0:=by decide
 n1:=by decide
 o0:=rfl
 o1:=rfl
 sih:=Dy
theorem ew:sD Tryz.prog kB au:=sD.two Es
theorem OC (hg:gR (hp w) g x) (hb:ik g):aA Tryz.prog JL [.agg ⟨x.cells⟩] w λv w'=>∃ (ss:List SQ) (ask int f:Int) (p:YB),v = .tuple #[.pointer p,.int .i64 f]/\qY g ss ask int f/\Gr w w'/\(f = 0->∃ k,p = some (aM k)/\UX (hp w') g ss k)/\(f≠0->p = none):=by
 refine FN (cN hg λk1 w1 gw hg B=>?_)
 refine ⟨_,_,_,_,_,_,_,_,_,_,_,_,_,B.row (sub.refl _),(Cn hg hb).mono ?_⟩
 rintro _ w2 ⟨o,c,ss,ask,int,f,rfl,hR,h⟩
 have g12:Gr w1 w2:=aU 3 h.l
 have hg:=hg.mono g12
 have hs:=ui h.l
 refine ⟨_,_,_,_,_,_,rfl,ah (St.all w2) λk12 w3 h=>bu h rfl (by simp [aV]) λw4 h=>ae (λh1=>?_) λh1=>?_⟩
 ·have h1:f≠0:=by simpa using h1
  exact ⟨ss,ask,int,f,none,rfl,hR,gw.trans (g12.trans h.aZ),λh=>absurd h h1,λ_=>rfl⟩
 have h1:f = 0:=by simpa using h1
 subst h1
 obtain ⟨hc,hA⟩ : ak g/\bn g ss:=by
  rcases hR with ⟨_,_,_,_,e⟩ | ⟨_,_,_,_,_,e⟩ | ⟨hc,hA,_⟩
  ·omega
  ·omega
  ·exact ⟨hc,hA⟩
 have hkl:=hA.yX hc
 have h256:=hA.dn.2.1
 have g24:Gr w2 w4:=h.aZ
 have hg:=hg.mono g24
 have hs:=hs.mono g24
 have r12:av (hp w4) (aM k12) [.slice o ss.length c,.int .i64 ask,.int .i64 int]:=ai 0 h.l
 clear h
 refine ⟨_,_,_,_,_,_,_,_,_,_,_,_,_,B.row (g12.trans g24),_,_,_,_,_,r12.at (sub.refl _) rfl,ml (St.all w4) λkb w5 h=>?_⟩
 have h:=dD (κ:=au) h
 refine ah (vs:=UW x o ss.length c ask int kb) h λkm w6 h=>?_
 refine ⟨_,_,_,r12.cell0 (aU 2 h.l),λz w'=>∃ (i:Nat) (m:List (au × Value)),z = i/\i<=ss.length/\y6 ss m i []/\St w' (aK km (UW x o ss.length c ask int kb) :: mapA kb m :: all w4),λz _=>ss.length - z.toNat,
  ⟨0,[],rfl,WC _,.start,h⟩,?_⟩
 clear h
 rintro _ _ w7 ⟨i,m,rfl,hi,hW,h⟩
 have s7:sub (hp w4) (hp w7):=aU 2 h.l
 refine ae (λh1=>?_) λh1=>?_
 rotate_left
 ·have h1:i = ss.length:=by have:=Ws h1; omega
  subst h1
  obtain ⟨hm,sm,hA2⟩:=Qg 1 h.l
  exact ⟨ss,ask,int,0,some (aM km),rfl,hR,gw.trans (g12.trans (g24.trans s7)),λ_=>⟨km,rfl,x,o,c,kb,ask,int,m,ai 0 h.l,hg.mono s7,hs.mono s7,dI sm hA2,hW⟩,λh=>absurd rfl h⟩
 have h1:i < ss.length:=by have:=Wr h1; omega
 obtain ⟨q,hq⟩ : ∃ q,ss[i]? = some q:=⟨_,Wv h1⟩
 obtain ⟨ad,rfl,rs,_,re⟩:=hs i q hq
 have hql:=(hkl q (Wu hq)).2
 have hnd:=Cr hA hq
 refine aq rfl h1 ⟨_,_,_,_,_,_,rs.at s7 rfl,ah h λk31 w8 h=>bu h rfl (by simp [aV]) λw9 h=>?_⟩
 have r31:av (hp w9) (aM k31) (Qh q):=ai 0 h.l
 refine ⟨_,_,_,r31.cell (sub.refl _) (j:=1) rfl,λz w'=>∃ (k:Nat) (m:List (au × Value)),z = k/\k<=q.2.2.length/\y6 ss m i (q.2.2.take k)/\St w' (aK km (UW x (some ad) ss.length c ask int kb) :: mapA kb m :: all w4),λz _=>q.2.2.length - z.toNat,
  ⟨0,m,rfl,WC _,hW,h.pick 3 [1,2]⟩,?_⟩
 clear h hW
 rintro _ _ w10 ⟨k,m,rfl,hk,hW,h⟩
 have s10:sub (hp w4) (hp w10):=aU 2 h.l
 refine ae (λh2=>?_) λh2=>?_
 rotate_left
 ·have h2:k = q.2.2.length:=by have:=Ws h2; omega
  subst h2
  rw [WT] at hW
  exact ⟨⟨by omega,by omega⟩,⟨i + 1,m,by simp,h1,hW.next hq,h⟩,bx h1⟩
 have h2:k < q.2.2.length:=by have:=Wr h2; omega
 obtain ⟨e,ead,he,hea,red⟩:=lr re h2
 refine aq hea h2 ⟨_,_,red.at s10 rfl,ah h λk34 w11 h=>bu h rfl (by simp [aV]) λw12 h=>?_⟩
 intro w13 hd
 have h:=h.eq (aB hd)
 have r34:av (hp w13) (aM k34) [.int .i64 e.sym,.int .i64 e.to]:=ai 0 h.l
 have rm:av (hp w13) (aM km) (UW x (some ad) ss.length c ask int kb):=ai 1 h.l
 refine ⟨λu=>Gr w13 u,Gr.refl _,_,λu s=>rm.cell s (j:=8) rfl,_,λu s=>r34.cell0 s,_,λu s=>r34.cell s (j:=1) rfl,(mo (κ:=au) aQ (rfl:aj Ty _ = .map _ _) ew (h.pick 3 [2,0,1]) ⟨(i:Int),e.sym⟩ _).mono ?_⟩
 rintro _ w17 h
 have ht:q.2.2.take (k + 1) = q.2.2.take k ++ [e]:=by rw [Wz,he]; rfl
 have hn:e.sym∉(q.2.2.take k).map (·.sym):=λhm=>by
  have e1:q.2.2.map (·.sym) = (q.2.2.take k).map (·.sym) ++ e.sym :: (q.2.2.drop (k + 1)).map (·.sym):=by
   rw [<- Xf,<- WZ]
   congr 1
   have:=WX (k + 1) q.2.2
   rw [ht] at this
   simpa using this.symm
  rw [e1,Xb] at hnd
  exact hnd.2.2 _ hm _ (by simp) rfl
 have hW:=hW.step hn
 rw [<- ht] at hW
 exact ⟨⟨by omega,by omega⟩,⟨k + 1,_,by simp,h2,hW,h.pick 3 [2,0]⟩,bx h2⟩
end Go.Proofs.YtndaepmjkbmjmaaGreatDoor
namespace Go.V
section
variable {g:af} {ss:List SQ}
theorem HP (g:af) (i:Nat) (es:List aP):(fo g i es).length<=es.length:=by
 unfold fo; rw [WE]; exact W6 _ _
theorem xH (hk:∀ q∈ss,q.2.2.length<=130):∀ i,(uj g ss i).length<=i * 130
 | 0=>by simp [uj]
 | i + 1=>by
  have:=xH hk i
  cases hq:ss[i]? with
  | none=>simp [uj,hq]; omega
  | some q =>
   rw [oh hq,WA]
   have h1:=HP g i q.2.2
   have h2:=hk q (Wu hq)
   omega
theorem qY.Mv {a i f:Int} (h:qY g ss a i f) (hf:f = 0):ak g/\bn g ss:=by
 subst hf
 rcases h with ⟨_,_,_,_,e⟩ | ⟨_,_,_,_,_,e⟩ | ⟨hc,hA,_⟩
 ·omega
 ·omega
 ·exact ⟨hc,hA⟩
def tk (ss:List SQ) (i:Nat) (s:Int):Int:=(eW ss i s).getD (-1)
end
end Go.V
namespace Go.Proofs.YtndaepmjkbmjmaaGreatDoor
variable {w:YC} {L:List ay} {g:af} {x:GA} {ss:List SQ}
theorem HQ {k:Nat} (hw:UX (hp w) g ss k) (hn:ss.length<=256) (hk:∀ q∈ss,q.2.2.length<=130):aA Tryz.prog xG [.pointer (some (aM k))] w λv w'=>∃ (o:YB) (c:Nat),v = .slice o (bm g ss).length c/\St w' (own 2 o (bm g ss).length c (Eo (bm g ss)) :: all w):=by
 obtain ⟨x,oa,ca,kb,a,int,m,rk,hg,hs,hm,hW⟩:=hw.ex
 have hTl:g.T = x.tl:=hg.t.1
 refine uM ⟨_,_,_,rk.cell (sub.refl _) (j:=5) rfl,λo n c z w'=>∃ i:Nat,z = i/\i<=ss.length/\n = (uj g ss i).length/\St w' (own 2 o n c (Eo (uj g ss i)) :: all w),λ_ _ _ z _=>ss.length - z.toNat,
  ⟨0,rfl,WC _,rfl,az 2 (St.all w)⟩,?_⟩
 rintro _ o2 _ c2 _ w1 ⟨i,rfl,hi,rfl,h⟩
 have s1:sub (hp w) (hp w1):=aU 1 h.l
 refine ae (λh1=>?_) λh1=>?_
 rotate_left
 ·have h1:i = ss.length:=by have:=Ws h1; omega
  subst h1
  refine fT (gp (fa h) ⟨_,_,_,rfl,_,_,rfl,gn h⟩)
 have h1:i < ss.length:=by have:=Wr h1; omega
 obtain ⟨q,hq⟩ : ∃ q,ss[i]? = some q:=⟨_,Wv h1⟩
 obtain ⟨ad,rfl,rs,_,re⟩:=hs i q hq
 have hql:=hk q (Wu hq)
 have hNl:=xH (g:=g) hk i
 refine aq rfl h1 ⟨_,_,_,_,_,_,rs.at s1 rfl,ah h λk9 w2 h=>bu h rfl (by simp [aV]) λw3 h=>?_⟩
 have r9:av (hp w3) (aM k9) (Qh q):=ai 0 h.l
 refine ⟨_,_,_,r9.cell (sub.refl _) (j:=1) rfl,λo n c z w'=>∃ (j:Nat),z = j/\j<=q.2.2.length/\n = (uj g ss i ++ fo g i (q.2.2.take j)).length/\St w' (own 2 o n c (Eo (uj g ss i ++ fo g i (q.2.2.take j))) :: all w),λ_ _ _ z _=>q.2.2.length - z.toNat,
  ⟨0,rfl,WC _,by simp [fo],by simpa [fo] using (show St w3 (own 2 o2 (uj g ss i).length c2 (Eo (uj g ss i)) :: all w) from h.pick 2 [1])⟩,?_⟩
 clear h
 rintro _ o6 _ c6 _ w4 ⟨j,rfl,hj,rfl,h⟩
 have s4:sub (hp w) (hp w4):=aU 1 h.l
 have hTA:=HP g i (q.2.2.take j)
 rw [WV] at hTA
 refine ae (λh2=>?_) λh2=>?_
 rotate_left
 ·have h2:j = q.2.2.length:=by have:=Ws h2; omega
  subst h2
  rw [WT] at h ⊢
  exact ⟨⟨by omega,by omega⟩,⟨i + 1,by simp,h1,by rw [oh hq],by rw [oh hq]; exact h⟩,bx h1⟩
 have h2:j < q.2.2.length:=by have:=Wr h2; omega
 obtain ⟨e,ead,he,hea,red⟩:=lr re h2
 have ht:q.2.2.take (j + 1) = q.2.2.take j ++ [e]:=by rw [Wz,he]; rfl
 refine aq hea h2 ⟨_,_,red.at s4 rfl,ah h λk14 w5 h=>bu h rfl (by simp [aV]) λw6 h=>?_⟩
 intro w7 hd
 have h:=h.eq (aB hd)
 have r14:av (hp w7) (aM k14) [.int .i64 e.sym,.int .i64 e.to]:=ai 0 h.l
 have s7:sub (hp w) (hp w7):=aU 2 h.l
 refine ⟨λu=>Gr w7 u,Gr.refl _,_,λu s=>r14.cell0 s,_,_,_,λu s=>rk.cell0 (sub.trans s7 s),ae (λh3=>?_) λh3=>?_⟩
 ·have h3:(g.T:Int)<=e.sym:=by rw [hTl]; exact Wr h3
  have z1:((uj g ss i ++ fo g i (q.2.2.take j)).length + 1) * 16<=140737488355328/\(uj g ss i ++ fo g i (q.2.2.take j)).length < 9223372036854775807:=by rw [WA]; omega
  refine ⟨_,r14.cell0 (sub.refl _),ah h λk17 w10 h=>?_⟩
  refine (aN (us:=Eo (uj g ss i ++ fo g i (q.2.2.take j))) aQ (rfl:aj Ty _ = .slice _) (rfl:aj Ty _ = .slice _) rfl rfl rfl (h.pick 3 [0,2]) rfl (by simp [aV]) z1.1 z1.2).mono ?_
  rintro _ w11 ⟨o8,c8,rfl,h⟩
  have e2:fo g i (q.2.2.take (j + 1)) = fo g i (q.2.2.take j) ++ [⟨(i:Int),e.sym⟩]:=by rw [ht,Ep,WJ h3]
  have e3:Eo (uj g ss i ++ fo g i (q.2.2.take (j + 1))) = Eo (uj g ss i ++ fo g i (q.2.2.take j)) ++ [.int .i64 (i:Int),.int .i64 e.sym]:=by rw [e2,<- WG,Rq]; rfl
  refine ⟨_,_,_,rfl,⟨by omega,by omega⟩,⟨j + 1,by simp,h2,by rw [e2]; simp; omega,?_⟩,bx h2⟩
  rw [e3]; exact h.pick 2 [0]
 ·have h3:¬(g.T:Int)<=e.sym:=by rw [hTl]; exact Ws h3
  have e2:fo g i (q.2.2.take (j + 1)) = fo g i (q.2.2.take j):=by rw [ht,Ep,WB h3]
  exact ⟨⟨by omega,by omega⟩,⟨j + 1,by simp,h2,by rw [e2],by rw [e2]; exact h.pick 2 [1]⟩,bx h2⟩
theorem OD (hg:gR (hp w) g x) (hb:ik g):aA Tryz.prog FL [.agg ⟨x.cells⟩] w λv w'=>∃ (ss:List SQ) (ask int f:Int) (o:YB) (c:Nat),v = .tuple #[.slice o (bm g ss).length c,.int .i64 f]/\qY g ss ask int f/\St w' (own 2 o (bm g ss).length c (Eo (bm g ss)) :: all w):=by
 refine Cu (cN hg λk1 w1 gw hg B=>?_)
 refine ⟨_,_,_,_,_,_,_,_,_,_,_,_,_,B.row (sub.refl _),(OC hg hb).mono ?_⟩
 rintro _ w2 ⟨ss,ask,int,f,p,rfl,hR,g2,h0,hn⟩
 refine ⟨_,_,rfl,ae (λh1=>?_) λh1=>?_⟩
 ·have h1:f≠0:=by simpa using h1
  have hz:ss = []:=by rcases hR with ⟨_,e,_⟩ | ⟨_,_,e,_⟩ | ⟨_,_,_,_,e⟩ <;> first | exact e | exact absurd e h1
  subst hz
  exact ⟨[],ask,int,f,none,0,rfl,hR,az 2 (St.here (gw.trans g2))⟩
 have h1:f = 0:=by simpa using h1
 obtain ⟨k,rfl,hw⟩:=h0 h1
 obtain ⟨hc,hA⟩:=hR.Mv h1
 have hkl:=hA.yX hc
 refine (HQ hw hA.dn.2.1 λq hq=>(hkl q hq).2).mono ?_
 rintro _ w3 ⟨o,c,rfl,h⟩
 subst h1
 exact ⟨_,_,_,rfl,ss,ask,int,0,o,c,rfl,hR,St.qk h (bC (gw.trans g2))⟩
theorem OE {o:YB} {c:Nat} {ask int s:Int} {i:Nat} (hA:bn g ss) (hs:xE (hp w) ss o) (hi:i < ss.length) (hk:∀ q∈ss,q.2.2.length<=130) (hn:ss.length<=256):aA Tryz.prog uG [.agg #[.slice o ss.length c,.int .i64 ask,.int .i64 int],.int .i64 (i:Int),.int .i64 s] w λv w'=>v = .int .i64 (tk ss i s)/\Gr w w':=by
 obtain ⟨q,hq⟩ : ∃ q,ss[i]? = some q:=⟨_,Wv hi⟩
 have hql:=hk q (Wu hq)
 refine qO (ah (St.all w) λk1 w1 h=>?_)
 have g1:Gr w w1:=h.aZ
 obtain ⟨ad,rfl,rs,_,re⟩:=(hs.mono g1) i q hq
 refine ⟨_,_,_,(ai 0 h.l).cell0 (sub.refl _),aq rfl hi ⟨_,_,_,rs.cell (sub.refl _) (j:=1) rfl,λz w'=>∃ j:Nat,z = j/\j<=q.2.2.length/\(∀ e∈q.2.2.take j,e.sym≠s)/\w' = w1,λz _=>q.2.2.length - z.toNat,
  ⟨0,rfl,WC _,by simp,rfl⟩,?_⟩⟩
 rintro _ _ w2 ⟨j,rfl,hj,hno,rfl⟩
 refine ae (λh2=>?_) λh2=>?_
 rotate_left
 ·have h2:j = q.2.2.length:=by have:=Ws h2; omega
  subst h2
  rw [WT] at hno
  refine ⟨?_,g1⟩
  have:(q.2.2.find? λe=>decide (e.sym = s)) = none:=List.find?_eq_none.2 λe he h=>hno e he (by simpa using h)
  unfold tk
  rw [om hq,this]; rfl
 have h2:j < q.2.2.length:=by have:=Wr h2; omega
 obtain ⟨e,ead,he,hea,red⟩:=lr re h2
 have ht:q.2.2.take (j + 1) = q.2.2.take j ++ [e]:=by rw [Wz,he]; rfl
 refine aq hea h2 ⟨_,red.cell0 (sub.refl _),ae (λh3=>?_) λh3=>?_⟩
 ·have h3:e.sym = s:=by simpa using h3
  subst h3
  refine aq hea h2 ⟨_,red.cell (sub.refl _) (j:=1) rfl,?_,g1⟩
  unfold tk
  rw [oq hA hq he]; rfl
 ·have h3:e.sym≠s:=by simpa using h3
  refine ⟨⟨by omega,by omega⟩,⟨j + 1,by simp,h2,λy hy=>?_,rfl⟩,bx h2⟩
  rw [ht,Wy,WW] at hy
  rcases hy with hy | rfl
  ·exact hno y hy
  ·exact h3
end Go.Proofs.YtndaepmjkbmjmaaGreatDoor
namespace Go.V
theorem iP {g:af} {ss:List SQ} (hc:ak g) (hA:bn g ss) {i:Nat} {s j:Int} (h:eW ss i s = some j):0<=j/\j < ss.length:=by
 obtain ⟨q,k,e,hq,he,rfl,rfl⟩:=pG h
 obtain ⟨_,_,n,r,hn,h1,hr,_⟩:=fm hc hA hq he
 have:=(Wt.1 hr).1
 omega
section
variable {g:af} {ss:List SQ}
def Ax (g:af) (es:List aP):List Int:=(es.filter λe=>decide (e.sym < (g.T:Int))).map (·.sym)
theorem HR {es:List aP} {e:aP}:Ax g (es ++ [e]) = if e.sym < (g.T:Int) then Ax g es ++ [e.sym] else Ax g es:=by
 unfold Ax
 rw [W5,WZ]
 by_cases h:e.sym < (g.T:Int) <;> simp [h]
theorem Rr (g:af) (es:List aP):(Ax g es).length<=es.length:=by
 unfold Ax; rw [WE]; exact W6 _ _
def kE (g:af) (t:au):List Int:=if t = ⟨0,g.start⟩ then [0] else []
theorem OG (g:af) (t:au):(kE g t).length<=1:=by unfold kE; split <;> simp
theorem iQ {t:au}:∀ {n:Nat},t∈uj g ss n->∃ (i:Nat) (q:SQ) (k:Nat) (e:aP),i < n/\ss[i]? = some q/\q.2.2[k]? = some e/\(g.T:Int)<=e.sym/\t = ⟨(i:Int),e.sym⟩
 | 0,h=>by simp [uj] at h
 | n + 1,h=>by
  cases hq:ss[n]? with
  | none =>
   simp [uj,hq] at h
   obtain ⟨i,q,k,e,h1,h2⟩:=iQ h
   exact ⟨i,q,k,e,by omega,h2⟩
  | some q =>
   rw [oh hq,Wy] at h
   rcases h with h | h
   ·obtain ⟨i,q,k,e,h1,h2⟩:=iQ h
    exact ⟨i,q,k,e,by omega,h2⟩
   ·unfold fo at h
    obtain ⟨e,he,rfl⟩:=WS.1 h
    obtain ⟨h1,h2⟩:=W9.1 he
    obtain ⟨k,hk⟩:=W3 h1
    exact ⟨n,q,k,e,by omega,hq,hk,Wr h2,rfl⟩
theorem Cv {t:au} {j:Nat} {q:SQ} (h:eW ss t.st.toNat t.sym = some (j:Int)) (hq:ss[j]? = some q):il g ss t = kE g t ++ Ax g q.2.2:=by
 unfold il
 rw [h]
 show _ ++ (match ss[(j:Int).toNat]? with | none=>[] | some q=>_) = _
 rw [WQ,hq]
 rfl
end
end Go.V
namespace Go.Proofs.YtndaepmjkbmjmaaGreatDoor
variable {w:YC} {L:List ay} {g:af} {x:GA} {ss:List SQ}
theorem Rs (w:YC) (xo yo:Operand) (x y:au):Sem.run Tryz.prog (iB .eql kB xo yo (.agg ⟨Cp x⟩) (.agg ⟨Cp y⟩)) w = .ok (.bool (decide (x = y))) w:=by
 unfold iB
 rw [Sem.run_bind,run_eqGuard_agg w _ _ _ _ _ _ Dx]
 simp only [Result.andThen_ok]
 rw [run_eql_struct]
 have e:decide (x = y) = decide (x.st = y.st/\x.sym = y.sym):=by
  cases x; cases y; simp
 rw [e]
 show ((Op.equal kB (.agg #[.int .i64 x.st,.int .i64 x.sym]) (.agg #[.int .i64 y.st,.int .i64 y.sym])).run Tryz.prog w).andThen _ = _
 rw [JK Es]
 rfl
theorem JM (hg:gR (hp w) g x) (hb:ik g):aA Tryz.prog lu [.agg ⟨x.cells⟩] w λv w'=>∃ (ss:List SQ) (ask int f:Int) (o:YB) (c:Nat) (ds:List (Lq Int)),v = .tuple #[.slice o ds.length c,.int .i64 f]/\qY g ss ask int f/\ds.map (·.2) = (bm g ss).map (il g ss)/\St w' (own 1 o ds.length c (ds.map dO) :: aG (ds.map (dp 1 iv)) :: all w):=by
 refine yZ (cN hg λk1 w1 gw hg B=>?_)
 refine ⟨_,_,_,_,_,_,_,_,_,_,_,_,_,B.row (sub.refl _),(OC hg hb).mono ?_⟩
 rintro _ w2 ⟨ss,ask,int,f,p,rfl,hR,g2,h0,hn⟩
 refine ⟨_,_,rfl,ae (λh1=>?_) λh1=>?_⟩
 ·have h1:f≠0:=by simpa using h1
  have hz:ss = []:=by rcases hR with ⟨_,e,_⟩ | ⟨_,_,e,_⟩ | ⟨_,_,_,_,e⟩ <;> first | exact e | exact absurd e h1
  subst hz
  exact ⟨[],ask,int,f,none,0,[],rfl,hR,rfl,az 1 ((St.flat (M:=[])).2 (St.here (gw.trans g2)))⟩
 have h1:f = 0:=by simpa using h1
 subst h1
 obtain ⟨k,rfl,hw⟩:=h0 rfl
 obtain ⟨hc,hA⟩:=hR.Mv rfl
 have hkl:=hA.yX hc
 have h256:=hA.dn.2.1
 have hTn:=xH (g:=g) (λq hq=>(hkl q hq).2) ss.length
 refine (HQ hw h256 λq hq=>(hkl q hq).2).mono ?_
 rintro _ w3 ⟨oL,cL,rfl,h⟩
 have g3:Gr w2 w3:=aU 1 h.l
 have rL:a_ (hp w3) (bm g ss) oL (bm g ss).length:=A2 rfl (fB 0 h.l)
 clear h
 obtain ⟨x',oa,ca,kb,a',int',m,rk,hg',hs,hm,hW⟩:=(hw.mono g3).ex
 have g13:Gr w1 w3:=g2.trans g3
 have hTl:g.T = x.tl:=hg.t.1
 have hst:x.s = g.start:=hg.s
 refine ⟨_,_,_,rfl,λo n c z w'=>∃ (i:Nat) (ds:List (Lq Int)),z = i/\i<=(bm g ss).length/\n = ds.length/\ds.map (·.2) = ((bm g ss).take i).map (il g ss)/\St w' (own 1 o n c (ds.map dO) :: aG (ds.map (dp 1 iv)) :: all w3),λ_ _ _ z _=>(bm g ss).length - z.toNat,
  ⟨0,[],rfl,WC _,rfl,rfl,az 1 ((St.flat (M:=[])).2 (St.all w3))⟩,?_⟩
 rintro _ o7 _ c7 _ w4 ⟨i,ds,rfl,hi,rfl,hds,h⟩
 have s4:sub (hp w3) (hp w4):=aU 2 h.l
 have hdl:ds.length = i:=by have:=congrArg List.length hds; rw [WE,WE,WV] at this; omega
 have hTL:(bm g ss).length<=ss.length * 130:=hTn
 refine ae (λh1=>?_) λh1=>?_
 rotate_left
 ·have h1:i = (bm g ss).length:=by have:=Ws h1; omega
  rw [h1,WT] at hds
  refine ly (gp (fa h) ⟨_,_,_,rfl,ss,ask,int,0,_,_,ds,rfl,hR,hds,?_⟩)
  exact St.KM (gn h) (bC (gw.trans g13))
 have h1:i < (bm g ss).length:=by have:=Wr h1; omega
 obtain ⟨t,tad,ht,hta,rt⟩:=tj rL h1
 obtain ⟨i0,q0,k0,e0,hi0,hq0,he0,hge,hte⟩:=iQ (Wu ht)
 have hnx:eW ss t.st.toNat t.sym = some e0.to:=by rw [hte]; exact oq hA hq0 he0
 obtain ⟨hto1,hto2⟩:=iP hc hA hnx
 obtain ⟨j0,hj0⟩ : ∃ j0:Nat,e0.to = j0:=⟨e0.to.toNat,by omega⟩
 rw [hj0] at hnx hto2
 have hto:j0 < ss.length:=by omega
 obtain ⟨r,hr⟩ : ∃ r,ss[j0]? = some r:=⟨_,Wv hto⟩
 have hdir:il g ss t = kE g t ++ Ax g r.2.2:=Cv hnx hr
 have hrl:=(hkl r (Wu hr)).2
 have hpl:=OG g t
 have hst0:0<=t.st:=by rw [hte]; exact W7 _
 have htk:(bm g ss).take (i + 1) = (bm g ss).take i ++ [t]:=by rw [Wz,ht]; rfl
 obtain ⟨sad,rfl,rs,_,re⟩:=hs j0 r hr
 refine aq hta h1 ⟨_,_,rt.at s4 rfl,ah h λk14 w5 h=>bu h rfl (by simp [aV]) λw6 h=>?_⟩
 have h:St w6 (aK k14 (Cp t) :: own 1 o7 ds.length c7 (ds.map dO) :: aG (ds.map (dp 1 iv)) :: all w3):=h
 have r14:av (hp w6) (aM k14) (Cp t):=ai 0 h.l
 have s6:sub (hp w3) (hp w6):=aU 3 h.l
 refine ⟨λo n c w'=>n = (kE g t).length/\St w' (own 1 o n c (iv (kE g t)) :: aK k14 (Cp t) :: own 1 o7 ds.length c7 (ds.map dO) :: aG (ds.map (dp 1 iv)) :: all w3),⟨_,_,r14.at (sub.refl _) rfl,_,B.c3 (sub.trans g13 s6),_,Rs w6 _ _ t ⟨0,x.s⟩,_,rfl,ae (λh2=>?_) λh2=>?_⟩,?_⟩
 ·have h2:t = ⟨0,g.start⟩:=by rw [<- hst]; exact Wr h2
  have e:kE g t = [0]:=by unfold kE; rw [WJ h2]
  refine ah h λk15 w7 h=>?_
  refine (aN (us:=[]) aQ (rfl:aj Ty _ = .slice _) (rfl:aj Ty _ = .slice _) rfl rfl rfl ((az 1 h).pick 5 [1,0,2,3,4]) rfl (by simp [aV]) (by decide) (by decide)).mono ?_
  rintro _ w8 ⟨o8,c8,rfl,h⟩
  rw [e]
  exact ⟨_,_,_,rfl,rfl,h.pick 5 [0,2,3,4]⟩
 ·have h2:¬t = ⟨0,g.start⟩:=by rw [<- hst]; exact Ws h2
  have e:kE g t = []:=by unfold kE; rw [WB h2]
  rw [e]
  exact ⟨rfl,az 1 h⟩
 clear h r14 s6
 rintro _ o9 _ c9 w9 ⟨rfl,h⟩
 intro w10 hd
 have h:=h.eq (aB hd)
 have s10:sub (hp w3) (hp w10):=aU 4 h.l
 have r14:av (hp w10) (aM k14) (Cp t):=ai 1 h.l
 refine ⟨λu=>Gr w10 u,Gr.refl _,_,_,_,λu s=>rk.cell (sub.trans s10 s) (j:=5) rfl,_,λu s=>rk.cell (sub.trans s10 s) (j:=8) rfl,_,_,λu s=>r14.at s rfl,(dj (κ:=au) hm s10 aQ (rfl:aj Ty _ = .map _ _) ew rfl rfl t).mono ?_⟩
 rintro _ w14 ⟨rfl,e14⟩
 rw [e14]
 rw [hW.all hst0,hnx]
 refine ⟨_,rfl,λu=>Gr w10 u,Gr.refl _,λ_ h=>h,aq rfl hto ⟨_,_,_,λu s=>rs.cell (sub.trans s10 s) (j:=1) rfl,λo n c z w'=>∃ j:Nat,z = j/\j<=r.2.2.length/\n = (kE g t ++ Ax g (r.2.2.take j)).length /\
  St w' (own 1 o n c (iv (kE g t ++ Ax g (r.2.2.take j))) :: own 1 o7 ds.length c7 (ds.map dO) :: aG (ds.map (dp 1 iv)) :: all w3),λ_ _ _ z _=>r.2.2.length - z.toNat,
  ⟨0,rfl,WC _,by simp [Ax],by simpa [Ax] using (show St w10 (own 1 o9 (kE g t).length c9 (iv (kE g t)) :: own 1 o7 ds.length c7 (ds.map dO) :: aG (ds.map (dp 1 iv)) :: all w3) from h.pick 4 [0,2,3])⟩,?_⟩⟩
 clear h r14
 rintro _ o13 _ c13 _ w17 ⟨j,rfl,hj,rfl,h⟩
 have s17:sub (hp w3) (hp w17):=aU 3 h.l
 have hfl:=Rr g (r.2.2.take j)
 rw [WV] at hfl
 refine ae (λh2=>?_) λh2=>?_
 ·have h2:j < r.2.2.length:=by have:=Wr h2; omega
  obtain ⟨e,ead,he,hea,red⟩:=lr re h2
  have htj:r.2.2.take (j + 1) = r.2.2.take j ++ [e]:=by rw [Wz,he]; rfl
  refine aq hea h2 ⟨_,_,red.at s17 rfl,ah h λk26 w18 h=>bu h rfl (by simp [aV]) λw19 h=>?_⟩
  have r26:av (hp w19) (aM k26) [.int .i64 e.sym,.int .i64 e.to]:=ai 0 h.l
  have s19:sub (hp w3) (hp w19):=aU 4 h.l
  refine ⟨_,r26.cell0 (sub.refl _),_,_,_,B.c0 (sub.trans g13 s19),ae (λh3=>?_) λh3=>?_⟩
  ·have h3:e.sym < (g.T:Int):=by rw [hTl]; exact Wr h3
   have z1:((kE g t ++ Ax g (r.2.2.take j)).length + 1) * 8<=140737488355328/\(kE g t ++ Ax g (r.2.2.take j)).length < 9223372036854775807:=by rw [WA]; omega
   refine ⟨_,r26.cell0 (sub.refl _),ah h λk29 w20 h=>?_⟩
   refine (aN (us:=iv (kE g t ++ Ax g (r.2.2.take j))) aQ (rfl:aj Ty _ = .slice _) (rfl:aj Ty _ = .slice _) rfl rfl rfl (h.pick 5 [0,2,3,4]) rfl (by simp [aV]) z1.1 z1.2).mono ?_
   rintro _ w21 ⟨o15,c15,rfl,h⟩
   have e2:kE g t ++ Ax g (r.2.2.take (j + 1)) = kE g t ++ Ax g (r.2.2.take j) ++ [e.sym]:=by rw [htj,HR,WJ h3,WG]
   have e3:iv (kE g t ++ Ax g (r.2.2.take (j + 1))) = iv (kE g t ++ Ax g (r.2.2.take j)) ++ [.int .i64 e.sym]:=by rw [e2]; unfold iv; rw [WZ]; rfl
   refine ⟨_,_,_,rfl,⟨by omega,by omega⟩,⟨j + 1,by simp,h2,by rw [e2]; simp; omega,?_⟩,bx h2⟩
   rw [e3]; exact h.pick 4 [0,2,3]
  ·have h3:¬e.sym < (g.T:Int):=by rw [hTl]; exact Ws h3
   have e2:Ax g (r.2.2.take (j + 1)) = Ax g (r.2.2.take j):=by rw [htj,HR,WB h3]
   exact ⟨⟨by omega,by omega⟩,⟨j + 1,by simp,h2,by rw [e2],by rw [e2]; exact h.pick 4 [1,2,3]⟩,bx h2⟩
 have h2:j = r.2.2.length:=by have:=Ws h2; omega
 rw [h2,WT,<- hdir] at h ⊢
 refine dr (gp (fa h) ⟨_,_,_,rfl,?_⟩)
 have h:=gn h
 refine ah h λk34 w23 h=>?_
 have z1:(ds.length + 1) * 24<=140737488355328/\ds.length < 9223372036854775807:=by omega
 refine (aN (us:=ds.map dO) aQ (rfl:aj Ty _ = .slice _) (rfl:aj Ty _ = .slice _) rfl rfl rfl (h.pick 4 [0,2,1,3]) rfl (by simp [aV]) z1.1 z1.2).mono ?_
 rintro _ w24 ⟨o17,c17,rfl,h⟩
 have h:=St.snoc (h.pick 4 [2,3,0])
 refine ⟨_,_,_,rfl,⟨by omega,by omega⟩,⟨i + 1,ds ++ [((gE o13 0 (il g ss t).length 1,(il g ss t).length),il g ss t)],by simp,h1,by simp,by rw [htk]; simp [hds],?_⟩,bx h1⟩
 have h3:St w24 (own 1 o17 (ds.length + 1) c17 (ds.map dO ++ [.slice (gE o13 0 (il g ss t).length 1) (il g ss t).length (il g ss t).length]) :: aG (ds.map (dp 1 iv) ++ [own 1 (gE o13 0 (il g ss t).length 1) (il g ss t).length (il g ss t).length (iv (il g ss t))]) :: all w3):=h.pick 2 [1,0]
 simpa [dO,dp] using h3
end Go.Proofs.YtndaepmjkbmjmaaGreatDoor

namespace Go.V
section
variable {g:af} {ss ss' : List SQ}
theorem OH (h:bz ss = bz ss') (i:Nat):(ss[i]?).map (λq=>q.2.2) = (ss'[i]?).map λq=>q.2.2:=by
 have:=congrArg (λl=>l[i]?) h
 unfold bz at this
 simpa [Wx] using this
theorem FO (h:bz ss = bz ss') (i:Nat) (s:Int):eW ss i s = eW ss' i s:=by
 have:=OH h i
 unfold eW
 cases h1:ss[i]? <;> cases h2:ss'[i]? <;> simp [h1,h2] at this ⊢
 rw [this]
theorem OI (h:bz ss = bz ss'):∀ i,uj g ss i = uj g ss' i
 | 0=>rfl
 | i + 1=>by
  have:=OH h i
  show uj g ss i ++ _ = uj g ss' i ++ _
  rw [OI h i]
  cases h1:ss[i]? <;> cases h2:ss'[i]? <;> simp [h1,h2] at this ⊢
  rw [this]
theorem FP (h:bz ss = bz ss'):ss.length = ss'.length:=by have:=congrArg List.length h; simpa [bz] using this
theorem tn (h:bz ss = bz ss'):bm g ss = bm g ss':=by unfold bm; rw [FP h,OI h]
theorem OJ (h:bz ss = bz ss') (t:au):il g ss t = il g ss' t:=by
 unfold il
 rw [FO h]
 congr 1
 cases eW ss' t.st.toNat t.sym with
 | none=>rfl
 | some j =>
  have:=OH h j.toNat
  show (match ss[j.toNat]? with | none=>[] | some q=>_) = (match ss'[j.toNat]? with | none=>[] | some q=>_)
  cases h1:ss[j.toNat]? <;> cases h2:ss'[j.toNat]? <;> simp [h1,h2] at this ⊢
  rw [this]
theorem FQ (h:bz ss = bz ss'):∀ (l:List Int) (q:Int),b9 ss q l = b9 ss' q l
 | [],q=>rfl
 | s :: l,q=>by
  unfold b9
  rw [FO h]
  cases eW ss' q.toNat s with
  | none=>rfl
  | some j=>exact FQ h l j
end
section
variable {g:af} {ss:List SQ}
theorem K_:∀ (n i:Nat),i<=n->∃ t,uj g ss n = uj g ss i ++ t
  | 0, i, h => ⟨[], by have : i = 0 := by omega
                       subst this; simp⟩
  | n + 1,i,h=>by
    by_cases e:i = n + 1
    · subst e; exact ⟨[],by simp⟩
    · obtain ⟨t,ht⟩:=K_ n i (by omega)
      exact ⟨t ++ (match ss[n]? with | some q=>fo g n q.2.2 | none=>[]),by rw [<- WG,<- ht]; rfl⟩
theorem OL (i:Nat) (a b:List aP):fo g i (a ++ b) = fo g i a ++ fo g i b:=by unfold fo; rw [W5,WZ]
theorem FR {i:Nat} {q:SQ} (hq:ss[i]? = some q) {j:Nat} {e:aP} (he:q.2.2[j]? = some e) (h:(g.T:Int)<=e.sym):(bm g ss)[(uj g ss i ++ fo g i (q.2.2.take j)).length]? = some ⟨(i:Int),e.sym⟩:=by
 have hi:=(Wt.1 hq).1
 obtain ⟨t,ht⟩:=K_ (g:=g) (ss:=ss) ss.length (i + 1) (by omega)
 have hd:q.2.2 = q.2.2.take j ++ e :: q.2.2.drop (j + 1):=by
  have hj:=(Wt.1 he)
  rw [<- hj.2,<- W_ hj.1,WX]
 have e1:fo g i q.2.2 = fo g i (q.2.2.take j) ++ ⟨(i:Int),e.sym⟩ :: fo g i (q.2.2.drop (j + 1)):=by
  conv=>lhs; rw [hd]
  rw [OL]
  congr 1
  unfold fo
  rw [X3 (by simpa using h)]
  rfl
 unfold bm
 rw [ht,oh hq,e1,<- WG,WG,WK (WO _),Xz]
 rfl
end
section
variable {g:af} {ss:List SQ}
theorem OM (W:Nat->Bool) (n:Nat):(List.range (n + 1)).filter W = (List.range n).filter W ++ if W n = true then [n] else []:=by
 rw [XD,W5]
 congr 1
 by_cases h:W n = true <;> simp [h]
def TE (g:af) (ss:List SQ) (t:au) (j n:Nat):Bool:=if n = 0 then decide (t = ⟨0,g.start⟩) else (eW ss j n).isSome
theorem lz (h:bn g ss) {j:Nat} {r:SQ} (hr:ss[j]? = some r) {n:Nat} (hn:n < g.T + g.N):(eW ss j (n:Int)).isSome = decide (aF g r.1.2 (n:Int)≠[]):=by
 have hrise:=Cq h hr
 rw [om hr,Option.isSome_map,Xh,WH,List.find?_isSome]
 constructor
 ·rintro ⟨e,he,h1⟩
  have h1:e.sym = n:=Wr h1
  have:e.sym∈r.2.2.map (·.sym):=WS.2 ⟨e,he,rfl⟩
  rw [hrise,h1] at this
  obtain ⟨m,hm,e2⟩:=WS.1 this
  have e2:m = n:=Int.ofNat.inj e2
  subst e2
  exact ud m hm
 ·intro hk
  have:(n:Int)∈r.2.2.map (·.sym):=by
   rw [hrise]
   exact WS.2 ⟨n,W9.2 ⟨WY.2 hn,W4 hk⟩,rfl⟩
  obtain ⟨e,he,h1⟩:=WS.1 this
  exact ⟨e,he,W4 h1⟩
theorem ON:∀ (T N:Nat) (p:Nat->Bool),((List.range (T + N)).filter p).filter (λn=>decide (n < T)) = (List.range T).filter p
 | T,0,p=>by
  rw [Nat.add_zero,List.filter_filter]
  refine XF λn hn=>?_
  rw [WY] at hn
  simp [hn]
 | T,N + 1,p=>by
  rw [<- Nat.add_assoc,OM,W5,ON T N p]
  have:(if p (T + N) = true then [T + N] else []).filter (λn=>decide (n < T)) = []:=by split <;> simp
  rw [this,W2]
theorem OO (h:bn g ss) {j:Nat} {r:SQ} (hr:ss[j]? = some r):Ax g r.2.2 = ((List.range g.T).filter λn=>decide (aF g r.1.2 (n:Nat)≠[])).map Int.ofNat:=by
 have hrise:=Cq h hr
 have e1:Ax g r.2.2 = (r.2.2.map (·.sym)).filter λs=>decide (s < (g.T:Int)):=by
  unfold Ax
  rw [List.filter_map]
  rfl
 have e2:=ON g.T g.N λn=>decide (aF g r.1.2 (n:Nat)≠[])
 rw [e1,hrise,List.filter_map,<- e2]
 congr 1
 refine XF λn hn=>?_
 show decide ((n:Int) < _) = _
 exact decide_eq_decide.2 (by omega)
theorem Rt (hc:ak g) (h:bn g ss) {t:au} {j:Nat} {r:SQ} (hr:ss[j]? = some r):kE g t ++ Ax g r.2.2 = ((List.range g.T).filter (TE g ss t j)).map Int.ofNat:=by
 obtain ⟨hT,hN,hP,hP2,h1,_⟩:=hc.ct
 have hK:=(fl h hr).1
 have hf:=(di (g:=g) (by omega) j).fit _ (Wu hK)
 have h0:=Oz hc hf
 rw [OO h hr]
 obtain ⟨T,hT'⟩ : ∃ T,g.T = T + 1:=⟨g.T - 1,by omega⟩
 rw [hT',List.range_succ_eq_map]
 have e1:((0 :: (List.range T).map Nat.succ).filter λn=>decide (aF g r.1.2 (n:Nat)≠[])) = ((List.range T).map Nat.succ).filter λn=>decide (aF g r.1.2 (n:Nat)≠[]):=by
  rw [X4]
  simpa using h0
 have e2:((List.range T).map Nat.succ).filter (TE g ss t j) = ((List.range T).map Nat.succ).filter λn=>decide (aF g r.1.2 (n:Nat)≠[]):=by
  refine XF λn hn=>?_
  obtain ⟨m,hm,rfl⟩:=WS.1 hn
  rw [WY] at hm
  unfold TE
  rw [WB (by omega),lz h hr (by omega)]
 rw [e1]
 unfold kE
 by_cases ht:t = ⟨0,g.start⟩
 ·rw [WJ ht,X3 (by unfold TE; simp [ht]),e2]
  rfl
 ·rw [WB ht,X4 (by unfold TE; simp [ht]),e2]
  rfl
end
section
variable {g:af} {ss:List SQ}
theorem jn (q s:Int) (l:List Int):b9 ss q (s :: l) = match eW ss q.toNat s with | none=>-1 | some j=>b9 ss j l:=rfl
theorem xI (hn:∀ i s j,eW ss i s = some j->0<=j/\j < ss.length):∀ (l:List Int) (q:Int),0<=q->q < ss.length->b9 ss q l = -1\/(0<=b9 ss q l/\b9 ss q l < ss.length)
 | [],q,h1,h2=>.inr ⟨h1,h2⟩
 | s :: l,q,h1,h2=>by
  unfold b9
  cases h:eW ss q.toNat s with
  | none=>exact .inl rfl
  | some j=>exact xI hn l j (hn _ _ _ h).1 (hn _ _ _ h).2
theorem tp (hn:∀ i s j,eW ss i s = some j->0<=j/\j < ss.length) (b:List Int):∀ (l:List Int) (q:Int),0<=q->q < ss.length->b9 ss q (l ++ b) = if b9 ss q l = -1 then -1 else b9 ss (b9 ss q l) b
 | [],q,h1,h2=>by
  show b9 ss q b = if q = -1 then -1 else b9 ss q b
  rw [WB (by omega)]
 | s :: l,q,h1,h2=>by
  show b9 ss q (s :: (l ++ b)) = _
  rw [jn q s (l ++ b),jn q s l]
  cases h:eW ss q.toNat s with
  | none=>simp
  | some j=>exact tp hn b l j (hn _ _ _ h).1 (hn _ _ _ h).2
end
section
variable {g:af} {ss:List SQ}
theorem uk (hc:ak g) (hA:bn g ss) {i:Nat} {q:SQ} (hq:ss[i]? = some q) {y:ag} {s:Int} (hy:nZ g q.1.2 y) (hs:cO g y = s) (h0:0<=s):∃ (j:Nat) (r:SQ),eW ss i s = some (j:Int)/\ss[j]? = some r/\(⟨y.prod,y.dot + 1⟩ : ag)∈r.1.2:=by
 obtain ⟨hT,hN,hP,hP2,_,_⟩:=hc.ct
 have hK:=(fl hA hq).1
 have hf:=(di (g:=g) (by omega) i).fit _ (Wu hK)
 have hm:(⟨y.prod,y.dot + 1⟩ : ag)∈aF g q.1.2 s:=cJ.2 ⟨y,hy,hs,rfl⟩
 have hne:aF g q.1.2 s≠[]:=List.ne_nil_of_mem hm
 have hsr:=s_ hc hf h0 hne
 obtain ⟨n,rfl⟩ : ∃ n:Nat,s = n:=⟨s.toNat,by omega⟩
 have hsome:=lz hA hq (n:=n) (by omega)
 rw [W4 hne] at hsome
 obtain ⟨t,ht⟩:=Ye.1 hsome
 obtain ⟨q',k,e,hq',he,he1,he2⟩:=pG ht
 rw [hq] at hq'; cases hq'
 obtain ⟨_,_,j,r,hj,_,hr,hrk,_⟩:=fm hc hA hq he
 refine ⟨j,r,by rw [ht,<- he2,hj],hr,?_⟩
 rw [hrk,he1]
 exact hm
theorem pH (hc:ak g) (hA:bn g ss) {n:Nat} {p:aH} (hp:g.prods[n]? = some p):∀ (d m:Nat),m + d = p.right.length->∀ (i:Nat) (q:SQ),ss[i]? = some q->nZ g q.1.2 ⟨(n:Int),(m:Int)⟩ ->
  ∃ (j:Nat) (r:SQ),b9 ss (i:Int) (p.right.drop m) = (j:Int)/\ss[j]? = some r/\nZ g r.1.2 ⟨(n:Int),(p.right.length:Int)⟩
 | 0,m,hm,i,q,hq,hy=>⟨i,q,by rw [XG (by omega)]; rfl,hq,by rw [show p.right.length = m by omega]; exact hy⟩
 | d + 1,m,hm,i,q,hq,hy=>by
  have hlt:m < p.right.length:=by omega
  have hpm:p∈g.prods:=Wu hp
  have hs:cO g ⟨(n:Int),(m:Int)⟩ = p.right[m]:=by
   rw [jM (p:=p) (by show g.prods[(n:Int).toNat]? = _; rw [WQ]; exact hp)]
   show p.right.getD (m:Int).toNat (-1) = _
   rw [WQ]
   simp [hlt]
  have hsy:=hc.sym hpm (List.getElem_mem hlt)
  obtain ⟨j,r,h1,h2,h3⟩:=uk hc hA hq hy hs (by omega)
  have h4:nZ g r.1.2 ⟨(n:Int),((m + 1:Nat):Int)⟩:=.base (by simpa using h3)
  obtain ⟨j',r',e1,e2,e3⟩:=pH hc hA hp d (m + 1) (by omega) j r h2 h4
  refine ⟨j',r',?_,e2,e3⟩
  rw [W_ hlt,jn,WQ,h1]
  exact e1
theorem Ru (hc:ak g) (hA:bn g ss) {i:Nat} {q:SQ} (hq:ss[i]? = some q) {n:Nat} {p:aH} (hp:g.prods[n]? = some p) (hy:nZ g q.1.2 ⟨(n:Int),0⟩):(eW ss i p.left).isSome = decide (n≠0):=by
 have hc':=hc
 obtain ⟨_,hsy,hpr,p0,hp0,hl0,hr0,_⟩:=hc'
 obtain ⟨hT,hN,hP,hP2,_,hN2⟩:=hc.ct
 have hdr:∀ (m:Nat) p',g.prods[m]? = some p'->m≠0->kY g 1 p':=λm p' hm h0=>by
  refine hpr.2.2.1 p' (Wu (i:=m - 1) ?_)
  rw [W8,show 1 + (m - 1) = m by omega]; exact hm
 by_cases h0:n = 0
 ·subst h0
  rw [hp0] at hp; cases hp
  rw [hl0,lz hA hq (by omega)]
  have hK:=(fl hA hq).1
  have hf:=(di (g:=g) (by omega) i).fit _ (Wu hK)
  have:aF g q.1.2 (g.T:Int) = []:=by
   refine Xv λhne=>?_
   obtain ⟨x,hx⟩:=XP _ hne
   obtain ⟨y,h1,h2,_⟩:=cJ.1 hx
   obtain ⟨p',hp',_,h3⟩:=Ca (h1.fit hf) h2 (W7 _)
   by_cases h4:y.prod.toNat = 0
   ·rw [h4,hp0] at hp'; cases hp'
    rw [hr0] at h3
    have:=Wu h3
    rw [WW] at this
    have:=hpr.2.2.2.2.1
    omega
   ·have:=(hdr _ _ hp' h4).2 _ (Wu h3)
    unfold eM at this
    omega
  rw [this]; simp
 ·have hpo:=hdr n p hp h0
  have hsome:∃ j:Int,eW ss i p.left = some j:=by
   generalize hz:(⟨(n:Int),0⟩ : ag) = z at hy
   cases hy with
   | base h =>
    subst hz
    cases i with
    | zero =>
     have hK:=(fl hA hq).1
     have e:q.1.2 = [⟨0,0⟩]:=by
      have:(b_ g 0).1[0]? = some [⟨0,0⟩]:=rfl
      rw [this] at hK
      exact (Option.some.inj hK).symm
     rw [e,WW] at h
     have:=congrArg ag.prod h
     simp at this
     omega
    | succ i =>
     have:=(Ro hc hA (by omega) hq h).2.1
     simp at this
   | step hy' h1 hp' hl' =>
    rename_i y i' p'
    have e:i' = n:=by
     have:=congrArg ag.prod hz
     simp at this
     omega
    subst e
    rw [hp] at hp'; cases hp'
    obtain ⟨j,r,h2,_⟩:=uk hc hA hq hy' hl'.symm (by rw [hl']; exact h1)
    exact ⟨j,h2⟩
  obtain ⟨j,hj⟩:=hsome
  rw [hj]
  simp [h0]
end
section
variable {g:af} {ss:List SQ}
theorem ot {h:Hp} {xs:List ag} {a:YB} {l:Nat} (r:a_ h xs a l) {i:Nat} (hi:i < l):∃ x ad,xs[i]? = some x/\a = some ad/\av h (ad.add (cY i 2)) (cj x):=by
 obtain ⟨x,ad,vs,hx,ha,hr,e⟩:=r.get hi
 rw [show vs = cj x from e] at hr
 exact ⟨x,ad,hx,ha,hr⟩
end
end Go.V
namespace Go.Proofs.YtndaepmjkbmjmaaGreatDoor
abbrev ou:FuncId:=164
def vQ:bg:={ rngs:=[],loops:=[],joins:=[],blocks:=[] }
theorem vR {a:YB} {b c:Nat} {d:YB} {e f:Nat} {g:YB} {i j:Nat} {k:Int} {l:YB} {m n:Nat} {w:YC} {R:Value->WP} (h:new w (oC [vS a b c,vS d e f,vS g i j,iI k,vS l m n] 27) λk1 w1=>∃ o1 k2 k3 o2 k4 k5 o3 k6 k7 n1 o4 k8 k9,rA w1 (aM k1) 5 [vS o1 k2 k3,vS o2 k4 k5,vS o3 k6 k7,iI n1,vS o4 k8 k9]/\rE 215 [vG [vS o1 k2 k3,vS o2 k4 k5,vS o3 k6 k7,iI n1,vS o4 k8 k9]] w1 λv1 w2=>∃ b1,v1 = vB b1/\br (!b1) (R (vU [vS none 0 0,iI 1]) w2) (∀ w3,drawn w2 w3->∃ (I1:WP),I1 w3/\∃ o5 k10 k11 o6 k12 k13 o7 k14 k15 n2 o8 k16 k17,(∀ w4,I1 w4->rA w4 (aM k1) 5 [vS o5 k10 k11,vS o6 k12 k13,vS o7 k14 k15,iI n2,vS o8 k16 k17])/\∃ o9 k18 k19,(∀ w5,I1 w5->cL w5 (aM k1) (vS o9 k18 k19))/\rE 216 [vG [vS o5 k10 k11,vS o6 k12 k13,vS o7 k14 k15,iI n2,vS o8 k16 k17]] w3 λv2 w6=>∃ o10,v2 = vP o10/\∃ (I2:WP),I2 w6/\(∀ w7,I2 w7->I1 w7)/\nn o10 λa1=>∃ o11 k20 k21,(∀ w8,I2 w8->cL w8 (Addr.add a1 5) (vS o11 k20 k21))/\uw o11 k20 k21 (some (k18:Int)) none none 1 λ(o12:YB) (k22 k23:Nat)=>R (vU [vS o12 k22 k23,iI 0]) w6)):aA Tryz.prog 164 [(.agg #[(.slice a b c),(.slice d e f),(.slice g i j),(.int .i64 k),(.slice l m n)])] w R:=rv Tryz.func164 vQ (by kernel_rfl) h
abbrev Cw:FuncId:=215
def y7:bg:={ rngs:=[],loops:=[],joins:=[],blocks:=[] }
theorem y8 {a:YB} {b c:Nat} {d:YB} {e f:Nat} {g:YB} {i j:Nat} {k:Int} {l:YB} {m n:Nat} {w:YC} {R:Value->WP} (h:new w (oC [vS a b c,vS d e f,vS g i j,iI k,vS l m n] 27) λk1 w1=>∃ o1 k2 k3 o2 k4 k5 o3 k6 k7 n1 o4 k8 k9,rA w1 (aM k1) 5 [vS o1 k2 k3,vS o2 k4 k5,vS o3 k6 k7,iI n1,vS o4 k8 k9]/\rE 247 [vG [vS o1 k2 k3,vS o2 k4 k5,vS o3 k6 k7,iI n1,vS o4 k8 k9]] w1 λv1 w2=>∃ b1,v1 = vB b1/\br b1 (R (vB true) w2) (∃ o5 k10 k11 o6 k12 k13 o7 k14 k15 n2 o8 k16 k17,rA w2 (aM k1) 5 [vS o5 k10 k11,vS o6 k12 k13,vS o7 k14 k15,iI n2,vS o8 k16 k17]/\rE 49 [vG [vS o5 k10 k11,vS o6 k12 k13,vS o7 k14 k15,iI n2,vS o8 k16 k17]] w2 λv2 w3=>∃ b2,v2 = vB b2/\R (vB b2) w3)):aA Tryz.prog 215 [(.agg #[(.slice a b c),(.slice d e f),(.slice g i j),(.int .i64 k),(.slice l m n)])] w R:=rv Tryz.func215 y7 (by kernel_rfl) h
abbrev JN:FuncId:=216
def FT:bg:={ rngs:=[],loops:=[(4,[(24,(.one (.int .i64)))]),(9,[(6,(.one (.int .i64)))]),(12,[(6,(.one (.int .i64))),(48,(.one (.int .i64)))])],joins:=[],blocks:=[] }
theorem FU {a:YB} {b c:Nat} {d:YB} {e f:Nat} {g:YB} {i j:Nat} {k:Int} {l:YB} {m n:Nat} {w:YC} {R:Value->WP} (h:new w (oC [vS a b c,vS d e f,vS g i j,iI k,vS l m n] 27) λk1 w1=>∃ o1 k2 k3,cL w1 (aM k1) (vS o1 k2 k3)/\∃ o2 k4 k5,cL w1 (Addr.add (aM k1) 1) (vS o2 k4 k5)/\ax ((k2:Int) + (k4:Int))/\∀ w2,drawn w1 w2->∃ (I1:WP),I1 w2/\∃ o3 k6 k7 o4 k8 k9 o5 k10 k11 n1 o6 k12 k13,(∀ w3,I1 w3->rA w3 (aM k1) 5 [vS o3 k6 k7,vS o4 k8 k9,vS o5 k10 k11,iI n1,vS o6 k12 k13])/\wG ((k2:Int) + (k4:Int)) ((k2:Int) + (k4:Int)) 1/\new w2 (Obj.cells (Array.mk (jB (Int.toNat ((k2:Int) + (k4:Int))) [vB false])) 4) λk14 w4=>I1 w4/\new w4 (oC [vS o3 k6 k7,vS o4 k8 k9,vS o5 k10 k11,iI n1,vS o6 k12 k13,vS (some (aM k14)) (Int.toNat ((k2:Int) + (k4:Int))) (Int.toNat ((k2:Int) + (k4:Int))),vS none 0 0] 291) λk15 w5=>I1 w5/\∃ (x1:lP [(24,aD)]),∃ (x2:lN [(24,aD)]),x1 0 w5/\∀ (I2:Nat->Value) (n2:Int) (w6:YC),x1 n2 w6->br (decide (n2 < (k2:Int) + (k4:Int))) (∀ w7,drawn w6 w7->∃ (I3:WP),I3 w7/\∃ o7 k16 k17,(∀ w8,I3 w8->cL w8 (Addr.add (aM k15) 6) (vS o7 k16 k17))/\∃ o8 k18 k19,(∀ w9,I3 w9->cL w9 (aM k1) (vS o8 k18 k19))/\new w7 (oC [iI n2] 3) λk20 w10=>I3 w10/\rE 59 [iI (k18:Int),vS (some (aM k20)) 1 1] w10 λv1 w11=>∃ o9,v1 = vP o9/\I3 w11/\new w11 (oC [vP o9] 118) λk21 w12=>I3 w12/\rS (ir 286 (Array.mk [vS o7 k16 k17,vS (some (aM k21)) 1 1])) w12 λv2 w13=>∃ o10 k22 k23,v2 = vS o10 k22 k23/\I3 w13/\st1 w13 (Addr.add (aM k15) 6) (vS o10 k22 k23) λw14=>ax (n2 + 1)/\x1 (n2 + 1) w14/\x2 (n2 + 1) w14 < x2 n2 w6) (∃ (x3:lP [(6,aD)]),∃ (x4:lN [(6,aD)]),x3 1 w6/\∀ (I4:Nat->Value) (n3:Int) (w15:YC),x3 n3 w15->br (decide (0 < n3)) (∃ o11 k24 k25,cL w15 (Addr.add (aM k1) 4) (vS o11 k24 k25)/\∃ (x5:lP [(6,aD),(48,aD)]),∃ (x6:lN [(6,aD),(48,aD)]),x5 0 0 w15/\∀ (I5:Nat->Value) (n4 n5:Int) (w16:YC),x5 n4 n5 w16->br (decide (n5 < (k24:Int))) (idx o11 k24 n5 3 λa1=>∃ n6 o12 k26 k27 n7,rA w16 a1 3 [iI n6,vS o12 k26 k27,iI n7]/\new w16 (oC [iI 0,vS none 0 0,iI 0] 81) λk28 w17=>fL w17 (aM k28) [iI n6,vS o12 k26 k27,iI n7] λw18=>∀ w19,drawn w18 w19->∃ (I6:WP),I6 w19/\∃ o13 k29 k30,(∀ w20,I6 w20->cL w20 (Addr.add (aM k15) 6) (vS o13 k29 k30))/\∃ n8,(∀ w21,I6 w21->cL w21 (aM k28) (iI n8))/\idx o13 k29 n8 1 λa2=>∃ o14,(∀ w22,I6 w22->cL w22 a2 (vP o14))/\∃ o15 k31 k32,(∀ w23,I6 w23->cL w23 (Addr.add (aM k28) 1) (vS o15 k31 k32))/\rE 248 [vP (some (aM k15)),vP o14,vS o15 k31 k32] w19 λv3 w24=>∃ n9 b1,v3 = vU [iI n9,vB b1]/\I6 w24/\ax (n4 + n9)/\∀ w25,drawn w24 w25->∃ (I7:WP),I7 w25/\br b1 (∃ o16 k33 k34,(∀ w26,I7 w26->cL w26 (Addr.add (aM k15) 5) (vS o16 k33 k34))/\∃ n10,(∀ w27,I7 w27->cL w27 (aM k28) (iI n10))/\idx o16 k33 n10 1 λa3=>∃ b2,(∀ w28,I7 w28->cL w28 a3 (vB b2))/\br (!b2) (∀ w29,drawn w25 w29->∃ (I8:WP),I8 w29/\∃ o17 k35 k36,(∀ w30,I8 w30->cL w30 (Addr.add (aM k15) 5) (vS o17 k35 k36))/\∃ n11,(∀ w31,I8 w31->cL w31 (aM k28) (iI n11))/\idx o17 k35 n11 1 λa4=>st1 w29 a4 (vB true) λw32=>ax (n4 + n9 + 1)/\ax (n5 + 1)/\x5 (n4 + n9 + 1) (n5 + 1) w32/\x6 (n4 + n9 + 1) (n5 + 1) w32 < x6 n4 n5 w16) (ax (n5 + 1)/\x5 (n4 + n9) (n5 + 1) w25/\x6 (n4 + n9) (n5 + 1) w25 < x6 n4 n5 w16)) (ax (n5 + 1)/\x5 (n4 + n9) (n5 + 1) w25/\x6 (n4 + n9) (n5 + 1) w25 < x6 n4 n5 w16)) (x3 n4 w16/\x4 n4 w16 < x4 n3 w15)) (R (vP (some (aM k15))) w15))):aA Tryz.prog 216 [(.agg #[(.slice a b c),(.slice d e f),(.slice g i j),(.int .i64 k),(.slice l m n)])] w R:=rv Tryz.func216 FT (by kernel_rfl) h
abbrev y9:FuncId:=248
def vV:bg:={ rngs:=[],loops:=[(3,[(8,(.one (.int .i64))),(13,(.one (.int .i64)))])],joins:=[],blocks:=[] }
theorem vW {a b c:YB} {d e:Nat} {w:YC} {R:Value->WP} (h:∃ (x1:lP [(8,aD),(13,aD)]),∃ (x2:lN [(8,aD),(13,aD)]),x1 0 0 w/\∀ (I1:Nat->Value) (n1 n2:Int) (w1:YC),x1 n1 n2 w1->br (decide (n2 < (d:Int))) (idx c d n2 1 λa1=>∃ n3,cL w1 a1 (iI n3)/\nn a λa2=>∃ o1 k1 k2,cL w1 (Addr.add a2 6) (vS o1 k1 k2)/\idx o1 k1 n3 1 λa3=>∃ o2,cL w1 a3 (vP o2)/\new w1 (oC [vP o2] 118) λk3 w2=>rE 213 [vP b,vS (some (aM k3)) 1 1] w2 λv1 w3=>∃ n4,v1 = iI n4/\ax (n1 + n4)/\nn a λa4=>∃ o3 k4 k5,cL w3 (Addr.add a4 5) (vS o3 k4 k5)/\idx o3 k4 n3 1 λa5=>∃ b1,cL w3 a5 (vB b1)/\br (!b1) (R (vU [iI (n1 + n4),vB false]) w3) (ax (n2 + 1)/\x1 (n1 + n4) (n2 + 1) w3/\x2 (n1 + n4) (n2 + 1) w3 < x2 n1 n2 w1)) (R (vU [iI n1,vB true]) w1)):aA Tryz.prog 248 [(.pointer a),(.pointer b),(.slice c d e)] w R:=rv Tryz.func248 vV (by kernel_rfl) h
end Go.Proofs.YtndaepmjkbmjmaaGreatDoor
namespace Go.V
def ee (nl:List Bool) (vs:List (List Bool)):List Bool->List Int->List Bool
 | bs,[]=>bs
 | bs,s :: r=>if aO nl s.toNat then ee nl vs (dg bs (df (vs.getD s.toNat []))) r else dg bs (df (vs.getD s.toNat []))
def uN (nl:List Bool) (row:List Int):Bool:=row.all λs=>aO nl s.toNat
theorem Cx (nl:List Bool) (vs:List (List Bool)) (bs:List Bool):ee nl vs bs [] = bs:=rfl
theorem y_ (nl:List Bool) (vs:List (List Bool)) (bs:List Bool) (s:Int) (r:List Int):ee nl vs bs (s :: r) = if aO nl s.toNat then ee nl vs (dg bs (df (vs.getD s.toNat []))) r else dg bs (df (vs.getD s.toNat [])):=rfl
theorem tq (nl:List Bool) (vs:List (List Bool)):∀ (row:List Int) (bs:List Bool),(ee nl vs bs row).length = bs.length
 | [],bs=>rfl
 | s :: r,bs=>by
  unfold ee
  split
  ·rw [tq nl vs r,bI]
  ·rw [bI]
theorem pI (nl:List Bool) (vs:List (List Bool)):∀ (row:List Int) (bs:List Bool) (k:Nat),aO bs k = true->aO (ee nl vs bs row) k = true
 | [],bs,k,h=>h
 | s :: r,bs,k,h=>by
  unfold ee
  have:aO (dg bs (df (vs.getD s.toNat []))) k = true:=by rw [dT,h]; rfl
  split
  ·exact pI nl vs r _ k this
  ·exact this
theorem za (nl:List Bool) (vs:List (List Bool)):∀ (row:List Int) (bs:List Bool),aY bs<=aY (ee nl vs bs row)
 | [],bs=>WO _
 | s :: r,bs=>by
  unfold ee
  split
  ·exact W0 (nT _ _) (za nl vs r _)
  ·exact nT _ _
end Go.V
namespace Go.Proofs.YtndaepmjkbmjmaaGreatDoor
section
variable {w:YC} {L:List ay} {a an ao:YB} {l c nl cn ol co ks:Nat} {p:YB} {bs nulls:List Bool} {row:List Int} {os:List (YB)} {vss:List (List Bool)} {gs:List Value}
theorem UY (h:St w (eG p bs :: L)) (hs:∀ h,aC L h->av h ⟨ks,0,none⟩ (gs ++ [.slice an nl cn,.slice ao ol co])) (hgs:gs.length = 5) (hn:∀ h,aC L h->a_ h nulls an nl) (ho:∀ h,aC L h->a_ h os ao ol) (hv:vss.length = os.length) (hno:nulls.length = os.length)
  (hq:∀ h,aC L h->∀ (i:Nat) q v,os[i]? = some q->vss[i]? = some v->nU h q v\/(q = p/\v = bs)) (ht:∀ h,aC L h->eF h)
  (hr:∀ h,aC L h->a_ h row a l) (hin:∀ s∈row,0<=s/\s.toNat < os.length) (hb:l<=4611686018427387904) :
  aA Tryz.prog y9 [.pointer (some ⟨ks,0,none⟩),.pointer p,.slice a l c] w λv w'=>v = .tuple #[.int .i64 ((aY (ee nulls vss bs row):Int) - aY bs),.bool (uN nulls row)]/\St w' (eG p (ee nulls vss bs row) :: L):=by
 obtain ⟨h0,hl,_,h1⟩:=h.freeze
 have hs:=hs h0 hl
 have hn:=hn h0 hl
 have ho:=ho h0 hl
 have hq:=hq h0 hl
 have ht:eF h0:=ht h0 hl
 have hr:=hr h0 hl
 have hn1:=h.nU.le
 have done:∀ w' b,St w' (eG p b :: [has h0])->St w' (eG p b :: L):=λw' b h=>h.qk hl
 clear h hl
 have c5:∀ w',sub h0 (hp w')->w'.cell? ((⟨ks,0,none⟩ : Addr).add 5) = some (.slice an nl cn):=λw' s=>hs.cell s (j:=5) (by rw [WK (by omega),hgs]; rfl)
 have c6:∀ w',sub h0 (hp w')->w'.cell? ((⟨ks,0,none⟩ : Addr).add 6) = some (.slice ao ol co):=λw' s=>hs.cell s (j:=6) (by rw [WK (by omega),hgs]; rfl)
 refine vW ?_
 refine ⟨λn1 n2 w'=>∃ (j:Nat) (U:List Bool),n2 = j/\j<=l/\n1 = (aY U:Int) - aY bs/\aY bs<=aY U/\U.length = bs.length/\(∀ k,aO bs k = true->aO U k = true)/\ee nulls vss bs row = ee nulls vss U (row.drop j)/\uN nulls row = uN nulls (row.drop j)/\St w' [eG p U,has h0],λ_ n2 _=>l - n2.toNat,⟨0,bs,rfl,by omega,by omega,WO _,rfl,λ_ h=>h,by simp,by simp,h1⟩,?_⟩
 clear h1
 rintro _ _ n2 w1 ⟨j,U,rfl,hj,rfl,hcU,hlU,hsub,e1,e2,h⟩
 have s1:sub h0 (hp w1):=(h.pick 2 [1]).has
 have k1:=fy U
 refine ae (λhlt=>?_) λhlt=>?_
 ·have hlt:j < l:=by have:=Wr hlt; omega
  obtain ⟨y,ad,hy1,hya,hy2⟩:=hr.cF hlt
  obtain ⟨y0,yl⟩:=hin y (Wu hy1)
  obtain ⟨q,ad2,hq1,hqa,hq2⟩:=ho.cF (i:=y.toNat) (by have:=ho.1; omega)
  obtain ⟨v,hv1⟩ : ∃ v,vss[y.toNat]? = some v:=⟨vss[y.toNat]'(by omega),Wv _⟩
  obtain ⟨z,ad3,hz1,hza,hz2⟩:=hn.cF (i:=y.toNat) (by have:=hn.1; omega)
  have hvd:vss.getD y.toNat [] = v:=by simp [List.getD,hv1]
  have hzd:aO nulls y.toNat = z:=by simp [aO,List.getD,hz1]
  have ed:row.drop j = y :: row.drop (j + 1):=by
   have:=W_ (l:=row) (i:=j) (by rw [hr.1]; exact hlt)
   rw [this]; congr 1
   have:=Wt.1 hy1; exact this.2
  refine aw hya hlt ⟨y,hy2 _ s1,_,_,_,c6 _ s1,?_⟩
  have ey:y = ((y.toNat:Nat):Int):=by omega
  rw [ey]
  refine aw hqa (by have:=ho.1; omega) ⟨q,hq2 _ s1,ah h λb2 w2 h2=>?_⟩
  have hq':=hq _ _ _ hq1 hv1
  obtain ⟨v',hr',he'⟩ : ∃ v',(∀ h,aC [aK b2 [.pointer q],has h0] h->nU h q v'\/(q = p/\v' = U))/\dg U (df v') = dg U (df v):=by
   rcases hq' with hr | ⟨rfl,rfl⟩
   ·exact ⟨v,λh hh=>.inl (hr.mono (kW (A:=has h0) (Yx _ (List.mem_singleton_self _)) hh |>.elim λh1 x=>x.2.trans x.1)),rfl⟩
   ·exact ⟨U,λh hh=>.inr ⟨rfl,rfl⟩,by rw [t_ λ_ h=>h,t_ hsub]⟩
  refine (KP (vss:=[v']) (os:=[q]) (l:=1) (h2.pick 3 [1,0,2]) (λh hh=>?_) rfl (λh hh i q' w' hi hw=>?_) (λh hh=>?_) (by omega)).mono ?_
  ·obtain ⟨h1,_,_,s1,_,⟨e,he⟩,_⟩:=hh
   exact (fi (xs:=[q]) rfl (.inr ⟨_,rfl,ph ⟨e,he⟩⟩)).mono s1
  ·match i,hi,hw with
   | 0,hi,hw=>cases hi; cases hw; exact hr' h hh
   | i + 1,hi,_=>simp at hi
  ·exact eJ.mono (kW (A:=has h0) (Yx _ (List.mem_singleton_self _)) hh |>.elim λh1 x=>x.2.trans x.1) ht
  rintro _ w3 ⟨rfl,h3⟩
  have eU:cG U [v'] = dg U (df v):=he'
  rw [eU] at h3 ⊢
  have h3:=h3.pick 3 [0,2]
  have s3:sub h0 (hp w3):=(h3.pick 2 [1]).has
  have k2:=nT U (df v)
  have k3:=fy (dg U (df v))
  rw [bI] at k3
  rw [ed] at e1 e2
  rw [y_,hvd,hzd] at e1
  rw [show uN nulls (y :: row.drop (j + 1)) = (z && uN nulls (row.drop (j + 1))) from by unfold uN; rw [List.all_cons,hzd]] at e2
  refine ⟨_,rfl,⟨by omega,by omega⟩,_,_,_,c5 _ s3,?_⟩
  refine aw hza (by have:=hn.1; omega) ⟨z,hz2 _ s3,ae (λh4=>?_) λh4=>?_⟩
  ·have h4:z = false:=by simpa using h4
   subst h4
   simp only [X0,if_false] at e1
   refine ⟨?_,?_⟩
   ·rw [e1,e2,Bool.false_and,show (aY U:Int) - aY bs + ((aY (dg U (df v)):Int) - aY U) = (aY (dg U (df v)):Int) - aY bs from by omega]
   ·rw [e1]; exact done _ _ h3
  ·have h4:z = true:=by simpa using h4
   subst h4
   simp only [if_true] at e1
   rw [X9] at e2
   refine ⟨⟨by omega,by omega⟩,⟨j + 1,dg U (df v),by simp,by omega,by omega,by omega,by rw [bI]; exact hlU,λk hk=>by rw [dT,hsub k hk]; rfl,e1,e2,h3⟩,bx hlt⟩
 ·have hlt:j = l:=by have:=Ws hlt; omega
  subst hlt
  rw [XG (by have:=hr.1; omega)] at e1 e2
  rw [Cx] at e1
  refine ⟨?_,?_⟩
  ·rw [e1,e2]; rfl
  ·rw [e1]; exact done _ _ h
end
end Go.Proofs.YtndaepmjkbmjmaaGreatDoor
namespace Go.V
inductive Ay (g:af):Int->Prop
 | mk (p:aH):p∈g.prods->(∀ s∈p.right,Ay g s)->Ay g p.left
inductive MZ (g:af):Int->Nat->Prop
 | tm (t:Nat):t < g.T->MZ g (t:Int) t
 | pr (p:aH) (i:Nat) (s:Int) (t:Nat):p∈g.prods->p.right[i]? = some s->(∀ x∈p.right.take i,Ay g x)->MZ g s t->MZ g p.left t
def DC (g:af) (row:List Int):Prop:=∀ s∈row,Ay g s
def qZ (g:af) (row:List Int) (t:Nat):Prop:=∃ (i:Nat) (s:Int),row[i]? = some s/\(∀ x∈row.take i,Ay g x)/\MZ g s t
theorem xJ {nl:List Bool} {row:List Int}:uN nl row = true↔∀ s∈row,aO nl s.toNat = true:=by
 unfold uN; rw [X5]
theorem tu (nl:List Bool) (vs:List (List Bool)):∀ (row:List Int) (bs:List Bool) (k:Nat),aO (ee nl vs bs row) k = true↔aO bs k = true\/(k < bs.length/\∃ (i:Nat) (s:Int),row[i]? = some s/\(∀ x∈row.take i,aO nl x.toNat = true)/\aO (vs.getD s.toNat []) k = true)
 | [],bs,k=>by rw [Cx]; simp
 | s :: r,bs,k=>by
  rw [y_]
  constructor
  ·intro h
   by_cases hz:aO nl s.toNat = true
   ·rw [WJ hz,tu nl vs r] at h
    rw [dT,bI,Xt,WL,WH] at h
    rcases h with (h | ⟨h1,h2⟩) | ⟨h1,i,y,h2,h3,h4⟩
    ·exact .inl h
    ·exact .inr ⟨h1,0,s,rfl,by simp,h2⟩
    ·refine .inr ⟨h1,i + 1,y,h2,?_,h4⟩
     intro x hx
     rw [List.take_succ_cons] at hx
     rcases WM.1 hx with rfl | hx
     ·exact hz
     ·exact h3 x hx
   ·rw [WB hz,dT,Xt,WL,WH] at h
    rcases h with h | ⟨h1,h2⟩
    ·exact .inl h
    ·exact .inr ⟨h1,0,s,rfl,by simp,h2⟩
  ·intro h
   have hu:(aO bs k = true\/(k < bs.length/\aO (vs.getD s.toNat []) k = true))->aO (dg bs (df (vs.getD s.toNat []))) k = true:=λh=>by
    rw [dT,Xt,WL,WH]; exact h
   by_cases hz:aO nl s.toNat = true
   ·rw [WJ hz,tu nl vs r,bI]
    rcases h with h | ⟨h1,i,y,h2,h3,h4⟩
    ·exact .inl (hu (.inl h))
    ·match i,h2,h3 with
     | 0,h2,_=>cases h2; exact .inl (hu (.inr ⟨h1,h4⟩))
     | i + 1,h2,h3=>exact .inr ⟨h1,i,y,h2,λx hx=>h3 x (by rw [List.take_succ_cons]; exact Yx _ hx),h4⟩
   ·rw [WB hz]
    rcases h with h | ⟨h1,i,y,h2,h3,h4⟩
    ·exact hu (.inl h)
    ·match i,h2,h3 with
     | 0,h2,_=>cases h2; exact hu (.inr ⟨h1,h4⟩)
     | i + 1,h2,h3=>exact absurd (h3 s (by rw [List.take_succ_cons]; exact List.mem_cons_self)) hz
def Qi (g:af):Prop:=∀ p∈g.prods,((g.T:Int)<=p.left/\p.left < g.T + g.N)/\∀ s∈p.right,0<=s/\s < (g.T:Int) + g.N
structure DD (g:af) (nl:List Bool) (vs:List (List Bool)):Prop where
 ln:nl.length = g.T + g.N
 lv:vs.length = g.T + g.N
 le:∀ v∈vs,v.length = g.T
 sn:∀ i,aO nl i = true->Ay g (i:Int)
 sv:∀ i t,aO (vs.getD i []) t = true->MZ g (i:Int) t
 tm:∀ t,t < g.T->aO (vs.getD t []) t = true
def Rv (nl:List Bool) (vs:List (List Bool)) (p:aH):Prop:=(uN nl p.right = true->aO nl p.left.toNat = true)/\ee nl vs (vs.getD p.left.toNat []) p.right = vs.getD p.left.toNat []
theorem bU {s:Int} (h:0<=s):((s.toNat:Nat):Int) = s:=by omega
theorem DD.row {g:af} {nl:List Bool} {vs:List (List Bool)} (m:DD g nl vs) {row:List Int} (hr:∀ s∈row,0<=s/\s < (g.T:Int) + g.N):(uN nl row = true->DC g row)/\∀ bs t,aO (ee nl vs bs row) t = true->aO bs t = true\/qZ g row t:=by
 refine ⟨λh s hs=>?_,λbs t h=>?_⟩
 ·have:=m.sn _ (xJ.1 h s hs)
  rwa [bU (hr s hs).1] at this
 ·rcases (tu nl vs row bs t).1 h with h | ⟨_,i,s,h1,h2,h3⟩
  ·exact .inl h
  ·refine .inr ⟨i,s,h1,λx hx=>?_,?_⟩
   ·have:=m.sn _ (h2 x hx)
    rwa [bU (hr x (Yy hx)).1] at this
   ·have:=m.sv _ _ h3
    rwa [bU (hr s (Wu h1)).1] at this
theorem Ay.left {g:af} (hg:Qi g) {s:Int} (h:Ay g s):(g.T:Int)<=s/\s < g.T + g.N:=by
 cases h with | mk p hp _=>exact (hg p hp).1
theorem MZ.lt {g:af} {s:Int} {t:Nat} (h:MZ g s t):t < g.T:=by
 induction h with
 | tm t h=>exact h
 | pr p i s t _ _ _ _ ih=>exact ih
structure JO (g:af) (nl:List Bool) (vs:List (List Bool)):Prop where
 ln:nl.length = g.T + g.N
 lv:vs.length = g.T + g.N
 le:∀ v∈vs,v.length = g.T
 nn:∀ i,aO nl i = true↔Ay g (i:Int)
 nv:∀ i t,aO (vs.getD i []) t = true↔MZ g (i:Int) t
theorem DD.HS {g:af} {nl:List Bool} {vs:List (List Bool)} (m:DD g nl vs) {i:Nat} (hi:i < g.T + g.N):(vs.getD i []).length = g.T:=by
 have h:vs[i]? = some (vs[i]'(by rw [m.lv]; exact hi)):=Wv _
 rw [List.getD,h]
 exact m.le _ (Wu h)
theorem DD.all {g:af} {nl:List Bool} {vs:List (List Bool)} (hg:Qi g) (m:DD g nl vs) (hc:∀ p∈g.prods,Rv nl vs p):JO g nl vs:=by
 have cn:∀ s,Ay g s->aO nl s.toNat = true:=λs h=>by
  induction h with
  | mk p hp _ ih=>exact (hc p hp).1 (xJ.2 ih)
 have cv:∀ s t,MZ g s t->aO (vs.getD s.toNat []) t = true:=λs t h=>by
  induction h with
  | tm t h=>exact m.tm t h
  | pr p i s t hp hi hx hs ih =>
   have hl:=(hg p hp).1
   rw [<- (hc p hp).2,tu]
   exact .inr ⟨by rw [m.HS (by omega)]; exact hs.lt,i,s,hi,λx hx'=>cn x (hx x hx'),ih⟩
 exact ⟨m.ln,m.lv,m.le,λi=>⟨m.sn i,λh=>cn _ h⟩,λi t=>⟨m.sv i t,λh=>cv _ _ h⟩⟩
theorem JO.row {g:af} {nl:List Bool} {vs:List (List Bool)} (m:JO g nl vs) {row:List Int} (hr:∀ s∈row,0<=s/\s < (g.T:Int) + g.N):(uN nl row = true↔DC g row)/\∀ bs t,aO (ee nl vs bs row) t = true↔aO bs t = true\/(t < bs.length/\qZ g row t):=by
 refine ⟨?_,λbs t=>?_⟩
 ·rw [xJ]
  refine forall_congr' λs=>⟨λh hs=>?_,λh hs=>?_⟩
  ·have:=(m.nn _).1 (h hs); rwa [bU (hr s hs).1] at this
  ·exact (m.nn _).2 (by rw [bU (hr s hs).1]; exact h hs)
 ·rw [tu]
  refine or_congr Iff.rfl (and_congr Iff.rfl (exists_congr λi=>exists_congr λs=>?_))
  refine ⟨λ⟨h1,h2,h3⟩=>⟨h1,λx hx=>?_,?_⟩,λ⟨h1,h2,h3⟩=>⟨h1,λx hx=>?_,?_⟩⟩
  ·have:=(m.nn _).1 (h2 x hx); rwa [bU (hr x (Yy hx)).1] at this
  ·have:=(m.nv _ _).1 h3; rwa [bU (hr s (Wu h1)).1] at this
  ·exact (m.nn _).2 (by rw [bU (hr x (Yy hx)).1]; exact h2 x hx)
  ·exact (m.nv _ _).2 (by rw [bU (hr s (Wu h1)).1]; exact h3)
def Cy (v:List Bool):Nat:=v.length - aY v
def l_ (nl:List Bool) (vs:List (List Bool)):Nat:=Cy nl + (vs.map Cy).sum
theorem La:∀ {l:List Nat} {k x y:Nat},l[k]? = some x->(l.set k y).sum + x = l.sum + y
 | [],k,x,y,h=>by simp at h
 | z :: l,0,x,y,h=>by simp at h; subst h; simp; omega
 | z :: l,k + 1,x,y,h=>by
  have:=La (l:=l) (k:=k) (x:=x) (y:=y) (by simpa using h)
  simp; omega
theorem HT {nl:List Bool} {vs:List (List Bool)} {k:Nat} {v v' : List Bool} (h:vs[k]? = some v) (hl:v'.length = v.length) (hc:aY v<=aY v'):l_ nl (vs.set k v') + (aY v' - aY v) = l_ nl vs:=by
 have h1:=La (l:=vs.map Cy) (k:=k) (x:=Cy v) (y:=Cy v') (by rw [Wx,h]; rfl)
 have h2:=fy v
 have h3:=fy v'
 unfold l_
 rw [Xy]
 unfold Cy at *
 omega
theorem exists_least {P:Nat->Prop} (h:∃ m,P m):∃ m,P m/\∀ k,P k->m<=k:=by
 obtain ⟨m,hm⟩:=h
 induction m using Nat.strongRecOn with
 | _ m ih =>
  by_cases hl:∃ k,k < m/\P k
  ·obtain ⟨k,hk,hp⟩:=hl
   exact ih k hk hp
  ·exact ⟨m,hm,λk hk=>X6 λhlt=>hl ⟨k,hlt,hk⟩⟩
theorem Cz {α : Type} (P:α->Nat->Prop):∃ μ : α->Nat,(∀ x m,P x m->μ x<=m)/\∀ x,(∃ m,P x m)->P x (μ x):=by
 have h:∀ x,∃ m,(∀ k,P x k->m<=k)/\((∃ k,P x k)->P x m):=λx=>by
  by_cases hx:∃ k,P x k
  ·obtain ⟨m,h1,h2⟩:=exists_least hx
   exact ⟨m,h2,λ_=>h1⟩
  ·exact ⟨0,λk hk=>absurd ⟨k,hk⟩ hx,λh=>absurd h hx⟩
 exact ⟨λx=>(h x).choose,λx=>(h x).choose_spec.1,λx=>(h x).choose_spec.2⟩
theorem zb {m m' : Nat->Bool} (h:∀ k,m k = true->m' k = true):∀ n,j_ n m<=j_ n m'/\(j_ n m = j_ n m'->∀ k,k < n->m k = m' k)
 | 0=>⟨WO _,λ_ k hk=>by omega⟩
 | n + 1=>by
  obtain ⟨h1,h2⟩:=zb h n
  rw [sA,sA]
  have h3:=h n
  cases e:m n <;> cases e' : m' n
  ·refine ⟨by simpa using h1,λhe k hk=>?_⟩
   by_cases ek:k = n
   ·subst ek; rw [e,e']
   ·exact h2 (by simpa using he) k (by omega)
  ·simp only [X0,if_false,if_true]
   exact ⟨by omega,λhe=>by omega⟩
  ·rw [e,e'] at h3; simp at h3
  ·refine ⟨by simpa using h1,λhe k hk=>?_⟩
   by_cases ek:k = n
   ·subst ek; rw [e,e']
   ·exact h2 (by simpa using he) k (by omega)
theorem CA {bs cs:List Bool} (hl:cs.length = bs.length) (hs:∀ k,aO bs k = true->aO cs k = true) (hc:aY cs = aY bs):cs = bs:=by
 refine gF hl λk=>?_
 by_cases hk:k < bs.length
 ·unfold aY at hc
  rw [hl] at hc
  exact ((zb hs bs.length).2 hc.symm k hk).symm
 ·rw [pk (by omega),pk (by omega)]
theorem ox {nl:List Bool} {k:Nat} (hk:k < nl.length) (j:Nat):aO (nl.set k true) j = (aO nl j || j == k):=by
 unfold aO
 rw [Ww,Ww,XA]
 by_cases e:k = j
 ·subst e; simp [hk]
 ·have:¬ j = k:=λh=>e h.symm
  simp [e,this]
theorem Lb {nl:List Bool} {k:Nat} (hk:k < nl.length) (hf:aO nl k = false):Cy (nl.set k true) + 1 = Cy nl:=by
 have h1:aY (nl.set k true) = aY nl + 1:=by
  unfold aY
  rw [W1,<- KJ hk hf]
  exact D9 λj _=>ox hk j
 have h2:=fy (nl.set k true)
 rw [W1] at h2
 unfold Cy
 rw [W1]
 omega
theorem Et {vs:List (List Bool)} {k:Nat} (hk:k < vs.length) (v:List Bool) (j:Nat):(vs.set k v).getD j [] = if j = k then v else vs.getD j []:=by
 rw [Ww,Ww,XA]
 by_cases e:k = j
 ·subst e; simp [hk]
 ·have:¬ j = k:=λh=>e h.symm
  simp [e,this]
theorem DD.lay {g:af} (hg:Qi g) {nl:List Bool} {vs:List (List Bool)} (m:DD g nl vs) {p:aH} (hp:p∈g.prods):DD g nl (vs.set p.left.toNat (ee nl vs (vs.getD p.left.toNat []) p.right)):=by
 obtain ⟨hl,hr⟩:=hg p hp
 have hk:p.left.toNat < g.T + g.N:=by omega
 have hkv:p.left.toNat < vs.length:=by rw [m.lv]; exact hk
 refine ⟨m.ln,by rw [W1]; exact m.lv,λv hv=>?_,m.sn,λi t h=>?_,λt ht=>?_⟩
 ·rcases Yb hv with hv | rfl
  ·exact m.le v hv
  ·rw [tq]; exact m.HS hk
 ·rw [Et hkv] at h
  split at h
  ·rename_i e
   subst e
   rw [bU (by omega)]
   rcases (m.row hr).2 _ _ h with h | ⟨i,s,h1,h2,h3⟩
   ·have:=m.sv _ _ h; rwa [bU (by omega)] at this
   ·exact .pr p i s t hp h1 h2 h3
  ·exact m.sv _ _ h
 ·rw [Et hkv]
  split
  ·omega
  ·exact m.tm t ht
theorem DD.VH {g:af} (hg:Qi g) {nl:List Bool} {vs:List (List Bool)} (m:DD g nl vs) {p:aH} (hp:p∈g.prods) (hn:DC g p.right):DD g (nl.set p.left.toNat true) vs:=by
 obtain ⟨hl,hr⟩:=hg p hp
 have hk:p.left.toNat < nl.length:=by rw [m.ln]; omega
 refine ⟨by rw [W1]; exact m.ln,m.lv,m.le,λi h=>?_,m.sv,m.tm⟩
 rw [ox hk,Xt,Yo] at h
 rcases h with h | rfl
 ·exact m.sn i h
 ·rw [bU (by omega)]; exact .mk p hp hn
theorem Rw {g:af} {nl:List Bool} {vs:List (List Bool)} (m:DD g nl vs):l_ nl vs<=(g.T + g.N) + (g.T + g.N) * g.T:=by
 unfold l_
 have h1:Cy nl<=g.T + g.N:=by unfold Cy; rw [m.ln]; omega
 have h2:∀ l:List (List Bool),(∀ v∈l,v.length = g.T)->(l.map Cy).sum<=l.length * g.T:=λl=>by
  induction l with
  | nil=>intro _; simp
  | cons v l ih =>
   intro h
   have h3:=ih λu hu=>h u (Yx _ hu)
   have h4:Cy v<=g.T:=by unfold Cy; rw [h v List.mem_cons_self]; omega
   simp only [Xf,Yz,Xj,XU]
   omega
 have h3:=h2 vs m.le
 rw [m.lv] at h3
 omega
theorem Rx {g:af} (h:gI g):Qi g/\g.T<=65/\g.N<=65/\0 < g.N/\0 < g.T/\g.prods.length<=97:=by
 have hT:g.T = g.terms.length:=rfl
 have hN:g.N = g.nons.length:=rfl
 rcases h with ⟨s,p,_⟩ | ⟨h0,s,p,q,hq,q1,q2,q3⟩
 ·have h2:=xj.1 s
  have t0:0 < g.terms.length:=(Wt.1 s.1).1
  refine ⟨λr hr=>?_,by omega,by omega,by omega,by omega,by have:=p.2.1; omega⟩
  have:=p.2.2.1 r hr
  exact ⟨⟨by have:=this.1.1; omega,this.1.2.1⟩,λy hy=>by have:=this.2 y hy; unfold eM at this; omega⟩
 ·have h2:=xj.1 s
  have t0:0 < g.terms.length:=(Wt.1 s.1).1
  refine ⟨λr hr=>?_,by omega,by omega,by omega,by omega,by have:=p.2.1; omega⟩
  have hd:r = q\/r∈g.prods.drop 1:=by
   cases hg:g.prods with
   | nil=>rw [hg] at hr; cases hr
   | cons a l =>
    rw [hg] at hr hq
    cases hq
    rcases WM.1 hr with h | h
    ·exact .inl h
    ·exact .inr h
  rcases hd with rfl | hd
  ·refine ⟨by omega,λy hy=>?_⟩
   rw [q2,WW] at hy
   subst hy
   have:=p.2.2.2.2; omega
  ·have:=p.2.2.1 r hd
   exact ⟨⟨by have:=this.1.1; omega,this.1.2.1⟩,λy hy=>by have:=this.2 y hy; unfold eM at this; omega⟩
theorem A3 {α : Sort _} (a:α):∃ q,q = a:=⟨a,rfl⟩
def FC (x:GA) (k14 n:Nat) (o:YB) (j c:Nat):List Value:=[.slice x.ta x.tl x.tc,.slice x.na x.nl x.nc,.slice x.la x.ll x.lc,.int .i64 x.s,.slice x.pa x.pl x.pc,.slice (some ⟨k14,0,none⟩) n n,.slice o j c]
def lA (T j:Nat):List (List Bool):=(List.range j).map λ(i:Nat)=>Dt (T:Int) [(i:Int)]
theorem JP (T j:Nat):lA T (j + 1) = lA T j ++ [Dt (T:Int) [(j:Int)]]:=by simp [lA,XD]
theorem Eu (T j:Nat):(lA T j).length = j:=by simp [lA]
theorem JQ {T i:Nat} (hT:T<=65) (t:Nat):(Dt (T:Int) [(i:Int)]).length = T/\(aO (Dt (T:Int) [(i:Int)]) t = true↔t = i/\t < T):=by
 have hN:IE (T:Int) = T:=by unfold IE; split <;> split at * <;> omega
 unfold Dt
 refine ⟨by rw [bI,Yp,hN],?_⟩
 rw [gG,Yp,hN,fO,kA,Bool.false_or]
 simp only [WL,WH,XY,WW]
 omega
theorem OP {g:af} (hT:g.T<=65):DD g (List.replicate (g.T + g.N) false) (lA g.T (g.T + g.N)):=by
 have hget:∀ i,aO ((lA g.T (g.T + g.N)).getD i []) = if i < g.T + g.N then aO (Dt (g.T:Int) [(i:Int)]) else aO []:=λi=>by
  unfold lA
  rw [Ww,Wx]
  by_cases h:i < g.T + g.N
  ·rw [XV h,WJ h]; rfl
  ·rw [WR (by simp; omega),WB h]; rfl
 refine ⟨by simp,Eu _ _,λv hv=>?_,λi h=>?_,λi t h=>?_,λt ht=>?_⟩
 ·obtain ⟨i,_,rfl⟩:=WS.1 hv
  exact (JQ hT 0).1
 ·rw [kA] at h; cases h
 ·rw [hget] at h
  split at h
  ·obtain ⟨rfl,h'⟩:=((JQ hT t).2).1 h
   exact .tm t h'
  ·simp [aO] at h
 ·rw [hget,WJ (by omega)]
  exact (JQ hT t).2.2 ⟨rfl,ht⟩
end Go.V
namespace Go.Proofs.YtndaepmjkbmjmaaGreatDoor
section
variable {w:YC} {L:List ay} {g:af} {x:GA}
theorem VI (hg:gR (hp w) g x) (hb:ik g) (he:gI g) (ht:eF (hp w)):aA Tryz.prog JN [.agg ⟨x.cells⟩] w λv w'=>∃ (b k14:Nat) (o:YB) (c:Nat) (nl:List Bool) (ps:List Nat) (vs:List (List Bool)),v = .pointer (some ⟨b,0,none⟩)/\JO g nl vs/\ps.length = vs.length /\
  St w' (aK b (FC x k14 (g.T + g.N) o ps.length c) :: aK k14 (bv nl) :: own 1 o ps.length c (pv (ps.map bk)) :: aG (je ps vs) :: all w):=by
 refine FU ?_
 refine cN hg λk1 w1 gw hg B=>?_
 obtain ⟨iG,bT,bN,pN,pT,bP⟩:=Rx he
 have tl:g.T = x.tl:=hg.t.1
 have nl:g.N = x.nl:=hg.n.1
 have pl:=hg.p.1
 have ht:=eJ.mono gw ht
 refine ⟨_,_,_,B.c0 (sub.refl _),_,_,_,B.c1 (sub.refl _),⟨by omega,by omega⟩,λw2 hd=>?_⟩
 have e2:hp w2 = hp w1:=dB hd
 have gs:sub (hp w) (hp w1):=gw
 generalize hH:hp w1 = H at *
 have eN:(x.tl:Int) + (x.nl:Int) = ((g.T + g.N:Nat):Int):=by rw [tl,nl]; omega
 rw [eN]
 have hTe:(x.tl:Int) = (g.T:Int):=by rw [tl]
 rw [WQ,de]
 have h2:St w2 [has H]:=by have:=St.all w2; unfold V.all at this; rwa [e2] at this
 refine ⟨λw=>sub H (hp w),e2 ▸ sub.refl _,_,_,_,_,_,_,_,_,_,_,_,_,_,λw s=>B.row s,⟨by omega,rfl,by omega⟩,ah h2 λk14 w4 h4=>⟨aU 1 h4.l,ah h4 λk15 w5 h5=>⟨aU 2 h5.l,?_⟩⟩⟩
 clear h2 h4
 have bvr:List.replicate (g.T + g.N) (Value.bool false) = bv (List.replicate (g.T + g.N) false):=by simp [bv]
 rw [bvr] at h5
 refine ⟨λn w'=>∃ (j:Nat) (o:YB) (c:Nat) (ps:List Nat),n = j/\j<=g.T + g.N/\ps.length = j/\St w' [aK k15 (FC x k14 (g.T + g.N) o j c),aK k14 (bv (List.replicate (g.T + g.N) false)),own 1 o j c (pv (ps.map bk)),aG (je ps (lA g.T j)),has H],λn _=>g.T + g.N - n.toNat,⟨0,none,0,[],rfl,by omega,rfl,?_⟩,?_⟩
 ·have h6:=az 1 h5
  have h7:St w5 (aG (je [] (lA g.T 0)) :: _):=St.flat.2 (show St w5 ([] ++ _) from h6)
  exact h7.pick 5 [2,3,1,0,4]
 clear h5
 rintro _ n2 w6 ⟨j,o,c,ps,rfl,hj,hps,h⟩
 refine ae (λhlt=>?_) λhlt=>?_
 ·have hlt:j < g.T + g.N:=by have:=Wr hlt; omega
  intro w7 hd
  have h:=h.drawn hd
  have I:∀ {w:YC} {cs},av (hp w) ⟨k15,0,none⟩ cs->sub H (hp w)->av (hp w) ⟨k15,0,none⟩ cs/\sub H (hp w):=λa b=>⟨a,b⟩
  refine ⟨λw=>av (hp w) ⟨k15,0,none⟩ (FC x k14 (g.T + g.N) o j c)/\sub H (hp w),I (ai 0 h.l) (aU 4 h.l),_,_,_,λw h=>h.1.cell (sub.refl _) (j:=6) rfl,_,_,_,λw h=>B.c0 h.2,ah h λk20 w10 h=>⟨I (ai 1 h.l) (aU 5 h.l),?_⟩⟩
  refine (Tm (xs:=[(j:Int)]) (l:=1) (x.tl:Int) (dS rfl (.inr ⟨_,rfl,ai 0 h.l⟩)) (by omega)).mono ?_
  rintro _ w11 ⟨px,rfl,h1⟩
  have h:=h1.qk h
  refine ⟨_,rfl,I (ai 2 h.l) (aU 6 h.l),ah h λk21 w12 h=>⟨I (ai 3 h.l) (aU 7 h.l),?_⟩⟩
  refine (aN aQ (rfl:aj Ty _ = .slice _) (rfl:aj Ty _ = .slice _) rfl rfl rfl (h.pick 8 [0,5,1,2,3,4,6,7]) rfl (by simp [aV]) (by show (_ + 1) * 8<=_; omega) (by omega)).mono ?_
  rintro _ w13 ⟨o',c',rfl,h⟩
  refine ⟨_,_,_,rfl,I (ai 4 h.l) (aU 7 h.l),?_⟩
  show st1 w13 ((⟨k15,0,none⟩ : Addr).add 6) _ _
  rw [aL]
  refine bj (h.pick 8 [4,0,2,5,6,7]) (by simp [FC]) λw14 h=>⟨⟨by omega,by omega⟩,⟨j + 1,o',c',ps ++ [px],by simp,by omega,by simp [hps],?_⟩,bx hlt⟩
  have h:St w14 [aK k15 (FC x k14 (g.T + g.N) o' (j + 1) c'),own 1 o' (j + 1) c' (pv (ps.map bk) ++ [.pointer (some ⟨px,0,none⟩)]),eG (some ⟨px,0,none⟩) (Dt (x.tl:Int) [(j:Int)]),aK k14 (bv (List.replicate (g.T + g.N) false)),aG (je ps (lA g.T j)),has H]:=h
  have e1:pv (ps.map bk) ++ [.pointer (some ⟨px,0,none⟩)] = pv ((ps ++ [px]).map bk):=by simp [pv,bk]
  have lSv:(je ps (lA g.T j) ++ [eG (some ⟨px,0,none⟩) (Dt (x.tl:Int) [(j:Int)])]) = je (ps ++ [px]) (lA g.T (j + 1)):=by
   rw [JP,hTe]; unfold je; rw [List.zipWith_append (by rw [Eu]; exact hps)]; rfl
  rw [e1] at h
  have h:=St.snoc (A:=eG (some ⟨px,0,none⟩) (Dt (x.tl:Int) [(j:Int)])) (M:=je ps (lA g.T j)) (h.pick 6 [2,4,0,1,3,5])
  rw [lSv] at h
  exact h.pick 5 [1,3,2,0,4]
 have hlt:j = g.T + g.N:=by have:=Ws hlt; omega
 subst hlt
 obtain ⟨Q,hQ⟩:=A3 (λ(n:Int) (w:YC) (m:Nat)=>∃ (nl:List Bool) (vs:List (List Bool)),DD g nl vs/\0<=n/\(m:Int) = l_ nl vs + (if 0 < n then 1 else 0)/\(n = 0->∀ p∈g.prods,Rv nl vs p) /\
  St w [aK k15 (FC x k14 (g.T + g.N) o (g.T + g.N) c),aK k14 (bv nl),own 1 o (g.T + g.N) c (pv (ps.map bk)),aG (je ps vs),has H])
 obtain ⟨μ,mu1,mu2⟩:=Cz (λ(y:Int × YC) m=>Q y.1 y.2 m)
 refine ⟨λn w'=>∃ m,Q n w' m,λn w=>μ (n,w),⟨l_ (List.replicate (g.T + g.N) false) (lA g.T (g.T + g.N)) + 1,?_⟩,?_⟩
 ·rw [hQ]
  exact ⟨_,_,OP bT,by decide,by simp,λh=>absurd h (by decide),h⟩
 clear h
 intro _ n3 w15 hP
 have hP:=mu2 (n3,w15) hP
 dsimp only at hP
 generalize hμ : μ (n3,w15) = μ0 at *
 rw [hQ] at hP
 obtain ⟨nl0,vs0,mk0,hn3,hmu,hcl,h⟩:=hP
 refine ae (λhpos=>?_) λhpos=>?_
 rotate_left
 ·have hpos:=Ws hpos
  have hcl:=hcl (by omega)
  refine ⟨k15,k14,o,c,nl0,ps,vs0,rfl,mk0.all iG hcl,by rw [hps,mk0.lv],?_⟩
  rw [hps]
  exact St.on (N:=[_,_,_,_]) h (bC gs)
 have hpos:=Wr hpos
 rw [WJ hpos] at hmu
 refine ⟨_,_,_,B.c4 (aU 4 h.l),λn4 n5 w'=>∃ (j:Nat) (nl:List Bool) (vs:List (List Bool)),n5 = j/\j<=x.pl/\0<=n4/\n4 + l_ nl vs = l_ nl0 vs0/\DD g nl vs/\(n4 = 0->∀ p∈g.prods.take j,Rv nl vs p)/\St w' [aK k15 (FC x k14 (g.T + g.N) o (g.T + g.N) c),aK k14 (bv nl),own 1 o (g.T + g.N) c (pv (ps.map bk)),aG (je ps vs),has H],λ_ n5 _=>x.pl - n5.toNat,⟨0,nl0,vs0,rfl,by omega,by omega,by omega,mk0,by simp,h⟩,?_⟩
 clear h
 rintro _ n4 n5 w16 ⟨j,nl,vs,rfl,hj,hn4,hm4,mk,hcl4,h⟩
 refine ae (λhlt=>?_) λhlt=>?_
 rotate_left
 ·have hlt:j = x.pl:=by have:=Ws hlt; omega
  subst hlt
  rw [WN (by omega)] at hcl4
  have key:Q n4 w16 (l_ nl vs + (if 0 < n4 then 1 else 0)):=by
   rw [hQ]; exact ⟨nl,vs,mk,hn4,by split <;> simp,hcl4,h⟩
  refine ⟨⟨_,key⟩,?_⟩
  have:=mu1 (n4,w16) _ key
  dsimp only
  rw [hμ]
  split at this <;> omega
 have hlt:j < x.pl:=by have:=Wr hlt; omega
 obtain ⟨p,ad,pvs,hp1,hpa,hp2,a,l,c3,rfl,hlc,hp3⟩:=hg.p.get hlt
 have hpm:=Wu hp1
 obtain ⟨hpl,hpr⟩:=iG p hpm
 have et:g.prods.take (j + 1) = g.prods.take j ++ [p]:=by rw [Wz,hp1]; rfl
 refine aq hpa hlt ⟨_,_,_,_,_,hp2.at (aU 4 h.l) rfl,ah h λk28 w17 h=>bu h rfl (by intro v hv; simp at hv; rcases hv with rfl | rfl | rfl <;> rfl) λw18 h=>?_⟩
 intro w19 hd
 have h:=h.drawn hd
 obtain ⟨k,hk⟩ : ∃ k:Nat,p.left = k:=⟨p.left.toNat,by omega⟩
 rw [hk] at h
 have hkt:p.left.toNat = k:=by omega
 have hkN:k < g.T + g.N:=by omega
 obtain ⟨px,hpx⟩ : ∃ px,ps[k]? = some px:=⟨ps[k]'(by omega),Wv _⟩
 obtain ⟨v,hv⟩ : ∃ v,vs[k]? = some v:=⟨vs[k]'(by rw [mk.lv]; exact hkN),Wv _⟩
 have hvd:vs.getD k [] = v:=by rw [Ww,hv]; rfl
 have hpb:(ps.map bk)[k]? = some (bk px):=by rw [Wx,hpx]; rfl
 have rp:a_ (hp w19) (ps.map bk) o (g.T + g.N):=To 3 h.l rfl rfl (by simp [hps])
 obtain ⟨q,ad2,hq1,hqa,hq2⟩:=rp.cF hkN
 rw [hpb] at hq1; cases hq1
 refine ⟨λw=>av (hp w) ⟨k15,0,none⟩ (FC x k14 (g.T + g.N) o (g.T + g.N) c)/\av (hp w) ⟨k28,0,none⟩ [.int .i64 (k:Int),.slice a l c3,.int .i64 p.level]/\a_ (hp w) (ps.map bk) o (g.T + g.N),⟨ai 1 h.l,ai 0 h.l,rp⟩,_,_,_,λw h=>h.1.cell (sub.refl _) (j:=6) rfl,_,λw h=>h.2.1.cell0 (sub.refl _),?_⟩
 refine aw hqa hkN ⟨bk px,λw h=>?_,_,_,_,λw h=>h.2.1.cell (sub.refl _) (j:=1) rfl,?_⟩
 ·obtain ⟨q',ad',e1,e2,e3⟩:=h.2.2.cF hkN
  rw [hpb] at e1; cases e1
  rw [hqa] at e2; cases e2
  exact e3 _ (sub.refl _)
 have gS:(je ps vs)[k]? = some (eG (bk px) v):=by unfold je; rw [XZ,hpx,hv]
 have EW:∀ v',(je ps vs).set k (eG (bk px) v') = je ps (vs.set k v'):=λv'=>KQ (λp v=>eG (bk p) v) hpx
 have h:=St.out (h.pick 6 [4,0,1,2,3,5]) gS
 refine (UY (nulls:=nl) (os:=ps.map bk) (vss:=vs) (row:=p.right) (gs:=x.cells) h (λh hh=>ai 2 hh) rfl (λh hh=>kU mk.ln (.inr ⟨_,rfl,ai 3 hh⟩)) (λh hh=>To 4 hh rfl rfl (by simp [hps])) (by simp [hps,mk.lv]) (by simp [hps,mk.ln]) (λh hh i q v' hi hv'=>?_) (λh hh=>eJ.mono (aU 5 hh) ht) (λh hh=>hp3.mono (aU 5 hh)) (λs hs=>⟨(hpr s hs).1,?_⟩) ?_).mono ?_
 ·rw [Wx] at hi
  cases hpi:ps[i]? with
  | none=>rw [hpi] at hi; cases hi
  | some pi =>
   rw [hpi] at hi; cases hi
   by_cases ek:i = k
   ·subst ek
    rw [hpx] at hpi; cases hpi
    rw [hv] at hv'; cases hv'
    exact .inr ⟨rfl,rfl⟩
   ·exact .inl (VC 0 hh hpi hv' ek)
 ·have:=(hpr s hs).2; simp [hps]; omega
 ·have:=hp3.1; have:=hb.2.2.2.2.2.2 p hpm; omega
 rintro _ w24 ⟨rfl,h⟩
 have mk':=mk.lay iG hpm
 rw [hkt,hvd] at mk'
 have hv'l:(ee nl vs v p.right).length = v.length:=tq _ _ _ _
 have hcv:=za nl vs p.right v
 have hms:=HT (nl:=nl) hv hv'l hcv
 have hsb:=pI nl vs p.right v
 have hml:=Rw mk0
 have hmb:(g.T + g.N) + (g.T + g.N) * g.T<=100000:=by
  have:=Yg (show g.T + g.N<=130 by omega) bT; omega
 have hstay:(uN nl p.right = true->aO nl k = true)->n4 + ((aY (ee nl vs v p.right):Int) - aY v) = 0->∀ r∈g.prods.take (j + 1),Rv nl (vs.set k (ee nl vs v p.right)) r:=λhnn h0 r hr=>by
  have e0:ee nl vs v p.right = v:=CA hv'l hsb (by omega)
  have e1:vs.set k v = vs:=by
   apply Xs
   intro i
   rw [XA]
   split
   ·rename_i e; subst e; rw [hv]; simp; rw [mk.lv]; exact hkN
   ·rfl
  rw [e0,e1]
  rw [et] at hr
  rcases Wy.1 hr with hr | hr
  ·exact hcl4 (by omega) r hr
  ·simp at hr; subst hr
   unfold Rv
   rw [hkt,hvd]
   exact ⟨hnn,e0⟩
 have h:=St.back h gS
 rw [EW] at h
 generalize ee nl vs v p.right = v' at *
 refine ⟨_,_,rfl,⟨ai 2 h.l,ai 1 h.l,To 4 h.l rfl rfl (by simp [hps])⟩,⟨by omega,by omega⟩,λw25 hd=>?_⟩
 have h:=h.drawn hd
 have stay:∀ {w'},St w' [aG (je ps (vs.set k v')),aK k28 [.int .i64 (k:Int),.slice a l c3,.int .i64 p.level],aK k15 (FC x k14 (g.T + g.N) o (g.T + g.N) c),aK k14 (bv nl),own 1 o (g.T + g.N) c (pv (ps.map bk)),has H]->(uN nl p.right = true->aO nl k = true)->ax ((j:Int) + 1)/\(∃ (j' : Nat) (nl:List Bool) (vs:List (List Bool)),(j:Int) + 1 = j'/\j'<=x.pl/\0<=n4 + ((aY v' : Int) - aY v)/\n4 + ((aY v' : Int) - aY v) + l_ nl vs = l_ nl0 vs0/\DD g nl vs/\(n4 + ((aY v' : Int) - aY v) = 0->∀ p∈g.prods.take j',Rv nl vs p)/\St w' [aK k15 (FC x k14 (g.T + g.N) o (g.T + g.N) c),aK k14 (bv nl),own 1 o (g.T + g.N) c (pv (ps.map bk)),aG (je ps vs),has H])/\x.pl - ((j:Int) + 1).toNat < x.pl - (j:Int).toNat:=λ{w'} h hnn=>by
  refine ⟨⟨by omega,by omega⟩,⟨j + 1,nl,vs.set k v',by simp,by omega,by omega,by omega,mk',hstay hnn,h.pick 6 [2,3,4,0,5]⟩,bx hlt⟩
 refine ⟨λw=>sub (hp w25) (hp w),sub.refl _,ae (λh1=>?_) λh1=>stay h λh2=>by rw [h1] at h2; cases h2⟩
 refine ⟨_,_,_,λw s=>(ai (b:=k15) (vs:=FC x k14 (g.T + g.N) o (g.T + g.N) c) 2 h.l).cell s (j:=5) rfl,_,λw s=>(ai (b:=k28) (vs:=[.int .i64 (k:Int),.slice a l c3,.int .i64 p.level]) 1 h.l).cell0 s,?_⟩
 have rn:a_ (hp w25) nl (some ⟨k14,0,none⟩) (g.T + g.N):=kU mk.ln (.inr ⟨_,rfl,ai 3 h.l⟩)
 obtain ⟨z,ad3,hz1,hza,hz2⟩:=rn.cF hkN
 have hzd:aO nl k = z:=by unfold aO; rw [Ww,hz1]; rfl
 cases hza
 refine aw rfl hkN ⟨z,λw s=>hz2 _ s,ae (λh2=>?_) λh2=>stay h λ_=>by rw [hzd]; simpa using h2⟩
 have h2:z = false:=by simpa using h2
 subst h2
 intro w29 hd
 have h:=h.drawn hd
 refine ⟨λw=>sub (hp w29) (hp w),sub.refl _,_,_,_,λw s=>(ai (b:=k15) (vs:=FC x k14 (g.T + g.N) o (g.T + g.N) c) 2 h.l).cell s (j:=5) rfl,_,λw s=>(ai (b:=k28) (vs:=[.int .i64 (k:Int),.slice a l c3,.int .i64 p.level]) 1 h.l).cell0 s,?_⟩
 refine aw rfl hkN ?_
 rw [aL]
 refine bj (h.pick 6 [3,0,2,4,5]) (by simp [bv,mk.ln]; exact hkN) λw32 h=>?_
 have eb:(bv nl).set k (.bool true) = bv (nl.set k true):=by unfold bv; rw [Xy]
 rw [eb] at h
 have ho:=Lb (nl:=nl) (k:=k) (by rw [mk.ln]; exact hkN) hzd
 have mk2:=mk'.VH iG hpm ((mk.row hpr).1 h1)
 rw [hkt] at mk2
 have hm2:l_ (nl.set k true) (vs.set k v') + 1 = l_ nl (vs.set k v'):=by unfold l_; omega
 exact ⟨⟨by omega,by omega⟩,⟨by omega,by omega⟩,⟨j + 1,nl.set k true,vs.set k v',by simp,by omega,by omega,by omega,mk2,λh0=>by omega,h.pick 5 [2,0,3,1,4]⟩,bx hlt⟩
end
end Go.Proofs.YtndaepmjkbmjmaaGreatDoor
namespace Go.V
def jb (g:af) (nn:List Bool):Prop:=nn.length = g.N/\∀ i:Nat,aO nn i = true↔Ay g ((g.T + i:Nat):Int)
def We (g:af) (row:List Int) (bs:List Bool):Prop:=bs.length = g.T/\∀ t,aO bs t = true↔qZ g row t
def VJ (g:af) (row:List Int):Prop:=∀ s∈row,0<=s/\s < (g.T:Int) + g.N
theorem Mw (l:List Bool) (k i:Nat):aO (l.drop k) i = aO l (k + i):=by
 unfold aO; rw [Ww,Ww,W8]
theorem jb.inj {g:af} {bs cs:List Bool} (h:jb g bs) (k:jb g cs):bs = cs :=
 gF (h.1.trans k.1.symm) λi=>by rw [Xh,h.2,k.2]
end Go.V
namespace Go.Proofs.YtndaepmjkbmjmaaGreatDoor
section
variable {w:YC} {L:List ay} {g:af} {x:GA}
theorem OQ (hg:gR (hp w) g x) (hb:ik g):aA Tryz.prog Cw [.agg ⟨x.cells⟩] w λv w'=>(∃ r:Bool,v = .bool r/\(r = true↔gI g))/\Gr w w':=by
 refine y8 ?_
 refine cN hg λk1 w1 gw hg B=>?_
 refine ⟨_,_,_,_,_,_,_,_,_,_,_,_,_,B.row (sub.refl _),(QT (x:=x) hg hb).mono ?_⟩
 rintro _ w2 ⟨⟨r1,rfl,e1⟩,g2⟩
 unfold gI
 rw [<- e1]
 refine ⟨_,rfl,ae (λh1=>⟨⟨true,rfl,by simp [h1]⟩,gw.trans g2⟩) λh1=>⟨_,_,_,_,_,_,_,_,_,_,_,_,_,B.row g2,(Hn (x:=x) (hg.mono g2) hb).mono ?_⟩⟩
 rintro _ w3 ⟨⟨r2,rfl,e2⟩,g3⟩
 rw [<- e2]
 exact ⟨_,rfl,⟨r2,rfl,by simp [h1]⟩,gw.trans (g2.trans g3)⟩
theorem JR (hg:gR (hp w) g x) (hb:ik g) (ht:eF (hp w)):aA Tryz.prog ou [.agg ⟨x.cells⟩] w λv w' =>
  (¬ gI g/\v = .tuple #[.slice none 0 0,.int .i64 1]/\Gr w w') \/
  (gI g/\∃ (k:Nat) (nl nn:List Bool),nl.length = g.T/\jb g nn/\v = .tuple #[.slice (some ⟨k,g.T,none⟩) g.N g.N,.int .i64 0]/\St w' (aK k (bv (nl ++ nn)) :: all w)):=by
 refine vR ?_
 refine cN hg λk1 w1 gw hg B=>?_
 refine ⟨_,_,_,_,_,_,_,_,_,_,_,_,_,B.row (sub.refl _),(OQ (x:=x) hg hb).mono ?_⟩
 rintro _ w2 ⟨⟨r,rfl,e⟩,g2⟩
 refine ⟨_,rfl,ae (λh1=>.inl ⟨λhe=>?_,rfl,gw.trans g2⟩) λh1=>λw3 hd=>?_⟩
 ·rw [e.2 he] at h1; cases h1
 have he:=e.1 (by simpa using h1)
 have g3:Gr w1 w3:=g2.trans (Gr.drawn hd)
 obtain ⟨iG,bT,bN,pN,pT,bP⟩:=Rx he
 have tl:g.T = x.tl:=hg.t.1
 refine ⟨λw=>Gr w3 w,Gr.refl _,_,_,_,_,_,_,_,_,_,_,_,_,_,λw s=>B.row (g3.trans s),_,_,_,λw s=>B.c0 (g3.trans s),(VI (x:=x) (hg.mono g3) hb he (eJ.mono (gw.trans g3) ht)).mono ?_⟩
 rintro _ w6 ⟨b,k14,o,c,nl,ps,vs,rfl,al,hps,h⟩
 have hs:sub (hp w3) (hp w6):=aU 4 h.l
 have rb:av (hp w6) ⟨b,0,none⟩ (FC x k14 (g.T + g.N) o ps.length c):=ai 0 h.l
 refine ⟨_,rfl,λw=>sub (hp w6) (hp w),sub.refl _,λw s=>sub.trans hs s,_,_,_,λw s=>rb.cell s (j:=5) rfl,dG (lo:=x.tl) (by omega) (WO _) (.inr ⟨he,k14,nl.take g.T,nl.drop g.T,by rw [WV,al.ln]; omega,⟨by rw [XK,al.ln]; omega,λi=>?_⟩,?_,?_⟩)⟩
 ·rw [Mw]; exact al.nn _
 ·rw [<- tl,show g.T + g.N - g.T = g.N from by omega]
  have e:gE (some ⟨k14,0,none⟩) g.T (g.T + g.N) 1 = some ⟨k14,g.T,none⟩:=by
   unfold gE
   rw [WB (by omega),Xw,show cY g.T 1 = g.T from by rw [aJ,XR],aL]
  rw [e]
 ·rw [WX]
  exact St.on (N:=[_]) (h0:=hp w3) (h.pick 5 [1,4]) (bC (gw.trans g3))
end
end Go.Proofs.YtndaepmjkbmjmaaGreatDoor
namespace Go.V
def bX (n:Nat) (f:Nat->Bool):List Int:=((List.range n).filter f).map Int.ofNat
def jc (l:List Int):Prop:=l.Pairwise (· < ·)
theorem xK:∀ {l m:List Int},jc l->jc m->(∀ z,z∈l↔z∈m)->l = m
 | [],[],_,_,_=>rfl
 | [],b :: m,_,_,h=>absurd ((h b).2 (by simp)) (by simp)
 | a :: l,[],_,_,h=>absurd ((h a).1 (by simp)) (by simp)
 | a :: l,b :: m,hl,hm,h=>by
  obtain ⟨l1,l2⟩:=Xu.1 hl
  obtain ⟨m1,m2⟩:=Xu.1 hm
  have e:a = b:=by
   rcases WM.1 ((h a).1 (by simp)) with e | ha
   ·exact e
   ·rcases WM.1 ((h b).2 (by simp)) with e | hb
    ·exact e.symm
    ·have:=m1 a ha; have:=l1 b hb; omega
  subst e
  rw [xK l2 m2 λz=>?_]
  have hz:=h z
  simp only [WM] at hz
  constructor
  ·intro hz1
   rcases hz.1 (.inr hz1) with rfl | h2
   ·have:=l1 _ hz1; omega
   ·exact h2
  ·intro hz1
   rcases hz.2 (.inr hz1) with rfl | h2
   ·have:=m1 _ hz1; omega
   ·exact h2
theorem cK {n:Nat} {f:Nat->Bool} {z:Int}:z∈bX n f↔∃ k:Nat,z = k/\k < n/\f k = true:=by
 unfold bX
 rw [WS]
 constructor
 ·rintro ⟨k,hk,rfl⟩
  obtain ⟨h1,h2⟩:=W9.1 hk
  exact ⟨k,rfl,WY.1 h1,h2⟩
 ·rintro ⟨k,rfl,h1,h2⟩
  exact ⟨k,W9.2 ⟨WY.2 h1,h2⟩,rfl⟩
theorem oy (n:Nat) (f:Nat->Bool):jc (bX n f):=by
 unfold bX jc
 rw [Xn]
 refine List.Pairwise.filter _ ?_
 exact List.pairwise_lt_range.imp λh=>by show Int.ofNat _ < Int.ofNat _; simp; exact h
theorem jQ (n:Nat) (f:Nat->Bool):(bX n f).length<=n:=by
 unfold bX
 rw [WE]
 have:=W6 f (List.range n)
 rwa [XN] at this
def dd:List Int->List Int
 | []=>[]
 | [a]=>[a]
 | a :: b :: l=>if a = b then dd (b :: l) else a :: dd (b :: l)
theorem FV:∀ (l:List Int) (z:Int),z∈dd l↔z∈l
 | [],z=>by simp [dd]
 | [a],z=>by simp [dd]
 | a :: b :: l,z=>by
  unfold dd
  split
  ·rename_i h; subst h
   rw [FV (a :: l)]; simp
  ·rw [WM,FV (b :: l),WM,WM,WM]
theorem FW:∀ {l:List Int},l.Pairwise (·<=·)->jc (dd l)
 | [],_=>by simp [dd,jc]
 | [a],_=>by simp [dd,jc]
 | a :: b :: l,h=>by
  obtain ⟨h1,h2⟩:=Xu.1 h
  unfold dd
  split
  ·exact FW h2
  ·rename_i hne
   refine Xu.2 ⟨λz hz=>?_,FW h2⟩
   rw [FV] at hz
   have hb:=h1 b (by simp)
   rcases WM.1 hz with rfl | hz
   ·omega
   ·have:=(Xu.1 h2).1 z hz
    omega
theorem JS:∀ l:List Int,(dd l).length<=l.length
 | []=>by simp [dd]
 | [a]=>by simp [dd]
 | a :: b :: l=>by
  unfold dd
  split
  ·have:=JS (b :: l); simp at this ⊢; omega
  ·have:=JS (b :: l); simp at this ⊢; omega
def vX (g:af) (ss:List SQ) (t:au):Int:=if t∈bm g ss then ((bm g ss).idxOf t:Int) + 1 else 0
def TF (ss:List SQ) (k:au):Int:=if k.st < 0 then 0 else match eW ss k.st.toNat k.sym with
 | some j=>j + 1
 | none=>0
def uO (g:af) (nn:List Bool) (s:Int):Bool:=decide ((g.T:Int)<=s) && aO nn (s.toNat - g.T)
def Az (g:af) (nn:List Bool) (row:List Int):Bool:=row.all (uO g nn)
def iR (g:af) (nn:List Bool) (ss:List SQ) (i k:Nat):Bool:=match (bm g ss)[i]?,(bm g ss)[k]? with
 | some t,some u=>decide (eW ss t.st.toNat t.sym = some u.st) && uO g nn u.sym
 | _,_=>false
def xL (g:af) (nn:List Bool) (ss:List SQ) (n i:Nat):Bool:=match (bm g ss)[i]? with
 | some t=>(List.range g.prods.length).any λm=>decide (m≠0) && match g.prods[m]? with
  | some p=>decide (p.left = t.sym) && (List.range p.right.length).any λk=>decide ((bm g ss)[n]? = some ⟨b9 ss t.st (p.right.take k),p.right.getD k 0⟩) && Az g nn (p.right.drop (k + 1))
  | none=>false
 | none=>false
def dw (g:af) (ss:List SQ) (q m i:Nat):Bool:=match (bm g ss)[i]?,g.prods[m]? with
 | some t,some p=>decide (m≠0) && decide (p.left = t.sym) && decide (b9 ss t.st p.right = q)
 | _,_=>false
def q8 (g:af) (nn:List Bool) (ss:List SQ):List (List Int):=(List.range (bm g ss).length).map λi=>bX (bm g ss).length (iR g nn ss i)
def uP (g:af) (nn:List Bool) (ss:List SQ):List (List Int):=(List.range (bm g ss).length).map λn=>bX (bm g ss).length (xL g nn ss n)
structure iS where
 st:Int
 prod:Int
 tr:List Int
deriving DecidableEq
instance:Inhabited iS:=⟨⟨0,0,[]⟩⟩
def tw (g:af) (ss:List SQ) (q m:Nat):List iS:=if bX (bm g ss).length (dw g ss q m) = [] then [] else [⟨q,m,bX (bm g ss).length (dw g ss q m)⟩]
def dm (g:af) (ss:List SQ) (q j:Nat):List iS:=(List.range j).flatMap (tw g ss q)
def pJ (g:af) (ss:List SQ):List iS:=(List.range ss.length).flatMap λq=>dm g ss q g.prods.length
theorem vY (g:af) (ss:List SQ) (q j:Nat):dm g ss q (j + 1) = dm g ss q j ++ tw g ss q j:=by unfold dm; rw [XD,Xe]; simp
def Db (g:af) (j:Nat) (s:Int):List Nat:=(MY g j s).filter λi=>decide (0 < i)
theorem CB {g:af} {j:Nat} {p:aH} (h:g.prods[j]? = some p) (s:Int):Db g (j + 1) s = Db g j s ++ if s = p.left/\0 < j then [j] else []:=by
 unfold Db
 rw [sZ h,W5]
 congr 1
 by_cases e:s = p.left <;> by_cases e2:0 < j <;> simp [e,e2]
theorem A4 (g:af) (j:Nat) (s:Int):(Db g j s).length<=j:=W0 (W6 _ _) (FG g j s)
theorem iT {g:af} {s:Int} {i:Nat}:i∈Db g g.prods.length s↔0 < i/\∃ p,g.prods[i]? = some p/\p.left = s:=by
 unfold Db
 rw [W9,show MY g g.prods.length s = Cg g s from rfl,pq,WH,and_comm]
section
variable {g:af} {ss:List SQ}
theorem JT (hA:bn g ss):∀ n:Nat,(uj g ss n).Nodup
 | 0=>by simp [uj]
 | n + 1=>by
  cases hq:ss[n]? with
  | none=>simp only [uj,hq,W2]; exact JT hA n
  | some q =>
   rw [oh hq,Xb]
   refine ⟨JT hA n,?_,λx hx y hy e=>?_⟩
   ·unfold fo
    have h1:=Cr hA hq
    have h2:((q.2.2.filter λe=>decide ((g.T:Int)<=e.sym)).map (·.sym)).Nodup:=h1.sublist (List.Sublist.map _ List.filter_sublist)
    rw [Xi,Xn] at h2 ⊢
    exact h2.imp λh e=>h (congrArg au.sym e)
   ·subst e
    obtain ⟨i,_,_,e,hi,_,_,_,rfl⟩:=iQ hx
    unfold fo at hy
    obtain ⟨e',_,h2⟩:=WS.1 hy
    have:=congrArg au.st h2
    simp at this; omega
theorem OR (hA:bn g ss):(bm g ss).Nodup:=JT hA _
theorem OS {α : Type} [DecidableEq α] {l:List α} (h:l.Nodup) {i:Nat} {x:α} (hx:l[i]? = some x):l.idxOf x = i:=by
 obtain ⟨h1,rfl⟩:=Wt.1 hx
 exact h.idxOf_getElem i h1
theorem A5 (hA:bn g ss) {i:Nat} {t:au} (h:(bm g ss)[i]? = some t):vX g ss t = (i:Int) + 1:=by
 unfold vX
 rw [WJ (Wu h),OS (OR hA) h]
theorem xM (hA:bn g ss) {t:au} (h:0 < vX g ss t):∃ i:Nat,vX g ss t = (i:Int) + 1/\(bm g ss)[i]? = some t:=by
 unfold vX at h ⊢
 by_cases ht:t∈bm g ss
 ·rw [WJ ht]
  refine ⟨_,rfl,?_⟩
  rw [Wv (Yl ht),List.getElem_idxOf]
 ·rw [WB ht] at h; omega
end
end Go.V
namespace Go.Proofs.YtndaepmjkbmjmaaGreatDoor
abbrev xN:FuncId:=58
def uQ:bg:={ rngs:=[],loops:=[(6,[(31,(.one (.int .i64)))]),(9,[(44,(.one (.int .i64)))]),(18,[(13,(.one .slice)),(77,(.one (.int .i64)))]),(21,[(13,(.one .slice)),(83,(.one (.int .i64)))])],joins:=[],blocks:=[] }
theorem uR {a:YB} {b c:Nat} {d:YB} {e f:Nat} {g:YB} {i j:Nat} {k:Int} {l:YB} {m n:Nat} {w:YC} {R:Value->WP} (h:new w (oC [vS a b c,vS d e f,vS g i j,iI k,vS l m n] 27) λk1 w1=>∃ o1 k2 k3 o2 k4 k5 o3 k6 k7 n1 o4 k8 k9,rA w1 (aM k1) 5 [vS o1 k2 k3,vS o2 k4 k5,vS o3 k6 k7,iI n1,vS o4 k8 k9]/\rE 104 [vG [vS o1 k2 k3,vS o2 k4 k5,vS o3 k6 k7,iI n1,vS o4 k8 k9]] w1 λv1 w2=>∃ o5 n2,v1 = vU [vP o5,iI n2]/\br (n2 != 0) (R (vU [vS none 0 0,iI n2]) w2) (new w2 (Obj.map (Array.mk []) 0) λk10 w3=>nn o5 λa1=>∃ o6 k11 k12,cL w3 (Addr.add a1 8) (vS o6 k11 k12)/\∃ (x1:lP [(31,aD)]),∃ (x2:lN [(31,aD)]),x1 0 w3/\∀ (I1:Nat->Value) (n3:Int) (w4:YC),x1 n3 w4->br (decide (n3 < (k11:Int))) (idx o6 k11 n3 2 λa2=>∃ n4 n5,rA w4 a2 2 [iI n4,iI n5]/\new w4 (oC [iI 0,iI 0] 184) λk13 w5=>fL w5 (aM k13) [iI n4,iI n5] λw6=>∀ w7,drawn w6 w7->∃ (I2:WP),I2 w7/\nn o5 λa3=>∃ o7,(∀ w8,I2 w8->cL w8 (Addr.add a3 12) (Value.map o7))/\∃ n6,(∀ w9,I2 w9->cL w9 (Addr.add (aM k13) 1) (iI n6))/\aX Proofs.Tryz.prog (Instr.lookup 160 (Value.map o7) (iI n6) false) w7 λv2 w10=>∃ o8 k14 k15,v2 = vS o8 k14 k15/\I2 w10/\∃ (x3:lP [(44,aD)]),∃ (x4:lN [(44,aD)]),x3 0 w10/\∀ (I3:Nat->Value) (n7:Int) (w11:YC),x3 n7 w11->br (decide (n7 < (k14:Int))) (idx o8 k14 n7 1 λa4=>∃ n8,cL w11 a4 (iI n8)/\∀ w12,drawn w11 w12->∃ (I4:WP),I4 w12/\∃ n9,(∀ w13,I4 w13->cL w13 (aM k13) (iI n9))/\∃ o9 k16 k17,(∀ w14,I4 w14->cL w14 (Addr.add (aM k1) 4) (vS o9 k16 k17))/\idx o9 k16 n8 3 λa5=>∃ o10 k18 k19,(∀ w15,I4 w15->cL w15 (Addr.add a5 1) (vS o10 k18 k19))/\rE 105 [vP o5,iI n9,vS o10 k18 k19,Value.func (Fn.func 106) (Array.mk []) (Array.mk [])] w12 λv3 w16=>∃ n10,v3 = iI n10/\I4 w16/\new w16 (oC [iI 0,iI 0] 184) λk20 w17=>fL w17 (aM k20) [iI n10,iI n8] λw18=>∃ n11 n12,rA w18 (aM k20) 2 [iI n11,iI n12]/\new w18 (oC [iI n3] 3) λk21 w19=>aX Proofs.Tryz.prog (Instr.mapEntry 178 (Value.map (some k10)) (vG [iI n11,iI n12])) w19 λv4 w20=>∃ o11 k22 k23 n13,v4 = vU [vS o11 k22 k23,iI n13]/\rS (ir 24 (Array.mk [vS o11 k22 k23,vS (some (aM k21)) 1 1])) w20 λv5 w21=>∃ o12 k24 k25,v5 = vS o12 k24 k25/\aX Proofs.Tryz.prog (Instr.entryStore 178 (Value.map (some k10)) (iI n13) (vS o12 k24 k25)) w21 λ(x5:Unit) (w22:YC)=>ax (n7 + 1)/\x3 (n7 + 1) w22/\x4 (n7 + 1) w22 < x4 n7 w11) (ax (n3 + 1)/\x1 (n3 + 1) w11/\x2 (n3 + 1) w11 < x2 n3 w4)) (nn o5 λa6=>∃ o13 k26 k27,cL w4 (Addr.add a6 5) (vS o13 k26 k27)/\∃ (x6:lP [(13,fX),(77,aD)]),∃ (x7:lN [(13,fX),(77,aD)]),x6 none 0 0 0 w4/\∀ (I5:Nat->Value) (o14:YB) (k28 k29:Nat) (n14:Int) (w23:YC),x6 o14 k28 k29 n14 w23->br (decide (n14 < (k26:Int))) (∃ o15 k30 k31,cL w23 (Addr.add (aM k1) 4) (vS o15 k30 k31)/\∃ (x8:lP [(13,fX),(83,aD)]),∃ (x9:lN [(13,fX),(83,aD)]),x8 o14 k28 k29 0 w23/\∀ (I6:Nat->Value) (o16:YB) (k32 k33:Nat) (n15:Int) (w24:YC),x8 o16 k32 k33 n15 w24->br (decide (n15 < (k30:Int))) (aX Proofs.Tryz.prog (Instr.lookup 178 (Value.map (some k10)) (vG [iI n14,iI n15]) false) w24 λv6 w25=>∃ o17 k34 k35,v6 = vS o17 k34 k35/\br (decide (0 < (k34:Int))) (rE 107 [vS o17 k34 k35] w25 λv7 w26=>∃ o18 k36 k37,v7 = vS o18 k36 k37/\new w26 (oC [iI n14,iI n15,vS o18 k36 k37] 117) λk38 w27=>rS (ir 113 (Array.mk [vS o16 k32 k33,vS (some (aM k38)) 1 1])) w27 λv8 w28=>∃ o19 k39 k40,v8 = vS o19 k39 k40/\ax (n15 + 1)/\x8 o19 k39 k40 (n15 + 1) w28/\x9 o19 k39 k40 (n15 + 1) w28 < x9 o16 k32 k33 n15 w24) (ax (n15 + 1)/\x8 o16 k32 k33 (n15 + 1) w25/\x9 o16 k32 k33 (n15 + 1) w25 < x9 o16 k32 k33 n15 w24)) (ax (n14 + 1)/\x6 o16 k32 k33 (n14 + 1) w24/\x7 o16 k32 k33 (n14 + 1) w24 < x7 o14 k28 k29 n14 w23)) (rE 108 [vS o14 k28 k29] w23 λv9 w29=>∃ o20 k41 k42,v9 = vS o20 k41 k42/\R (vU [vS o20 k41 k42,iI 0]) w29)))):aA Tryz.prog 58 [(.agg #[(.slice a b c),(.slice d e f),(.slice g i j),(.int .i64 k),(.slice l m n)])] w R:=rv Tryz.func58 uQ (by kernel_rfl) h
abbrev HU:FuncId:=104
def DE:bg:={ rngs:=[],loops:=[(8,[(51,(.one (.int .i64)))]),(13,[(67,(.one (.int .i64)))]),(16,[(75,(.one (.int .i64)))]),(22,[(95,(.one (.int .i64)))])],joins:=[],blocks:=[] }
theorem DF {a:YB} {b c:Nat} {d:YB} {e f:Nat} {g:YB} {i j:Nat} {k:Int} {l:YB} {m n:Nat} {w:YC} {R:Value->WP} (h:new w (oC [vS a b c,vS d e f,vS g i j,iI k,vS l m n] 27) λk1 w1=>∃ o1 k2 k3 o2 k4 k5 o3 k6 k7 n1 o4 k8 k9,rA w1 (aM k1) 5 [vS o1 k2 k3,vS o2 k4 k5,vS o3 k6 k7,iI n1,vS o4 k8 k9]/\rE 26 [vG [vS o1 k2 k3,vS o2 k4 k5,vS o3 k6 k7,iI n1,vS o4 k8 k9]] w1 λv1 w2=>∃ o5 k10 k11 n2 n3 n4,v1 = vU [vG [vS o5 k10 k11,iI n2,iI n3],iI n4]/\new w2 (oC [vS none 0 0,iI 0,iI 0] 45) λk12 w3=>fL w3 (aM k12) [vS o5 k10 k11,iI n2,iI n3] λw4=>br (n4 != 0) (R (vU [vP none,iI n4]) w4) (∃ o6 k13 k14 o7 k15 k16 o8 k17 k18 n5 o9 k19 k20,rA w4 (aM k1) 5 [vS o6 k13 k14,vS o7 k15 k16,vS o8 k17 k18,iI n5,vS o9 k19 k20]/\∃ o10 k21 k22 n6 n7,rA w4 (aM k12) 3 [vS o10 k21 k22,iI n6,iI n7]/\new w4 (Obj.map (Array.mk []) 0) λk23 w5=>new w5 (Obj.map (Array.mk []) 0) λk24 w6=>new w6 (Obj.map (Array.mk []) 0) λk25 w7=>new w7 (oC [vS o6 k13 k14,vS o7 k15 k16,vS o8 k17 k18,iI n5,vS o9 k19 k20,vS o10 k21 k22,iI n6,iI n7,vS none 0 0,Value.map (some k23),Value.map (some k24),vS none 0 0,Value.map (some k25)] 182) λk26 w8=>∃ o11 k27 k28 o12 k29 k30 o13 k31 k32 n8 o14 k33 k34,rA w8 (aM k1) 5 [vS o11 k27 k28,vS o12 k29 k30,vS o13 k31 k32,iI n8,vS o14 k33 k34]/\rE 163 [vG [vS o11 k27 k28,vS o12 k29 k30,vS o13 k31 k32,iI n8,vS o14 k33 k34]] w8 λv2 w9=>∃ o15 k35 k36 n9,v2 = vU [vS o15 k35 k36,iI n9]/\st1 w9 (Addr.add (aM k26) 8) (vS o15 k35 k36) λw10=>∃ o16 k37 k38 o17 k39 k40 o18 k41 k42 n10 o19 k43 k44,rA w10 (aM k1) 5 [vS o16 k37 k38,vS o17 k39 k40,vS o18 k41 k42,iI n10,vS o19 k43 k44]/\rE 164 [vG [vS o16 k37 k38,vS o17 k39 k40,vS o18 k41 k42,iI n10,vS o19 k43 k44]] w10 λv3 w11=>∃ o20 k45 k46 n11,v3 = vU [vS o20 k45 k46,iI n11]/\st1 w11 (Addr.add (aM k26) 11) (vS o20 k45 k46) λw12=>∃ o21 k47 k48,cL w12 (Addr.add (aM k26) 8) (vS o21 k47 k48)/\∃ (x1:lP [(51,aD)]),∃ (x2:lN [(51,aD)]),x1 0 w12/\∀ (I1:Nat->Value) (n12:Int) (w13:YC),x1 n12 w13->br (decide (n12 < (k47:Int))) (idx o21 k47 n12 2 λa1=>∃ n13 n14,rA w13 a1 2 [iI n13,iI n14]/\new w13 (oC [iI 0,iI 0] 184) λk49 w14=>fL w14 (aM k49) [iI n13,iI n14] λw15=>∀ w16,drawn w15 w16->∃ (I2:WP),I2 w16/\∃ o22,(∀ w17,I2 w17->cL w17 (Addr.add (aM k26) 9) (Value.map o22))/\∃ n15 n16,(∀ w18,I2 w18->rA w18 (aM k49) 2 [iI n15,iI n16])/\ax (n12 + 1)/\aX Proofs.Tryz.prog (Instr.mapUpdate 180 (Value.map o22) (vG [iI n15,iI n16]) (iI (n12 + 1))) w16 λ(x3:Unit) (w19:YC)=>ax (n12 + 1)/\x1 (n12 + 1) w19/\x2 (n12 + 1) w19 < x2 n12 w13) (∃ o23 k50 k51,cL w13 (aM k12) (vS o23 k50 k51)/\∃ (x4:lP [(67,aD)]),∃ (x5:lN [(67,aD)]),x4 0 w13/\∀ (I3:Nat->Value) (n17:Int) (w20:YC),x4 n17 w20->br (decide (n17 < (k50:Int))) (idx o23 k50 n17 2 λa2=>∃ o24 k52 k53 o25 k54 k55,rA w20 a2 2 [vS o24 k52 k53,vS o25 k54 k55]/\new w20 (oC [vS none 0 0,vS none 0 0] 54) λk56 w21=>fL w21 (aM k56) [vS o24 k52 k53,vS o25 k54 k55] λw22=>∃ o26 k57 k58,cL w22 (Addr.add (aM k56) 1) (vS o26 k57 k58)/\∃ (x6:lP [(75,aD)]),∃ (x7:lN [(75,aD)]),x6 0 w22/\∀ (I4:Nat->Value) (n18:Int) (w23:YC),x6 n18 w23->br (decide (n18 < (k57:Int))) (idx o26 k57 n18 2 λa3=>∃ n19 n20,rA w23 a3 2 [iI n19,iI n20]/\new w23 (oC [iI 0,iI 0] 56) λk59 w24=>fL w24 (aM k59) [iI n19,iI n20] λw25=>∀ w26,drawn w25 w26->∃ (I5:WP),I5 w26/\∃ o27,(∀ w27,I5 w27->cL w27 (Addr.add (aM k26) 10) (Value.map o27))/\∃ n21,(∀ w28,I5 w28->cL w28 (aM k59) (iI n21))/\∃ n22,(∀ w29,I5 w29->cL w29 (Addr.add (aM k59) 1) (iI n22))/\ax (n22 + 1)/\aX Proofs.Tryz.prog (Instr.mapUpdate 180 (Value.map o27) (vG [iI n17,iI n21]) (iI (n22 + 1))) w26 λ(x8:Unit) (w30:YC)=>ax (n18 + 1)/\x6 (n18 + 1) w30/\x7 (n18 + 1) w30 < x7 n18 w23) (ax (n17 + 1)/\x4 (n17 + 1) w23/\x5 (n17 + 1) w23 < x5 n17 w20)) (∃ o28 k60 k61,cL w20 (Addr.add (aM k1) 4) (vS o28 k60 k61)/\∃ (x9:lP [(95,aD)]),∃ (x10:lN [(95,aD)]),x9 0 w20/\∀ (I6:Nat->Value) (n23:Int) (w31:YC),x9 n23 w31->br (decide (n23 < (k60:Int))) (idx o28 k60 n23 3 λa4=>∃ n24 o29 k62 k63 n25,rA w31 a4 3 [iI n24,vS o29 k62 k63,iI n25]/\new w31 (oC [iI 0,vS none 0 0,iI 0] 81) λk64 w32=>fL w32 (aM k64) [iI n24,vS o29 k62 k63,iI n25] λw33=>br (decide (0 < n23)) (∀ w34,drawn w33 w34->∃ (I7:WP),I7 w34/\∃ o30,(∀ w35,I7 w35->cL w35 (Addr.add (aM k26) 12) (Value.map o30))/\∃ n26,(∀ w36,I7 w36->cL w36 (aM k64) (iI n26))/\∃ o31,(∀ w37,I7 w37->cL w37 (Addr.add (aM k26) 12) (Value.map o31))/\∃ n27,(∀ w38,I7 w38->cL w38 (aM k64) (iI n27))/\(aX Proofs.Tryz.prog (Instr.lookup 160 (Value.map o31) (iI n27) false) w34 λv4 w39=>∃ o32 k65 k66,v4 = vS o32 k65 k66/\I7 w39/\new w39 (oC [iI n23] 3) λk67 w40=>I7 w40/\rS (ir 24 (Array.mk [vS o32 k65 k66,vS (some (aM k67)) 1 1])) w40 λv5 w41=>∃ o33 k68 k69,v5 = vS o33 k68 k69/\I7 w41/\aX Proofs.Tryz.prog (Instr.mapUpdate 160 (Value.map o30) (iI n26) (vS o33 k68 k69)) w41 λ(x11:Unit) (w42:YC)=>ax (n23 + 1)/\x9 (n23 + 1) w42/\x10 (n23 + 1) w42 < x10 n23 w31)/\new w34 (oC [iI n23] 3) λk70 w43=>I7 w43/\aX Proofs.Tryz.prog (Instr.lookup 160 (Value.map o31) (iI n27) false) w43 λv6 w44=>∃ o34 k71 k72,v6 = vS o34 k71 k72/\I7 w44/\rS (ir 24 (Array.mk [vS o34 k71 k72,vS (some (aM k70)) 1 1])) w44 λv7 w45=>∃ o35 k73 k74,v7 = vS o35 k73 k74/\I7 w45/\aX Proofs.Tryz.prog (Instr.mapUpdate 160 (Value.map o30) (iI n26) (vS o35 k73 k74)) w45 λ(x12:Unit) (w46:YC)=>ax (n23 + 1)/\x9 (n23 + 1) w46/\x10 (n23 + 1) w46 < x10 n23 w31) (ax (n23 + 1)/\x9 (n23 + 1) w33/\x10 (n23 + 1) w33 < x10 n23 w31)) (R (vU [vP (some (aM k26)),iI 0]) w31))))):aA Tryz.prog 104 [(.agg #[(.slice a b c),(.slice d e f),(.slice g i j),(.int .i64 k),(.slice l m n)])] w R:=rv Tryz.func104 DE (by kernel_rfl) h
abbrev tz:FuncId:=105
def pK:bg:={ rngs:=[],loops:=[(2,[(1,(.one (.int .i64))),(13,(.one (.int .i64)))])],joins:=[],blocks:=[] }
theorem pM {a:YB} {b:Int} {c:YB} {d e:Nat} {f:FuncId} {g:List Value} {w:YC} {R:Value->WP} (h:∃ (x1:lP [(1,aD),(13,aD)]),∃ (x2:lN [(1,aD),(13,aD)]),x1 b 0 w/\∀ (I1:Nat->Value) (n1 n2:Int) (w1:YC),x1 n1 n2 w1->br (decide (n2 < (d:Int))) (idx c d n2 1 λa1=>∃ n3,cL w1 a1 (iI n3)/\wI (Proofs.YtndaepmjkbmjmaaGreatDoor.Fn f) (rE f (iI n1 :: iI n2 :: g) w1 λv1 w2=>v1 = vU []/\nn a λa2=>∃ o1,cL w2 (Addr.add a2 10) (Value.map o1)/\aX Proofs.Tryz.prog (Instr.lookup 180 (Value.map o1) (vG [iI n1,iI n3]) false) w2 λv2 w3=>∃ n4,v2 = iI n4/\ax (n4 - 1)/\ax (n2 + 1)/\x1 (n4 - 1) (n2 + 1) w3/\x2 (n4 - 1) (n2 + 1) w3 < x2 n1 n2 w1)) (R (iI n1) w1)):aA Tryz.prog 105 [(.pointer a),(.int .i64 b),(.slice c d e),(.func (.func f) #[] ⟨g⟩)] w R:=rv Tryz.func105 pK (by kernel_rfl) h
def pO:bg:={ rngs:=[],loops:=[],joins:=[],blocks:=[] }
theorem pP {a b:Int} {w:YC} {R:Value->WP} (h:R (vU []) w):aA Tryz.prog 106 [(.int .i64 a),(.int .i64 b)] w R:=rv Tryz.func106 pO (by kernel_rfl) h
abbrev lB:FuncId:=159
def zc:bg:={ rngs:=[],loops:=[],joins:=[],blocks:=[] }
theorem zd {a:YB} {b c:Nat} {d:YB} {e f:Nat} {g:YB} {i j:Nat} {k:Int} {l:YB} {m n:Nat} {w:YC} {R:Value->WP} (h:new w (oC [vS a b c,vS d e f,vS g i j,iI k,vS l m n] 27) λk1 w1=>∃ o1 k2 k3 o2 k4 k5 o3 k6 k7 n1 o4 k8 k9,rA w1 (aM k1) 5 [vS o1 k2 k3,vS o2 k4 k5,vS o3 k6 k7,iI n1,vS o4 k8 k9]/\rE 104 [vG [vS o1 k2 k3,vS o2 k4 k5,vS o3 k6 k7,iI n1,vS o4 k8 k9]] w1 λv1 w2=>∃ o5 n2,v1 = vU [vP o5,iI n2]/\new w2 (oC [vP none] 175) λk10 w3=>st1 w3 (aM k10) (vP o5) λw4=>br (n2 != 0) (R (vU [vS none 0 0,iI n2]) w4) (∃ o6,cL w4 (aM k10) (vP o6)/\rE 203 [vP o6,Value.func (Fn.func 204) (Array.mk []) (Array.mk [vP (some (aM k10)),vP (some (aM k1))])] w4 λv2 w5=>∃ o7 k11 k12,v2 = vS o7 k11 k12/\R (vU [vS o7 k11 k12,iI 0]) w5)):aA Tryz.prog 159 [(.agg #[(.slice a b c),(.slice d e f),(.slice g i j),(.int .i64 k),(.slice l m n)])] w R:=rv Tryz.func159 zc (by kernel_rfl) h
abbrev iU:FuncId:=161
def uS:bg:={ rngs:=[],loops:=[],joins:=[],blocks:=[] }
theorem uT {a:YB} {b c:Nat} {d:YB} {e f:Nat} {g:YB} {i j:Nat} {k:Int} {l:YB} {m n:Nat} {w:YC} {R:Value->WP} (h:new w (oC [vS a b c,vS d e f,vS g i j,iI k,vS l m n] 27) λk1 w1=>∃ o1 k2 k3 o2 k4 k5 o3 k6 k7 n1 o4 k8 k9,rA w1 (aM k1) 5 [vS o1 k2 k3,vS o2 k4 k5,vS o3 k6 k7,iI n1,vS o4 k8 k9]/\rE 104 [vG [vS o1 k2 k3,vS o2 k4 k5,vS o3 k6 k7,iI n1,vS o4 k8 k9]] w1 λv1 w2=>∃ o5 n2,v1 = vU [vP o5,iI n2]/\new w2 (oC [vP none] 175) λk10 w3=>st1 w3 (aM k10) (vP o5) λw4=>br (n2 != 0) (R (vU [vS none 0 0,iI n2]) w4) (∃ o6,cL w4 (aM k10) (vP o6)/\rE 203 [vP o6,Value.func (Fn.func 205) (Array.mk []) (Array.mk [vP (some (aM k10)),vP (some (aM k1))])] w4 λv2 w5=>∃ o7 k11 k12,v2 = vS o7 k11 k12/\R (vU [vS o7 k11 k12,iI 0]) w5)):aA Tryz.prog 161 [(.agg #[(.slice a b c),(.slice d e f),(.slice g i j),(.int .i64 k),(.slice l m n)])] w R:=rv Tryz.func161 uS (by kernel_rfl) h
abbrev uU:FuncId:=203
def q9:bg:={ rngs:=[],loops:=[(4,[(18,(.one (.int .i64)))])],joins:=[],blocks:=[] }
theorem q_ {a:YB} {b:FuncId} {c:List Value} {w:YC} {R:Value->WP} (h:nn a λa1=>∃ o1 k1 k2,cL w (Addr.add a1 8) (vS o1 k1 k2)/\wG (k1:Int) (k1:Int) 24/\new w (Obj.cells (Array.mk (jB (Int.toNat (k1:Int)) [vS none 0 0])) 24) λk3 w1=>new w1 (oC [vS none 0 0] 71) λk4 w2=>st1 w2 (aM k4) (vS (some (aM k3)) (Int.toNat (k1:Int)) (Int.toNat (k1:Int))) λw3=>wI (Proofs.YtndaepmjkbmjmaaGreatDoor.Fn b) (rE b (Value.func (Fn.func 239) (Array.mk []) (Array.mk [vP (some (aM k4))]) :: c) w3 λv1 w4=>v1 = vU []/\∃ o2 k5 k6,cL w4 (aM k4) (vS o2 k5 k6)/\∃ (x1:lP [(18,aD)]),∃ (x2:lN [(18,aD)]),x1 0 w4/\∀ (I1:Nat->Value) (n1:Int) (w5:YC),x1 n1 w5->br (decide (n1 < (k5:Int))) (∃ o3 k7 k8,cL w5 (aM k4) (vS o3 k7 k8)/\idx o3 k7 n1 1 λa2=>∃ o4 k9 k10,cL w5 a2 (vS o4 k9 k10)/\rE 53 [vS o4 k9 k10] w5 λv2 w6=>v2 = vU []/\∀ w7,drawn w6 w7->∃ (I2:WP),I2 w7/\∃ o5 k11 k12,(∀ w8,I2 w8->cL w8 (aM k4) (vS o5 k11 k12))/\∃ o6 k13 k14,(∀ w9,I2 w9->cL w9 (aM k4) (vS o6 k13 k14))/\idx o6 k13 n1 1 λa3=>∃ o7 k15 k16,(∀ w10,I2 w10->cL w10 a3 (vS o7 k15 k16))/\rE 240 [vS o7 k15 k16] w7 λv3 w11=>∃ o8 k17 k18,v3 = vS o8 k17 k18/\I2 w11/\rE 107 [vS o8 k17 k18] w11 λv4 w12=>∃ o9 k19 k20,v4 = vS o9 k19 k20/\I2 w12/\idx o5 k11 n1 1 λa4=>st1 w12 a4 (vS o9 k19 k20) λw13=>ax (n1 + 1)/\x1 (n1 + 1) w13/\x2 (n1 + 1) w13 < x2 n1 w5) (∃ o10 k21 k22,cL w5 (aM k4) (vS o10 k21 k22)/\R (vS o10 k21 k22) w5))):aA Tryz.prog 203 [(.pointer a),(.func (.func b) #[] ⟨c⟩)] w R:=rv Tryz.func203 q9 (by kernel_rfl) h
abbrev xO:FuncId:=204
def uV:bg:={ rngs:=[],loops:=[(1,[(14,(.one (.int .i64)))]),(5,[(36,(.one (.int .i64)))])],joins:=[],blocks:=[] }
theorem uW {a:FuncId} {b:List Value} {c d:Addr} {w:YC} {R:Value->WP} (h:∃ o1,cL w c (vP o1)/\nn o1 λa1=>∃ o2 k1 k2,cL w (Addr.add a1 8) (vS o2 k1 k2)/\∃ (x1:lP [(14,aD)]),∃ (x2:lN [(14,aD)]),x1 0 w/\∀ (I1:Nat->Value) (n1:Int) (w1:YC),x1 n1 w1->br (decide (n1 < (k1:Int))) (idx o2 k1 n1 2 λa2=>∃ n2 n3,rA w1 a2 2 [iI n2,iI n3]/\new w1 (oC [iI 0,iI 0] 184) λk3 w2=>fL w2 (aM k3) [iI n2,iI n3] λw3=>∀ w4,drawn w3 w4->∃ (I2:WP),I2 w4/\∃ o3,(∀ w5,I2 w5->cL w5 c (vP o3))/\nn o3 λa3=>∃ o4,(∀ w6,I2 w6->cL w6 (Addr.add a3 10) (Value.map o4))/\∃ n4 n5,(∀ w7,I2 w7->rA w7 (aM k3) 2 [iI n4,iI n5])/\aX Proofs.Tryz.prog (Instr.lookup 180 (Value.map o4) (vG [iI n4,iI n5]) false) w4 λv1 w8=>∃ n6,v1 = iI n6/\I2 w8/\ax (n6 - 1)/\∃ o5,cL w8 c (vP o5)/\nn o5 λa4=>∃ o6 k4 k5,cL w8 (Addr.add a4 5) (vS o6 k4 k5)/\idx o6 k4 (n6 - 1) 2 λa5=>∃ o7 k6 k7,cL w8 (Addr.add a5 1) (vS o7 k6 k7)/\∃ (x3:lP [(36,aD)]),∃ (x4:lN [(36,aD)]),x3 0 w8/\∀ (I3:Nat->Value) (n7:Int) (w9:YC),x3 n7 w9->br (decide (n7 < (k6:Int))) (idx o7 k6 n7 2 λa6=>∃ n8 n9,rA w9 a6 2 [iI n8,iI n9]/\new w9 (oC [iI 0,iI 0] 56) λk8 w10=>fL w10 (aM k8) [iI n8,iI n9] λw11=>∀ w12,drawn w11 w12->∃ (I4:WP),I4 w12/\∃ n10,(∀ w13,I4 w13->cL w13 (aM k8) (iI n10))/\∃ o8 k9 k10,(∀ w14,I4 w14->cL w14 d (vS o8 k9 k10))/\br (decide ((k9:Int)<=n10)) (∃ o9,(∀ w15,I4 w15->cL w15 c (vP o9))/\nn o9 λa7=>∃ o10 k11 k12,(∀ w16,I4 w16->cL w16 (Addr.add a7 11) (vS o10 k11 k12))/\∃ n11,(∀ w17,I4 w17->cL w17 (aM k8) (iI n11))/\∃ o11 k13 k14,(∀ w18,I4 w18->cL w18 d (vS o11 k13 k14))/\ax (n11 - (k13:Int))/\idx o10 k11 (n11 - (k13:Int)) 1 λa8=>∃ b1,(∀ w19,I4 w19->cL w19 a8 (vB b1))/\br b1 (∀ w20,drawn w12 w20->∃ (I5:WP),I5 w20/\∃ o12,(∀ w21,I5 w21->cL w21 c (vP o12))/\nn o12 λa9=>∃ o13,(∀ w22,I5 w22->cL w22 (Addr.add a9 9) (Value.map o13))/\∃ n12,(∀ w23,I5 w23->cL w23 (aM k8) (iI n12))/\aX Proofs.Tryz.prog (Instr.lookup 180 (Value.map o13) (vG [iI (n6 - 1),iI n12]) false) w20 λv2 w24=>∃ n13,v2 = iI n13/\I5 w24/\ax (n13 - 1)/\wI (Proofs.YtndaepmjkbmjmaaGreatDoor.Fn a) (rE a (iI n1 :: iI (n13 - 1) :: b) w24 λv3 w25=>v3 = vU []/\ax (n7 + 1)/\x3 (n7 + 1) w25/\x4 (n7 + 1) w25 < x4 n7 w9)) (ax (n7 + 1)/\x3 (n7 + 1) w12/\x4 (n7 + 1) w12 < x4 n7 w9)) (ax (n7 + 1)/\x3 (n7 + 1) w12/\x4 (n7 + 1) w12 < x4 n7 w9)) (ax (n1 + 1)/\x1 (n1 + 1) w9/\x2 (n1 + 1) w9 < x2 n1 w1)) (R (vU []) w1)):aA Tryz.prog 204 [(.func (.func a) #[] ⟨b⟩),(.pointer (some c)),(.pointer (some d))] w R:=rv Tryz.func204 uV (by kernel_rfl) h
abbrev tA:FuncId:=205
def pQ:bg:={ rngs:=[],loops:=[(2,[(14,(.one (.int .i64)))]),(5,[(27,(.one (.int .i64)))])],joins:=[],blocks:=[] }
theorem pR {a:FuncId} {b:List Value} {c d:Addr} {w:YC} {R:Value->WP} (h:new w (oC [Value.func (Fn.func a) (Array.mk []) (Array.mk b)] 186) λk1 w1=>∃ o1,cL w1 c (vP o1)/\nn o1 λa1=>∃ o2 k2 k3,cL w1 (Addr.add a1 8) (vS o2 k2 k3)/\∃ (x1:lP [(14,aD)]),∃ (x2:lN [(14,aD)]),x1 0 w1/\∀ (I1:Nat->Value) (n1:Int) (w2:YC),x1 n1 w2->br (decide (n1 < (k2:Int))) (idx o2 k2 n1 2 λa2=>∃ n2 n3,rA w2 a2 2 [iI n2,iI n3]/\new w2 (oC [iI 0] 3) λk4 w3=>new w3 (oC [iI 0,iI 0] 184) λk5 w4=>st1 w4 (aM k4) (iI n1) λw5=>fL w5 (aM k5) [iI n2,iI n3] λw6=>∀ w7,drawn w6 w7->∃ (I2:WP),I2 w7/\∃ o3,(∀ w8,I2 w8->cL w8 c (vP o3))/\nn o3 λa3=>∃ o4,(∀ w9,I2 w9->cL w9 (Addr.add a3 12) (Value.map o4))/\∃ n4,(∀ w10,I2 w10->cL w10 (Addr.add (aM k5) 1) (iI n4))/\aX Proofs.Tryz.prog (Instr.lookup 160 (Value.map o4) (iI n4) false) w7 λv1 w11=>∃ o5 k6 k7,v1 = vS o5 k6 k7/\I2 w11/\∃ (x3:lP [(27,aD)]),∃ (x4:lN [(27,aD)]),x3 0 w11/\∀ (I3:Nat->Value) (n5:Int) (w12:YC),x3 n5 w12->br (decide (n5 < (k6:Int))) (idx o5 k6 n5 1 λa4=>∃ n6,cL w12 a4 (iI n6)/\∃ o6 k8 k9,cL w12 (Addr.add d 4) (vS o6 k8 k9)/\idx o6 k8 n6 3 λa5=>∃ o7 k10 k11,cL w12 (Addr.add a5 1) (vS o7 k10 k11)/\new w12 (oC [vS none 0 0] 24) λk12 w13=>st1 w13 (aM k12) (vS o7 k10 k11) λw14=>∃ o8,cL w14 c (vP o8)/\∃ n7,cL w14 (aM k5) (iI n7)/\∃ o9 k13 k14,cL w14 (aM k12) (vS o9 k13 k14)/\rE 105 [vP o8,iI n7,vS o9 k13 k14,Value.func (Fn.func 206) (Array.mk []) (Array.mk [vP (some c),vP (some (aM k12)),vP (some (aM k1)),vP (some (aM k4))])] w14 λv2 w15=>∃ n8,v2 = iI n8/\ax (n5 + 1)/\x3 (n5 + 1) w15/\x4 (n5 + 1) w15 < x4 n5 w12) (ax (n1 + 1)/\x1 (n1 + 1) w12/\x2 (n1 + 1) w12 < x2 n1 w2)) (R (vU []) w2)):aA Tryz.prog 205 [(.func (.func a) #[] ⟨b⟩),(.pointer (some c)),(.pointer (some d))] w R:=rv Tryz.func205 pQ (by kernel_rfl) h
abbrev oz:FuncId:=206
def mc:bg:={ rngs:=[],loops:=[],joins:=[],blocks:=[] }
theorem me {a b:Int} {c d e f:Addr} {w:YC} {R:Value->WP} (h:∀ w1,drawn w w1->∃ (I1:WP),I1 w1/\∃ o1,(∀ w2,I1 w2->cL w2 c (vP o1))/\nn o1 λa1=>∃ o2,(∀ w3,I1 w3->cL w3 (Addr.add a1 9) (Value.map o2))/\∃ o3 k1 k2,(∀ w4,I1 w4->cL w4 d (vS o3 k1 k2))/\idx o3 k1 b 1 λa2=>∃ n1,(∀ w5,I1 w5->cL w5 a2 (iI n1))/\aX Proofs.Tryz.prog (Instr.lookup 180 (Value.map o2) (vG [iI a,iI n1]) false) w1 λv1 w6=>∃ n2,v1 = iI n2/\I1 w6/\∀ w7,drawn w6 w7->∃ (I2:WP),I2 w7/\br (decide (0 < n2)) (∃ o4,(∀ w8,I2 w8->cL w8 c (vP o4))/\∃ o5 k3 k4,(∀ w9,I2 w9->cL w9 d (vS o5 k3 k4))/\ax (b + 1)/\uw o5 k3 k4 (some (b + 1)) none none 1 λ(o6:YB) (k5 k6:Nat)=>rE 207 [vP o4,vS o6 k5 k6] w7 λv2 w10=>∃ b1,v2 = vB b1/\I2 w10/\br b1 (∃ g1 x1,cL w10 e (Value.func (Fn.func g1) (Array.mk []) (Array.mk x1))/\ax (n2 - 1)/\∃ n3,cL w10 f (iI n3)/\wI (Proofs.YtndaepmjkbmjmaaGreatDoor.Fn g1) (rE g1 (iI (n2 - 1) :: iI n3 :: x1) w10 λv3 w11=>v3 = vU []/\R (vU []) w11)) (R (vU []) w10)) (R (vU []) w7)):aA Tryz.prog 206 [(.int .i64 a),(.int .i64 b),(.pointer (some c)),(.pointer (some d)),(.pointer (some e)),(.pointer (some f))] w R:=rv Tryz.func206 mc (by kernel_rfl) h
abbrev oB:FuncId:=207
def mf:bg:={ rngs:=[],loops:=[],joins:=[],blocks:=[] }
theorem mg {a b:YB} {c d:Nat} {w:YC} {R:Value->WP} (h:new w (oC [vP a] 175) λk1 w1=>rE 209 [vS b c d,Value.func (Fn.func 241) (Array.mk []) (Array.mk [vP (some (aM k1))])] w1 λv1 w2=>∃ b1,v1 = vB b1/\R (vB !b1) w2):aA Tryz.prog 207 [(.pointer a),(.slice b c d)] w R:=rv Tryz.func207 mf (by kernel_rfl) h
abbrev bh:FuncId:=239
def mX:bg:={ rngs:=[],loops:=[],joins:=[],blocks:=[] }
theorem mY {a b:Int} {c:Addr} {w:YC} {R:Value->WP} (h:∀ w1,drawn w w1->∃ (I1:WP),I1 w1/\∃ o1 k1 k2,(∀ w2,I1 w2->cL w2 c (vS o1 k1 k2))/\∃ o2 k3 k4,(∀ w3,I1 w3->cL w3 c (vS o2 k3 k4))/\idx o2 k3 a 1 λa1=>∃ o3 k5 k6,(∀ w4,I1 w4->cL w4 a1 (vS o3 k5 k6))/\new w1 (oC [iI b] 3) λk7 w5=>I1 w5/\rS (ir 24 (Array.mk [vS o3 k5 k6,vS (some (aM k7)) 1 1])) w5 λv1 w6=>∃ o4 k8 k9,v1 = vS o4 k8 k9/\I1 w6/\idx o1 k1 a 1 λa2=>st1 w6 a2 (vS o4 k8 k9) λw7=>R (vU []) w7):aA Tryz.prog 239 [(.int .i64 a),(.int .i64 b),(.pointer (some c))] w R:=rv Tryz.func239 mX (by kernel_rfl) h
abbrev fp:FuncId:=241
def j4:bg:={ rngs:=[],loops:=[],joins:=[],blocks:=[] }
theorem j5 {a:Int} {b:Addr} {w:YC} {R:Value->WP} (h:∀ w1,drawn w w1->∃ (I1:WP),I1 w1/\∃ o1,(∀ w2,I1 w2->cL w2 b (vP o1))/\nn o1 λa1=>∃ o2 k1 k2,(∀ w3,I1 w3->cL w3 a1 (vS o2 k1 k2))/\br (decide (a < (k1:Int))) (R (vB true) w1) (∃ o3,(∀ w4,I1 w4->cL w4 b (vP o3))/\nn o3 λa2=>∃ o4 k3 k4,(∀ w5,I1 w5->cL w5 (Addr.add a2 11) (vS o4 k3 k4))/\∃ o5,(∀ w6,I1 w6->cL w6 b (vP o5))/\nn o5 λa3=>∃ o6 k5 k6,(∀ w7,I1 w7->cL w7 a3 (vS o6 k5 k6))/\ax (a - (k5:Int))/\idx o4 k3 (a - (k5:Int)) 1 λa4=>∃ b1,(∀ w8,I1 w8->cL w8 a4 (vB b1))/\R (vB !b1) w1)):aA Tryz.prog 241 [(.int .i64 a),(.pointer (some b))] w R:=rv Tryz.func241 j4 (by kernel_rfl) h
end Go.Proofs.YtndaepmjkbmjmaaGreatDoor
namespace Go.V
theorem FX:∀ (l:List Int) (a b:Int),dd (l ++ [a,b]) = if a = b then dd (l ++ [a]) else dd (l ++ [a]) ++ [b]
 | [],a,b=>by
  by_cases h:a = b
  ·subst h; simp [dd]
  ·simp [dd,h]
 | [x],a,b=>by
  have:=FX [] a b
  simp only [Xd] at this
  by_cases h:a = b
  ·subst h; simp [dd]
  ·by_cases h2:x = a
   ·subst h2; simp [dd,h]
   ·simp [dd,h,h2]
 | x :: y :: l,a,b=>by
  have ih:=FX (y :: l) a b
  have e1:dd (x :: y :: l ++ [a,b]) = if x = y then dd (y :: l ++ [a,b]) else x :: dd (y :: l ++ [a,b]):=rfl
  have e2:dd (x :: y :: l ++ [a]) = if x = y then dd (y :: l ++ [a]) else x :: dd (y :: l ++ [a]):=rfl
  rw [e1,e2,ih]
  by_cases h:a = b <;> by_cases h2:x = y <;> simp [h,h2]
theorem A6 {xs:List Int} {m:Nat} {a b:Int} (ha:xs[m]? = some a) (hb:xs[m + 1]? = some b):dd (xs.take (m + 2)) = if a = b then dd (xs.take (m + 1)) else dd (xs.take (m + 1)) ++ [b]:=by
 have e1:xs.take (m + 1) = xs.take m ++ [a]:=by rw [Wz,ha]; rfl
 have e2:xs.take (m + 2) = xs.take m ++ [a,b]:=by rw [Wz,hb,e1]; simp
 rw [e2,e1,FX]
theorem OT {xs:List Int} {n:Nat} (h:n<=1):dd (xs.take n) = xs.take n:=by
 match n,h with
 | 0,_=>simp [dd]
 | 1,_=>cases xs <;> simp [dd]
end Go.V
namespace Go.Proofs.YtndaepmjkbmjmaaGreatDoor
open Go.V Go.Sort Go.Shelf
variable {w:YC} {L:List ay} {a:YB} {l c:Nat} {xs:List Int}
theorem JU (h:St w (own 1 a l c (iv xs) :: L)) (hb:l < 4611686018427387904) :
  aA Tryz.prog l9 [.slice a l c] w λv w'=>∃ a' c',v = .slice a' (dd xs).length c'/\St w' (own 1 a' (dd xs).length c' (iv (dd xs)) :: L):=by
 have hln:=iE h
 rw [pj] at hln
 have hlc:=fa h
 have hl:xs.length = l:=by omega
 refine kD (ae (λh1=>?_) λh1=>?_)
 ·have h1:l < 2:=by have:=Wr h1; omega
  have e:dd xs = xs:=by have:=OT (xs:=xs) (n:=l) (by omega); rwa [WN (by omega)] at this
  rw [e,hl]; exact ⟨a,c,rfl,h⟩
 have h1:2<=l:=by have:=Ws h1; omega
 refine ⟨λz w'=>∃ n:Nat,z = ((n + 1:Nat):Int)/\n + 1<=l/\dd (xs.take (n + 1)) = xs.take (n + 1)/\St w' (own 1 a l c (iv xs) :: L),λz _=>l - z.toNat,⟨0,rfl,by omega,OT (WO _),h⟩,?_⟩
 clear h
 rintro _ z w1 ⟨n,rfl,hn,hS,h⟩
 refine ae (λh2=>?_) λh2=>?_
 rotate_left
 ·have h2:l = n + 1:=by have:=Ws h2; omega
  have e:dd xs = xs:=by rwa [WN (by omega)] at hS
  rw [e,hl]; exact ⟨a,c,rfl,h⟩
 have h2:n + 1 < l:=by have:=Wr h2; omega
 intro w2 hd
 have h:=h.eq (aB hd)
 have hr:a_ (hp w2) xs a l:=dS hl (fB 0 h.l)
 obtain ⟨x,ad,hx,rfl,cx⟩:=hr.cF h2
 obtain ⟨z,ad2,hz,e2,cz⟩:=hr.cF (by omega:n < l)
 cases e2
 have e1:((n + 1:Nat):Int) - 1 = (n:Int):=by omega
 rw [e1]
 refine ⟨λu=>Gr w2 u,Gr.refl _,aw rfl h2 ⟨x,λu s=>cx u s,⟨by omega,by omega⟩,aw rfl (by omega) ⟨z,λu s=>cz u s,ae (λh3=>?_) λh3=>?_⟩⟩⟩
 rotate_left
 ·have h3:x≠z:=by simpa using h3
  refine ⟨⟨by omega,by omega⟩,⟨n + 1,by simp,h2,?_,h⟩,bx h2⟩
  rw [A6 hz hx,WB (X2 h3),hS,Wz (i:=n + 1),hx]; rfl
 have h3:x = z:=by simpa using h3
 subst h3
 refine dG (by omega) hlc ?_
 refine ⟨λz y w'=>∃ (k t:Nat) (us:List Int),z = (k:Int)/\y = ((t + 1:Nat):Int)/\n + 1<=k/\k<=n + 1 + t/\n + 1 + t + 1<=l/\us.length = l/\us.drop k = xs.drop k/\us.take k = dd (xs.take (n + 1 + t + 1))/\St w' (own 1 (some ad) l c (iv us) :: L),λ_ y _=>l - y.toNat,
  ⟨n + 1,0,xs,rfl,rfl,WO _,WO _,by omega,hl,rfl,?_,h⟩,?_⟩
 ·rw [show n + 1 + 0 + 1 = n + 2 by omega,A6 hz hx,WJ rfl,hS]
 clear h hr cx cz
 rintro _ _ _ w3 ⟨k,t,us,rfl,rfl,hk1,hk2,ht,hul,hud,hut,h⟩
 have hul2:(iv us).length = l:=by rw [pj,hul]
 refine ae (λh3=>?_) λh3=>?_
 rotate_left
 ·have h3:l = n + 1 + t + 1:=by have:=Ws h3; omega
  rw [<- h3,WN (show xs.length<=l by omega)] at hut
  have hkl:(dd xs).length = k:=by rw [<- hut,WV]; omega
  have hc:=Ei (ty:=0) (c2:=c - k) aQ (rfl:aj Ty NZ = .slice _) (rfl:Ty cZ = some _) rfl rfl (λv hv=>by rcases WM.1 hv with rfl | hv; rfl; cases hv) (by show 0 < 1; decide) h (show k<=l by omega)
  refine dG (by omega) hlc (hc.mono ?_)
  rintro _ w4 ⟨vs,hv,h⟩
  refine ub (by omega) ?_
  have h:=AV h (k:=k) (by omega)
  have e:vs.take (k * 1) = iv (dd xs):=hv.trans (by rw [<- hut]; show (iv us).take (k * 1) = _; rw [XR]; unfold iv; rw [List.map_take])
  rw [hkl]
  exact ⟨_,_,rfl,by rw [<- e]; exact h⟩
 have h3:t + 1 < l - (n + 1):=by have:=Wr h3; omega
 intro w4 hd
 have h:=h.eq (aB hd)
 have hr:=(dS hul (fB 0 h.l):a_ (hp w4) us (some ad) l).drop (k:=n + 1) (m:=c) (by omega) hlc
 have same:∀ j,k<=j->us[j]? = xs[j]?:=λj hj=>by
  have:=congrArg (λl=>l[j - k]?) hud
  simp only [W8] at this
  rwa [show k + (j - k) = j by omega] at this
 obtain ⟨x2,ad3,hx2,e3,cx⟩:=hr.cF h3
 obtain ⟨z2,ad4,hz2,e4,cz⟩:=hr.cF (by omega:t < l - (n + 1))
 rw [e3] at e4
 cases e4
 rw [W8,same _ (by omega)] at hx2 hz2
 have e1:((t + 1:Nat):Int) - 1 = (t:Int):=by omega
 have hx3:xs[n + 1 + t + 1]? = some x2:=by rw [<- hx2]; congr 1
 have hz3:xs[n + 1 + t]? = some z2:=by rw [<- hz2]
 rw [e1]
 refine ⟨λu=>Gr w4 u,Gr.refl _,aw e3 h3 ⟨x2,λu s=>cx u s,⟨by omega,by omega⟩,aw e3 (by omega) ⟨z2,λu s=>cz u s,ae (λh4=>?_) λh4=>?_⟩⟩⟩
 rotate_left
 ·have h4:x2 = z2:=by simpa using h4
  subst h4
  refine ⟨⟨by omega,by omega⟩,⟨k,t + 1,us,rfl,by simp,hk1,by omega,by omega,hul,hud,?_,h⟩,bx (by omega)⟩
  rw [hut,show n + 1 + (t + 1) + 1 = n + 1 + t + 2 by omega,A6 hz3 hx3,WJ rfl]
 have h4:x2≠z2:=by simpa using h4
 refine aw e3 h3 ⟨x2,cx _ (Gr.refl _),aw rfl (by omega) ?_⟩
 refine pf h rfl (by rw [hul2]; omega) λw5 h=>?_
 rw [QZ] at h
 refine ⟨⟨by omega,by omega⟩,⟨by omega,by omega⟩,⟨k + 1,t + 1,us.set k x2,by simp,by simp,by omega,by omega,by omega,by rw [W1,hul],?_,?_,h⟩,bx (by omega)⟩
 ·rw [List.drop_set_of_lt (by omega),<- List.drop_drop (i:=1),hud,List.drop_drop]
 ·have hku:k < us.length:=by omega
  rw [show n + 1 + (t + 1) + 1 = n + 1 + t + 2 by omega,A6 hz3 hx3,WB (X2 h4),<- hut,Wz,X_ hku,List.take_set_of_le (WO _)]
  rfl
end Go.Proofs.YtndaepmjkbmjmaaGreatDoor
namespace Go.V
open MapKept
section
variable {κ : Type} [DecidableEq κ] [MVal κ] {P:Program} {w:YC} {L:List ay} {Ty:TypeId->Option cU}
theorem um (k:κ) (u v:Value):∀ m:List (κ × Value),bK k v (bK k u m) = bK k v m
 | []=>by simp [bK]
 | (a,x) :: m=>by
  unfold bK
  by_cases h:k = a
  ·subst h; simp [bK]
  ·have e:bK k u ((a,x) :: m) = (a,x) :: bK k u m:=by show (if k = a then _ else _) = _; rw [WB h]
   rw [e,WB h]
   show (if k = a then _ else (a,x) :: bK k v (bK k u m)) = _
   rw [WB h,um k u v m]
theorem SB {k:κ} {u:Value}:∀ {m:List (κ × Value)} {j:Nat},assoc k m = some u->(m[j]?).map (·.1) = some k->(∀ v,bK k v m = m.set j (k,v))->m[j]? = some (k,u)
 | [],j,h,_,_=>by cases h
 | (a,x) :: m,0,h,hk,hp=>by
  simp at hk; subst hk
  simp [assoc] at h; subst h
  rfl
 | (a,x) :: m,j + 1,h,hk,hp=>by
  by_cases e:k = a
  ·subst e
   have h1:=hp (.bool true)
   have h2:=hp (.bool false)
   simp [bK] at h1 h2
   have h3:=h1.1.trans h2.1.symm
   cases h3
  ·have e1:assoc k ((a,x) :: m) = assoc k m:=by show (if k = a then _ else _) = _; rw [WB e]
   rw [e1] at h
   rw [Yj] at hk ⊢
   refine SB h hk λv=>?_
   have h1:=hp v
   simpa [bK,e] using h1
def TG (b:Nat) (m:List (κ × Value)) (k:κ) (n:Int):ay:=λh=>∃ es clock i,h b = some (.map es clock)/\ve es clock m/\i < m.length/\(∀ u,bK k u m = m.set i (k,u))/\(m[i]?).map (·.1) = some k/\(es[i]?).map (λe=>(e.born:Int)) = some n
theorem FY {b:Nat} {m:List (κ × Value)} {k:κ} {n:Int}:St w (TG b m k n :: L)↔∃ es clock i,ve es clock m/\i < m.length/\(∀ u,bK k u m = m.set i (k,u))/\(m[i]?).map (·.1) = some k/\(es[i]?).map (λe=>(e.born:Int)) = some n/\St w (blk b (.map es clock) :: L) :=
 ⟨λ⟨h1,h2,d,s1,s2,⟨es,cl,i,ha,q1,q2,q3,q4,q5⟩,hl⟩=>⟨es,cl,i,q1,q2,q3,q4,q5,h1,h2,d,s1,s2,ha,hl⟩,λ⟨es,cl,i,q1,q2,q3,q4,q5,h1,h2,d,s1,s2,ha,hl⟩=>⟨h1,h2,d,s1,s2,⟨es,cl,i,ha,q1,q2,q3,q4,q5⟩,hl⟩⟩
theorem JV {b:Nat} {es:Array MapEntry} {cl:Nat} (hg:w.heap[b]? = some (.map es cl)) (o:Array MapEntry × Nat):Ev w { w with heap:=w.heap.setIfInBounds b (.map o.1 o.2) }:=by
 refine ⟨rfl,rfl,rfl,by simp,?_,?_⟩ <;>
 ·intro x d hx
  rw [XI]; exact hx
  intro e; subst e; rw [hg] at hx; cases hx
theorem map_take (hT:eC P Ty) {t kt et:TypeId} {i:cU} {z:Value} (hk:aj Ty t = .map kt et) (hkt:sD P kt κ) (hi:Ty et = some i) (hz:i.zero = some z) {b:Nat} {m:List (κ × Value)} (h:St w (mapA b m :: L)) (k:κ) :
  aX P (Instr.mapEntry t (.map (some b)) (MVal.val k)) w λv w'=>∃ n:Int,v = .tuple #[(assoc k m).getD z,.int .i64 n]/\St w' (TG b (bK k ((assoc k m).getD z) m) k n :: L):=by
 obtain ⟨d,hd,hd'⟩:=dv hT hk (by simp)
 rw [xf hd'] at hd
 obtain ⟨es,cl,⟨he,hnd,hlt⟩,h⟩:=jv.1 h
 obtain ⟨r,hf,q2,q3,q4⟩:=hkt.find w k es.toList m he
 obtain ⟨info,d2,ha⟩:=rV hT hi
 have hzz:(zeroValue et).run P w = .ok z w:=jC ha.inf (by rw [<- ha.zero,hz])
 have hg:=h.get
 have hc:=λe=>hkt.check w e k
 have hlen:es.size = m.length:=by have:=congrArg List.length he; simpa using this
 cases r with
 | none =>
  have e0:assoc k m = none:=by rw [<- q2]; rfl
  rw [e0]
  refine ⟨_,_,?_,JV hg (es.push { key:=MVal.val k,val:=z,born:=cl },cl + 1),cl,rfl,FY.2 ⟨_,_,m.length,?_,?_,?_,?_,?_,h.setObj _⟩⟩
  ·unfold Instr.mapEntry
   simp only [Sem.run_bind,aS hd,Result.andThen_ok,run_getObj_map w b es cl hg,hc,hf,hzz]
   rw [run_setObj_map _ hg]
   rfl
  ·refine ⟨by rw [q4 rfl]; simp [he],?_,?_⟩
   ·rw [Array.toList_push,WZ,Xb]
    refine ⟨hnd,by simp,λa ha b hb e=>?_⟩
    obtain ⟨x,hx,rfl⟩:=WS.1 ha
    have:=hlt x hx
    simp at hb; omega
   ·intro e he'
    rw [Array.toList_push,Wy,WW] at he'
    rcases he' with he' | rfl
    ·have:=hlt e he'; omega
    ·exact Nat.lt_succ_self _
  ·show _ < (bK k z m).length
   rw [q4 rfl]; simp
  ·intro u
   show bK k u (bK k z m) = (bK k z m).set _ _
   rw [um,q4 rfl u,q4 rfl z]
   simp
  ·show ((bK k z m)[m.length]?).map _ = _
   rw [q4 rfl]; simp
  ·rw [<- hlen]; simp
 | some x =>
  obtain ⟨j,u⟩:=x
  obtain ⟨p2,p3,p4⟩:=q3 j u rfl
  have hj:j < es.size:=by omega
  have e0:assoc k m = some u:=by rw [<- q2]; rfl
  have hmj:m[j]? = some (k,u):=SB e0 p3 p4
  have hput:bK k u m = m:=by
   rw [p4 u]
   exact xn hmj
  have hkey:(es[j]?).map (λe=>(e.key,e.val)) = some (MVal.val k,u):=by
   have h1:=congrArg (λl=>l[j]?) he
   simp only [Wx,hmj,Xw] at h1
   rw [<- h1]; simp
  obtain ⟨e,hej,hek⟩:=Yn.1 hkey
  have hek1:e.key = MVal.val k:=congrArg Prod.fst hek
  have hk1:((es[j]?).map (·.key)).getD (MVal.val k) = MVal.val k:=by rw [hej]; exact hek1
  have hmod:(es.modify j λe=>{ e with key:=MVal.val k }) = es:=by
   apply Array.ext_getElem?
   intro i
   rw [Xr]
   split
   ·rename_i hji; subst hji
    rw [hej,<- hek1]; rfl
   ·rfl
  rw [e0]
  refine ⟨_,_,?_,JV hg (es,cl),(e.born:Int),rfl,FY.2 ⟨_,_,j,?_,?_,?_,?_,?_,h.setObj _⟩⟩
  ·unfold Instr.mapEntry
   simp only [Sem.run_bind,aS hd,Result.andThen_ok,run_getObj_map w b es cl hg,hc,hf,hk1,Instr.keyThatStays,hkt.bits,if_true,Sem.run_pure,hmod]
   rw [run_setObj_map _ hg]
   simp [hej,goInt]
  ·show ve _ _ (bK k u m)
   rw [hput]; exact ⟨he,hnd,hlt⟩
  ·show _ < (bK k u m).length
   rw [hput]; exact p2
  ·intro v
   show bK k v (bK k u m) = (bK k u m).set _ _
   rw [hput,p4 v]
  ·show ((bK k u m)[j]?).map _ = _
   rw [hput,hmj]; rfl
  ·rw [hej]; rfl
theorem HV {t:TypeId} {b:Nat} {m:List (κ × Value)} {k:κ} {n:Int} (h:St w (TG b m k n :: L)) (x:Value) :
  aX P (Instr.entryStore t (.map (some b)) (.int .i64 n) x) w λ_ w'=>St w' (mapA b (bK k x m) :: L):=by
 obtain ⟨es,cl,i,⟨he,hnd,hlt⟩,hi,hput,hm,hb,h⟩:=FY.1 h
 have hg:=h.get
 have hlen:es.size = m.length:=by have:=congrArg List.length he; simpa using this
 obtain ⟨e,hei,heb⟩:=Yn.1 hb
 have hidx:es.findIdx? (λe=>(e.born:Int) == n) = some i:=by
  rw [Array.findIdx?_eq_some_iff_getElem]
  refine ⟨by omega,?_,λj hj=>?_⟩
  ·have:=(Xg.1 hei).2
   rw [this,heb]; simp
  ·intro hne
   have hne:(es[j].born:Int) = n:=by simpa using hne
   have h1:(es.toList.map (·.born))[j]? = some es[j].born:=by simp [show j < es.size by omega]
   have h2:(es.toList.map (·.born))[i]? = some e.born:=by rw [Wx,Xa,hei]; rfl
   have e3:es[j].born = e.born:=by omega
   rw [e3] at h1
   have:=hnd
   have h4:=(List.getElem?_inj (i:=j) (j:=i) (by simp; omega) hnd).1 (by rw [h1,h2])
   omega
 refine ⟨(),_,?_,JV hg (es.modify i λe=>{ e with val:=x },cl),jv.2 ⟨_,_,?_,h.setObj _⟩⟩
 ·unfold Instr.entryStore
  simp only [Sem.run_bind,run_getObj_map w b es cl hg,Result.andThen_ok]
  show ((asInt (.int .i64 n)).run P w).andThen _ = _
  have ha:(asInt (.int .i64 n)).run P w = .ok n w:=rfl
  rw [ha,Result.andThen_ok]
  simp only [hidx]
  exact run_setObj_map _ hg
 ·refine ⟨?_,?_,?_⟩
  rotate_left
  ·have:(es.modify i λe=>{ e with val:=x }).toList.map (·.born) = es.toList.map (·.born):=by
    apply Xs
    intro i
    simp only [Wx,Xa,Xr]
    split
    ·cases es[i]? <;> rfl
    ·rfl
   rw [this]; exact hnd
  ·intro e he'
   obtain ⟨i,hi⟩:=W3 he'
   rw [Xa,Xr] at hi
   split at hi
   ·cases hx:es[i]? with
    | none=>rw [hx] at hi; cases hi
    | some x=>rw [hx] at hi; cases hi; exact hlt x (by rw [<- Xa] at hx; exact Wu hx)
   ·rw [<- Xa] at hi; exact hlt e (Wu hi)
  rw [hput x]
  apply Xs
  intro j
  have h1:=congrArg (λl=>l[j]?) he
  simp only [Wx,Xa] at h1
  simp only [Wx,Xa,Xr,XA]
  by_cases hij:i = j
  ·subst hij
   rw [hei] at h1 ⊢
   cases hmi:m[i]? with
   | none=>rw [hmi] at hm; cases hm
   | some y =>
    rw [hmi] at h1 hm
    simp only [Xw,Option.some.injEq,Prod.mk.injEq] at h1 hm
    simp [hi,h1.1,hm]
  ·simp [hij,h1]
end
theorem ze {bs:List Bool} {n:Nat} (h:bs.length<=n):df bs = ((List.range n).filter λk=>aO bs k).map λ(k:Nat)=>(k:Int):=by
 unfold df mb sB
 have e:n = bs.length + (n - bs.length):=by omega
 rw [e,List.range_add,W5]
 have:((List.range (n - bs.length)).map (bs.length + ·)).filter (λk=>aO bs k) = []:=by
  rw [XQ]
  intro k hk
  obtain ⟨j,_,rfl⟩:=WS.1 hk
  rw [pk (by omega)]; simp
 rw [this,W2]
theorem av.part {h:Hp} {b:Nat} {vs:List Value} (r:av h ⟨b,0,none⟩ vs) (i n:Nat):av h ((⟨b,0,none⟩ : Addr).add (cY i n)) ((vs.drop (i * n)).take n):=λj v hj=>by
 rw [XB] at hj
 split at hj
 ·rw [W8] at hj
  rw [add_add,aJ]
  exact r _ v hj
 ·cases hj
def vZ (n:Nat) (bs cs:List Bool):List Bool:=xa n λk=>decide (k < n) && (aO bs k || aO cs k)
theorem iV (n:Nat) (bs cs:List Bool):(vZ n bs cs).length = n:=kV _ _
theorem zf {n:Nat} {bs cs:List Bool} (h1:bs.length = n) (h2:cs.length = n) (k:Nat):aO (vZ n bs cs) k = true↔aO bs k = true\/aO cs k = true:=by
 unfold vZ
 rw [xb λk hk=>by simp; omega]
 simp only [WL,Xt,WH]
 exact ⟨λh=>h.2,λh=>⟨by rcases h with h | h <;> have:=Tn h <;> omega,h⟩⟩
theorem FZ {ms:List Bool} {u:Nat} (h:u < ms.length):(bv ms)[u]? = some (.bool (aO ms u)):=by
 unfold bv; rw [Wx,Wv h,ju (Wv h)]; rfl
theorem A7 {w:YC} {k u:Nat} {ms:List Bool} (r:av (hp w) ⟨k,0,none⟩ (bv ms)) (h:u < ms.length):w.cell? ((⟨k,0,none⟩ : Addr).add u) = some (.bool (aO ms u)):=r.cell (sub.refl _) (j:=u) (FZ h)
theorem F4 (ms:List Bool) (u:Nat) (b:Bool):(bv ms).set u (.bool b) = bv (ms.set u b):=by simp [bv,Xy]
theorem CC (n:Nat):List.replicate n (Value.bool false) = bv (List.replicate n false):=by simp [bv]
def OU (g:af) (nn:List Bool) (row:List Int):Prop:=∀ s∈row,(g.T:Int)<=s/\aO nn (s.toNat - g.T) = true
def Uu (g:af) (nn:List Bool) (p:aH):Prop:=OU g nn p.right->aO nn (p.left.toNat - g.T) = true
theorem jb.VH {g:af} {nn:List Bool} (h:jb g nn) (iG:Qi g) {row:List Int}:OU g nn row↔DC g row:=by
 refine forall_congr' λs=>imp_congr Iff.rfl ?_
 constructor
 ·rintro ⟨h1,h2⟩
  have:=(h.2 _).1 h2
  rwa [show ((g.T + (s.toNat - g.T):Nat):Int) = s from by omega] at this
 ·intro hN
  have hl:=hN.left iG
  refine ⟨hl.1,(h.2 _).2 ?_⟩
  rwa [show ((g.T + (s.toNat - g.T):Nat):Int) = s from by omega]
theorem TH {g:af} {nn:List Bool} (iG:Qi g) (hl:nn.length = g.N) (hs:∀ i,aO nn i = true->Ay g ((g.T + i:Nat):Int)) (hc:∀ p∈g.prods,Uu g nn p):jb g nn:=by
 refine ⟨hl,λi=>⟨hs i,λh=>?_⟩⟩
 have key:∀ s,Ay g s->aO nn (s.toNat - g.T) = true:=λs h=>by
  induction h with
  | mk p hp h1 ih=>exact hc p hp λs hs=>⟨(h1 s hs |>.left iG).1,ih s hs⟩
 have:=key _ h
 rwa [show ((g.T + i:Nat):Int).toNat - g.T = i from by omega] at this
end Go.V
namespace Go.Proofs.YtndaepmjkbmjmaaGreatDoor
section
variable {w:YC} {L:List ay} {g:af} {x:GA} {a an:YB} {l c nl cn:Nat} {row:List Int} {nn:List Bool}
theorem CD (hg:gR (hp w) g x) (hn:a_ (hp w) nn an nl) (hnl:nn.length = g.N) (hr:a_ (hp w) row a l) (hs:VJ g row) (hb:l<=4611686018427387904) (hT:g.T<=65) (hN:g.N<=65):aA Tryz.prog og [.agg ⟨x.cells⟩,.slice an nl cn,.slice a l c] w λv w'=>(∃ r:Bool,v = .bool r/\(r = true↔OU g nn row))/\Gr w w':=by
 refine l8 ?_
 refine cN hg λk1 w1 gw hg B=>?_
 have tl:g.T = x.tl:=hg.t.1
 have hn:=hn.mono gw
 have hr:=hr.mono gw
 have hn1:=hn.1
 refine ⟨λn w'=>∃ j:Nat,n = j/\j<=l/\OU g nn (row.take j)/\Gr w1 w',λn _=>l - n.toNat,⟨0,rfl,by omega,λs hs=>by simp at hs,Gr.refl _⟩,?_⟩
 rintro _ n w2 ⟨j,rfl,hj,hv,g2⟩
 refine ae (λh1=>?_) λh1=>?_
 ·have h1:j < l:=by have:=Wr h1; omega
  obtain ⟨y,ad,hy1,hya,hy2⟩:=hr.cF h1
  have hym:=Wu hy1
  have hys:=hs y hym
  intro w3 hd
  have g3:Gr w1 w3:=g2.trans (Gr.drawn hd)
  have no:¬ ((g.T:Int)<=y/\aO nn (y.toNat - g.T) = true)->(∃ r:Bool,Value.bool false = .bool r/\(r = true↔OU g nn row))/\Gr w w3:=λhn=>⟨⟨false,rfl,⟨λh=>absurd h (by decide),λh=>absurd (h y hym) hn⟩⟩,gw.trans g3⟩
  refine ⟨λw=>Gr w1 w,g3,aw hya h1 ⟨y,λw s=>hy2 _ s,_,_,_,λw s=>B.c0 s,ae (λh2=>no ?_) λh2=>?_⟩⟩
  ·have h2:=Wr h2; omega
  have h2:=Ws h2
  have hun:y.toNat - g.T < nl:=by omega
  obtain ⟨b,ad2,hb1,hba,hb2⟩:=hn.cF hun
  have eu:y - (x.tl:Int) = ((y.toNat - g.T:Nat):Int):=by rw [<- tl]; omega
  refine aw hya h1 ⟨y,λw s=>hy2 _ s,_,_,_,λw s=>B.c0 s,⟨by omega,by omega⟩,?_⟩
  rw [eu]
  refine aw hba hun ⟨b,λw s=>hb2 _ s,ae (λh3=>no ?_) λh3=>?_⟩
  ·rw [ju hb1]
   cases b
   ·simp
   ·cases h3
  ·refine ⟨⟨by omega,by omega⟩,⟨j + 1,by simp,by omega,λs hs=>?_,g3⟩,bx h1⟩
   rw [bA hy1] at hs
   rcases Wy.1 hs with hs | hs
   ·exact hv s hs
   ·simp at hs; subst hs
    exact ⟨by omega,by rw [ju hb1]; simpa using h3⟩
 ·have h1:j = l:=by have:=Ws h1; omega
  subst h1
  rw [WN (by have:=hr.1; omega)] at hv
  exact ⟨⟨true,rfl,by simp [hv]⟩,gw.trans g2⟩
theorem TI (hg:gR (hp w) g x) (hb:ik g) (he:gI g):aA Tryz.prog uK [.agg ⟨x.cells⟩] w λv w'=>∃ (k:Nat) (nn:List Bool),v = .slice (some ⟨k,0,none⟩) g.N g.N/\jb g nn/\St w' (aK k (bv nn) :: all w):=by
 refine qX ?_
 refine cN hg λk1 w1 gw hg B=>?_
 obtain ⟨iG,bT,bN,pN,pT,bP⟩:=Rx he
 have tl:g.T = x.tl:=hg.t.1
 have nl:g.N = x.nl:=hg.n.1
 have pl:=hg.p.1
 have gs:sub (hp w) (hp w1):=gw
 have h1:=St.all w1
 unfold V.all at h1
 generalize hH:hp w1 = H at *
 refine ⟨_,_,_,B.c1 (aU 0 h1.l),?_⟩
 rw [<- nl]
 refine ⟨⟨by omega,rfl,by omega⟩,?_⟩
 rw [WQ,de,CC]
 refine ah h1 λk4 w2 h2=>?_
 obtain ⟨Q,hQ⟩:=A3 (λ(b:Bool) (w:YC) (m:Nat)=>∃ nn:List Bool,nn.length = g.N/\(∀ i,aO nn i = true->Ay g ((g.T + i:Nat):Int))/\m = Cy nn + (if b then 1 else 0)/\(b = false->∀ p∈g.prods,Uu g nn p)/\St w [aK k4 (bv nn),has H])
 obtain ⟨μ,mu1,mu2⟩:=Cz (λ(y:Bool × YC) m=>Q y.1 y.2 m)
 refine ⟨λb w'=>∃ m,Q b w' m,λb w=>μ (b,w),⟨Cy (List.replicate g.N false) + 1,?_⟩,?_⟩
 ·rw [hQ]
  exact ⟨List.replicate g.N false,by simp,λi h=>(by rw [kA] at h; exact absurd h (by decide)),rfl,λh=>absurd h (by decide),h2⟩
 clear h2
 intro _ b w3 hP
 have hP:=mu2 (b,w3) hP
 dsimp only at hP
 generalize hμ : μ (b,w3) = μ0 at *
 rw [hQ] at hP
 obtain ⟨nn0,hl0,hs0,hmu,hc0,h⟩:=hP
 refine ae (λhb1=>?_) λhb1=>?_
 rotate_left
 ·exact ⟨k4,nn0,rfl,TH iG hl0 hs0 (hc0 hb1),h.qk (bC gs)⟩
 subst hb1
 rw [WJ rfl] at hmu
 refine ⟨λb n w'=>∃ (j:Nat) (nn:List Bool),n = j/\j<=g.prods.length/\nn.length = g.N/\(∀ i,aO nn i = true->Ay g ((g.T + i:Nat):Int))/\Cy nn + (if b then 1 else 0)<=Cy nn0/\(b = false->∀ p∈g.prods.take j,Uu g nn p)/\St w' [aK k4 (bv nn),has H],λ_ n _=>g.prods.length - n.toNat,⟨0,nn0,rfl,by omega,hl0,hs0,by simp,by simp,h⟩,?_⟩
 clear h hc0
 rintro _ b n w4 ⟨j,nn,rfl,hj,hl,hs,hm,hc,h⟩
 refine ⟨_,_,_,B.c4 (aU 1 h.l),ae (λh3=>?_) λh3=>?_⟩
 rotate_left
 ·have h3:j = g.prods.length:=by have:=Ws h3; omega
  subst h3
  rw [WT] at hc
  have key:Q b w4 (Cy nn + (if b then 1 else 0)):=by
   rw [hQ]; exact ⟨nn,hl,hs,rfl,hc,h⟩
  refine ⟨⟨_,key⟩,?_⟩
  have:=mu1 (b,w4) _ key
  dsimp only
  rw [hμ]
  omega
 have h3:j < g.prods.length:=by have:=Wr h3; omega
 obtain ⟨p,ad,vs,hp1,hpa,hp2,ra,rl,rc,rfl,hrc,hp3⟩:=hg.p.get (i:=j) (by omega)
 have hpm:=Wu hp1
 obtain ⟨hpl,hpr⟩:=iG p hpm
 have b7':=hb.2.2.2.2.2.2 p hpm
 have rl1:=hp3.1
 have et:g.prods.take (j + 1) = g.prods.take j ++ [p]:=by rw [Wz,hp1]; rfl
 intro w5 hd
 have h:=h.drawn hd
 have hun:p.left.toNat - g.T < g.N:=by omega
 have eu:p.left - (x.tl:Int) = ((p.left.toNat - g.T:Nat):Int):=by rw [<- tl]; omega
 refine ⟨λw=>sub H (hp w),aU 1 h.l,_,_,_,λw s=>B.c4 s,aq hpa (by omega) ⟨_,λw s=>hp2.cell0 s,_,_,_,λw s=>B.c0 s,⟨by omega,by omega⟩,?_⟩⟩
 rw [eu]
 have nx:∀ {w' : YC} {nn' : List Bool} {b' : Bool},nn'.length = g.N->(∀ i,aO nn' i = true->Ay g ((g.T + i:Nat):Int))->Cy nn' + (if b' then 1 else 0)<=Cy nn0->(b' = false->(∀ p∈g.prods.take j,Uu g nn' p)/\Uu g nn' p)->St w' [aK k4 (bv nn'),has H]->ax ((j:Int) + 1)/\(∃ (j' : Nat) (nn:List Bool),(j:Int) + 1 = j'/\j'<=g.prods.length/\nn.length = g.N/\(∀ i,aO nn i = true->Ay g ((g.T + i:Nat):Int))/\Cy nn + (if b' then 1 else 0)<=Cy nn0/\(b' = false->∀ p∈g.prods.take j',Uu g nn p)/\St w' [aK k4 (bv nn),has H])/\g.prods.length - ((j:Int) + 1).toNat < g.prods.length - (j:Int).toNat:=λ{w' nn' b'} a1 a2 a3 a4 a5=>by
  refine ⟨⟨by omega,by omega⟩,⟨j + 1,nn',by simp,by omega,a1,a2,a3,λhb' q hq=>?_,a5⟩,bx h3⟩
  rw [et] at hq
  rcases Wy.1 hq with hq | hq
  ·exact (a4 hb').1 q hq
  ·simp at hq; subst hq; exact (a4 hb').2
 refine aw rfl hun ⟨_,A7 (ai 0 h.l) (by omega),ae (λh4=>nx hl hs hm (λhb'=>⟨hc hb',λ_=>h4⟩) h) λh4=>?_⟩
 intro w9 hd2
 have h:=h.drawn hd2
 refine ⟨λw=>sub H (hp w),aU 1 h.l,_,_,_,_,_,_,_,_,_,_,_,_,_,λw s=>B.row s,_,_,_,λw s=>B.c4 s,aq hpa (by omega) ⟨_,_,_,λw s=>hp2.cell s (j:=1) rfl,?_⟩⟩
 have rn:a_ (hp w9) nn (some ⟨k4,0,none⟩) g.N:=kU hl (.inr ⟨_,rfl,ai 0 h.l⟩)
 refine (CD (x:=x) (hg.mono (aU 1 h.l)) rn hl (hp3.mono (aU 1 h.l)) (λs hs=>⟨(hpr s hs).1,(hpr s hs).2⟩) (by omega) bT bN).mono ?_
 rintro _ w13 ⟨⟨r,rfl,hr⟩,g13⟩
 have h:=h.gr g13
 refine ⟨_,rfl,ae (λh5=>?_) λh5=>nx hl hs hm (λhb'=>⟨hc hb',λhv=>?_⟩) h⟩
 ·have hun' : p.left.toNat - g.T < nn.length:=by omega
  refine aw rfl hun ?_
  rw [aL]
  refine bj h (by rw [mM]; exact hun') λw14 h=>?_
  rw [F4] at h
  have hop:=Lb hun' h4
  refine nx (by rw [W1]; exact hl) (λi hi=>?_) ?_ (λhb'=>absurd hb' (by decide)) h
  ·rw [ox hun',Xt,Yo] at hi
   rcases hi with hi | rfl
   ·exact hs i hi
   ·rw [show ((g.T + (p.left.toNat - g.T):Nat):Int) = p.left from by omega]
    refine .mk p hpm λs hs'=>?_
    obtain ⟨v1,v2⟩:=hr.1 h5 s hs'
    have:=hs _ v2
    rwa [show ((g.T + (s.toNat - g.T):Nat):Int) = s from by omega] at this
  ·have:=hm
   rw [WJ rfl]
   split at this <;> omega
 ·rw [hr.2 hv] at h5; cases h5
end
end Go.Proofs.YtndaepmjkbmjmaaGreatDoor
namespace Go.V
def ri (T:Nat) (nn:List Bool):List Bool:=List.replicate T false ++ nn
theorem HW {T:Nat} {nn:List Bool} (i:Nat):aO (ri T nn) i = (decide (T<=i) && aO nn (i - T)):=by
 unfold ri aO
 rw [Ww,Ww]
 by_cases h:T<=i
 ·rw [WK (by simpa using h),Yp]; simp [h]
 ·rw [WI (by simp; omega),XM,WJ (by omega)]
  simp [h]
def HX (T p:Nat):Value:=.slice (some ⟨p,0,none⟩) T T
end Go.V
namespace Go.Proofs.YtndaepmjkbmjmaaGreatDoor
section
variable {w:YC} {L:List ay} {T ks q:Nat} {x:GA} {a an ao:YB} {l c nl cn ol co:Nat} {row:List Int} {nn bs:List Bool} {ps:List Nat} {vs:List (List Bool)}
theorem SC (hT:T = x.tl) (h:St w (aK q (bv bs) :: L)) (hs:∀ h,aC L h->av h ⟨ks,0,none⟩ (x.cells ++ [.slice an nl cn,.slice ao ol co])) (hn:∀ h,aC L h->a_ h nn an nl) (ho:∀ h,aC L h->∃ ad,ao = some ad/\av h ad (ps.map (HX T))) (hol:ps.length = ol) (hv:vs.length = ol) (hnl:ol = T + nl)
  (hle:∀ v∈vs,v.length = T) (hbl:bs.length = T) (hq:∀ h,aC L h->∀ (i:Nat) p v,ps[i]? = some p->vs[i]? = some v->av h ⟨p,0,none⟩ (bv v)\/(p = q/\v = bs))
  (hr:∀ h,aC L h->a_ h row a l) (hin:∀ s∈row,0<=s/\s.toNat < ol) (hb:l<=4611686018427387904) (hb2:ol<=4611686018427387904) :
  aA Tryz.prog mU [.pointer (some ⟨ks,0,none⟩),.slice a l c,.slice (some ⟨q,0,none⟩) T T] w λv w'=>v = .bool (decide (ee (ri T nn) vs bs row≠bs))/\St w' (aK q (bv (ee (ri T nn) vs bs row)) :: L):=by
 subst hT
 obtain ⟨h0,hl,_,h1⟩:=h.freeze
 have hs:=hs h0 hl
 have hn:=hn h0 hl
 obtain ⟨ad0,rfl,ho'⟩:=ho h0 hl
 have hq:=hq h0 hl
 have hr:=hr h0 hl
 have hn1:=hn.1
 have hr1:=hr.1
 have done:∀ w' b,St w' (aK q b :: [has h0])->St w' (aK q b :: L):=λw' b h=>h.qk hl
 clear h hl
 have c0:∀ w',sub h0 (hp w')->w'.cell? (⟨ks,0,none⟩ : Addr) = some (.slice x.ta x.tl x.tc):=λw' s=>hs.cell0 s
 have c5:∀ w',sub h0 (hp w')->w'.cell? ((⟨ks,0,none⟩ : Addr).add 5) = some (.slice an nl cn):=λw' s=>hs.cell s (j:=5) rfl
 have c6:∀ w',sub h0 (hp w')->w'.cell? ((⟨ks,0,none⟩ : Addr).add 6) = some (.slice (some ad0) ol co):=λw' s=>hs.cell s (j:=6) rfl
 refine lq ?_
 refine ⟨λb n w'=>∃ (j:Nat) (U:List Bool),n = j/\j<=l/\U.length = bs.length/\(∀ k,aO bs k = true->aO U k = true)/\(b = true↔U≠bs)/\ee (ri x.tl nn) vs bs row = ee (ri x.tl nn) vs U (row.drop j)/\St w' [aK q (bv U),has h0],λ_ n _=>l - n.toNat,⟨0,bs,rfl,by omega,rfl,λ_ h=>h,by simp,by simp,h1⟩,?_⟩
 clear h1
 rintro _ b n w1 ⟨j,U,rfl,hj,hU,hsub,hb1,e1,h⟩
 have fin:∀ {w' : YC} {V:List Bool} {b:Bool},(b = true↔V≠bs)->ee (ri x.tl nn) vs bs row = V->St w' [aK q (bv V),has h0]->Value.bool b = .bool (decide (ee (ri x.tl nn) vs bs row≠bs))/\St w' (aK q (bv (ee (ri x.tl nn) vs bs row)) :: L):=λ{w' V b} h1 h2 h3=>by
  rw [h2]
  refine ⟨?_,done _ _ h3⟩
  congr 1
  rw [Xh,h1,WH]
 refine ae (λhlt=>?_) λhlt=>?_
 rotate_left
 ·have hlt:j = l:=by have:=Ws hlt; omega
  subst hlt
  rw [XG (by omega),Cx] at e1
  exact fin hb1 e1 h
 have hlt:j < l:=by have:=Wr hlt; omega
 obtain ⟨y,ad,hy1,hya,hy2⟩:=hr.cF hlt
 obtain ⟨y0,yl⟩:=hin y (Wu hy1)
 obtain ⟨u,rfl⟩ : ∃ u:Nat,y = u:=⟨y.toNat,by omega⟩
 rw [WQ] at yl
 obtain ⟨p,hpp⟩ : ∃ p,ps[u]? = some p:=⟨ps[u]'(by omega),Wv _⟩
 obtain ⟨v,hv1⟩ : ∃ v,vs[u]? = some v:=⟨vs[u]'(by omega),Wv _⟩
 have hvl:=hle v (Wu hv1)
 have hvd:vs.getD u [] = v:=by simp [List.getD,hv1]
 have hpq:=hq u p v hpp hv1
 have ed:row.drop j = (u:Int) :: row.drop (j + 1):=by
  have:=W_ (l:=row) (i:=j) (by rw [hr.1]; exact hlt)
  rw [this]; congr 1
  have:=Wt.1 hy1; exact this.2
 rw [ed,y_,WQ,hvd,HW] at e1
 intro w2 hd
 have h:=h.drawn hd
 have cp:∀ w',sub h0 (hp w')->w'.cell? (ad0.add u) = some (HX x.tl p):=λw' s=>ho'.cell s (j:=u) (by rw [Wx,hpp]; rfl)
 refine ⟨λw=>sub h0 (hp w),aU 1 h.l,_,_,_,λw s=>c6 w s,aw hya hlt ⟨_,λw s=>hy2 _ s,aw rfl (by omega) ⟨_,_,_,λw s=>cp w s,?_⟩⟩⟩
 refine ⟨λb n w'=>∃ (t:Nat) (V:List Bool),n = t/\t<=x.tl/\V.length = bs.length/\(∀ k,aO V k = (aO U k || (decide (k < t) && aO v k)))/\(b = true↔V≠bs)/\St w' [aK q (bv V),has h0],λ_ n _=>x.tl - n.toNat,⟨0,U,rfl,by omega,hU,λk=>by simp,hb1,h⟩,?_⟩
 clear h
 rintro _ b n3 w6 ⟨t,V,rfl,ht,hV,hVf,hb3,h⟩
 refine ae (λhlt2=>?_) λhlt2=>?_
 ·have hlt2:t < x.tl:=by have:=Wr hlt2; omega
  have htV:t < V.length:=by omega
  have nx:∀ {w' : YC} {V' : List Bool} {b' : Bool},V'.length = bs.length->(∀ k,aO V' k = (aO U k || (decide (k < t + 1) && aO v k)))->(b' = true↔V'≠bs)->St w' [aK q (bv V'),has h0]->ax ((t:Int) + 1)/\(∃ (t' : Nat) (V:List Bool),(t:Int) + 1 = t'/\t'<=x.tl/\V.length = bs.length/\(∀ k,aO V k = (aO U k || (decide (k < t') && aO v k)))/\(b' = true↔V≠bs)/\St w' [aK q (bv V),has h0])/\x.tl - ((t:Int) + 1).toNat < x.tl - (t:Int).toNat:=λ{w' V' b'} a1 a2 a3 a4 =>
   ⟨⟨by omega,by omega⟩,⟨t + 1,V',by simp,by omega,a1,a2,a3,a4⟩,bx hlt2⟩
  have hVt:aO V t = aO U t:=by rw [hVf]; simp
  have step:∀ k,k≠t->(aO U k || (decide (k < t + 1) && aO v k)) = aO V k:=λk hk=>by
   rw [hVf]
   by_cases h1:k < t
   ·simp [h1,show k < t + 1 by omega]
   ·simp [h1,show ¬ k < t + 1 by omega]
  obtain ⟨lt,hlt3,hlt4⟩ : ∃ lt:Bool,w6.cell? ((⟨p,0,none⟩ : Addr).add t) = some (.bool lt)/\(lt = aO v t\/(lt = aO V t/\(aO v t = true->aO V t = true))):=by
   rcases hpq with hr' | ⟨rfl,rfl⟩
   ·exact ⟨_,A7 (hr'.mono (aU 1 h.l)) (by omega),.inl rfl⟩
   ·refine ⟨_,A7 (ai 0 h.l) htV,.inr ⟨rfl,λhb'=>?_⟩⟩
    rw [hVt]; exact hsub t hb'
  refine aw rfl hlt2 ⟨lt,hlt3,ae (λh4=>?_) λh4=>?_⟩
  ·refine aw rfl hlt2 ⟨_,A7 (ai 0 h.l) htV,ae (λh5=>?_) λh5=>?_⟩
   ·have h5:aO V t = false:=by simpa using h5
    have hvt:aO v t = true:=by
     rcases hlt4 with e | ⟨e,_⟩
     ·rw [<- e]; exact h4
     ·rw [h5] at e; rw [e] at h4; cases h4
    refine aw rfl hlt2 ?_
    rw [aL]
    refine bj h (by rw [mM]; exact htV) λw7 h=>?_
    rw [F4] at h
    refine nx (by rw [W1]; exact hV) (λk=>?_) ⟨λ_ he=>?_,λ_=>rfl⟩ h
    ·rw [ox htV]
     by_cases hk:k = t
     ·subst hk; rw [hvt]; simp
     ·rw [step k hk]; simp [hk]
    ·have:=hVt ▸ h5
     have hbt:aO bs t = true:=by rw [<- he,ox htV]; simp
     rw [hsub t hbt] at this; cases this
   ·have h5:aO V t = true:=by simpa using h5
    refine nx hV (λk=>?_) hb3 h
    by_cases hk:k = t
    ·subst hk; rw [h5,<- hVt,h5]; rfl
    ·exact (step k hk).symm
  ·refine nx hV (λk=>?_) hb3 h
   by_cases hk:k = t
   ·subst hk
    have:aO v k = true->aO V k = true:=λhv'=>by
     rcases hlt4 with e | ⟨_,e⟩
     ·rw [e,hv'] at h4; cases h4
     ·exact e hv'
    rw [<- hVt]
    cases hv' : aO v k
    ·simp
    ·rw [this hv']; rfl
   ·exact (step k hk).symm
 have hlt2:t = x.tl:=by have:=Ws hlt2; omega
 subst hlt2
 have eV:V = dg U (df v):=gF (by rw [bI,hV,hU]) λk=>by
  rw [hVf,dT,hU,hbl]
 have hsub2:∀ k,aO bs k = true->aO V k = true:=λk hk=>by rw [hVf,hsub k hk]; rfl
 rw [<- eV] at e1
 intro w8 hd8
 have h:=h.drawn hd8
 refine ⟨λw=>sub h0 (hp w),aU 1 h.l,aw hya hlt ⟨_,λw s=>hy2 _ s,_,_,_,λw s=>c0 w s,ae (λh4=>?_) λh4=>?_⟩⟩
 ·have h4:u < x.tl:=by have:=Wr h4; omega
  rw [Xm (by omega),Bool.false_and,WB (by decide)] at e1
  exact fin hb3 e1 h
 have h4:x.tl<=u:=by have:=Ws h4; omega
 have hun:u - x.tl < nl:=by omega
 obtain ⟨b5,ad5,hb51,hba,hb52⟩:=hn.cF hun
 have eu:(u:Int) - (x.tl:Int) = ((u - x.tl:Nat):Int):=by omega
 refine ⟨_,_,_,λw s=>c5 w s,aw hya hlt ⟨_,λw s=>hy2 _ s,_,_,_,λw s=>c0 w s,⟨by omega,by omega⟩,?_⟩⟩
 rw [eu]
 rw [W4 h4,X9,ju hb51] at e1
 refine aw hba hun ⟨b5,λw s=>hb52 _ s,ae (λh5=>?_) λh5=>?_⟩
 ·have h5:b5 = false:=by simpa using h5
  rw [h5,WB (by decide)] at e1
  exact fin hb3 e1 h
 ·have h5:b5 = true:=by simpa using h5
  rw [h5,WJ rfl] at e1
  exact ⟨⟨by omega,by omega⟩,⟨j + 1,V,by simp,by omega,hV,hsub2,hb3,e1,h⟩,bx hlt⟩
theorem TJ (hr:a_ (hp w) bs a l) (hb:l<=4611686018427387904) (hb8:l * 8<=140737488355328):aA Tryz.prog uI [.slice a l c] w λv w'=>∃ o c',v = .slice o (aY bs) c'/\St w' (own 1 o (aY bs) c' (iv (df bs)) :: all w):=by
 refine qT ?_
 have h0:=St.all w
 unfold V.all at *
 have hr1:=hr.1
 generalize hp w = H at *
 have key:∀ j,df (bs.take j) = ((List.range j).filter λk=>aO (bs.take j) k).map λ(k:Nat)=>(k:Int):=λj=>ze (by simp; omega)
 refine ⟨λo l' c' n w'=>∃ j:Nat,n = j/\j<=l/\l' = aY (bs.take j)/\St w' [own 1 o l' c' (iv (df (bs.take j))),has H],λ_ _ _ n _=>l - n.toNat,⟨0,rfl,by omega,by simp [aY,j_],?_⟩,?_⟩
 ·have:df (bs.take 0) = []:=by simp [df,mb,sB]
  rw [this]; exact az 1 h0
 rintro _ o l' c' n w1 ⟨j,rfl,hj,rfl,h⟩
 have s1:sub H (hp w1):=aU 1 h.l
 have hcl:=fy (bs.take j)
 refine ae (λhlt=>?_) λhlt=>?_
 rotate_left
 ·have hlt:j = l:=by have:=Ws hlt; omega
  subst hlt
  rw [WN (by omega)] at h ⊢
  exact ⟨o,c',rfl,h⟩
 have hlt:j < l:=by have:=Wr hlt; omega
 obtain ⟨b,ad,hb1,hba,hb2⟩:=hr.cF hlt
 have et:bs.take (j + 1) = bs.take j ++ [b]:=by rw [Wz,hb1]; rfl
 have lt:(bs.take j).length = j:=by rw [WV]; omega
 have em:df (bs.take (j + 1)) = df (bs.take j) ++ (if b then [(j:Int)] else []):=by
  rw [ze (n:=j + 1) (by simp; omega),XD,W5,WZ]
  have e1:((List.range j).filter λk=>aO (bs.take (j + 1)) k) = (List.range j).filter λk=>aO (bs.take j) k:=XF λk hk=>by
   have hk:k < j:=by simpa using hk
   unfold aO
   rw [Ww,Ww,et,WI (by omega)]
  rw [e1,<- ze (n:=j) (by omega)]
  have e2:aO (bs.take (j + 1)) j = b:=by
   rw [et]; exact ju (by rw [WK (by omega),lt,Xz]; rfl)
  simp only [XE,e2,List.filter_nil]
  cases b <;> rfl
 have ec:aY (bs.take (j + 1)) = aY (bs.take j) + (if b then 1 else 0):=by
  rw [<- pn,em,WA,pn]
  cases b <;> rfl
 refine aw hba hlt ⟨b,hb2 _ s1,ae (λh3=>?_) λh3=>?_⟩
 ·subst h3
  refine ah h λk3 w2 h=>?_
  refine (aN aQ (rfl:aj Ty _ = .slice _) (rfl:aj Ty _ = .slice _) rfl rfl rfl h rfl (by simp [aV]) (by show (_ + 1) * 8<=_; omega) (by omega)).mono ?_
  rintro _ w3 ⟨o2,c2,rfl,h⟩
  refine ⟨_,_,_,rfl,⟨by omega,by omega⟩,⟨j + 1,by simp,by omega,ec.symm,?_⟩,bx hlt⟩
  have e2:iv (df (bs.take j)) ++ [Value.int .i64 (j:Int)] = iv (df (bs.take (j + 1))):=by rw [em]; simp [iv]
  rw [e2] at h
  exact h.pick 3 [0,2]
 ·subst h3
  refine ⟨⟨by omega,by omega⟩,⟨j + 1,by simp,by omega,by rw [ec]; rfl,?_⟩,bx hlt⟩
  rw [em,WB (by decide),W2]
  exact h
end
end Go.Proofs.YtndaepmjkbmjmaaGreatDoor
namespace Go.V
def gA (ps:List Nat) (vs:List (List Bool)):List ay:=List.zipWith (λp v=>aK p (bv v)) ps vs
theorem VK {L:List ay} {h:Hp} {ps:List Nat} {vs:List (List Bool)} {k p:Nat} {v:List Bool} (i:Nat) (hl:aC L h) (hp:ps[k]? = some p) (hv:vs[k]? = some v) (e:oU L i = aG (gA ps vs):=by rfl) (hi:Nat.blt i (xc L) = true:=by rfl):av h ⟨p,0,none⟩ (bv v):=by
 obtain ⟨h1,s,ha⟩:=cR i (by simpa [gH] using hi) hl
 rw [e] at ha
 obtain ⟨h2,s2,hb⟩:=kW (A:=aK p (bv v)) (Wu (i:=k) (by unfold gA; rw [XZ,hp,hv])) ha
 exact (ph hb).mono (s2.trans s)
theorem VL {L:List ay} {h:Hp} {ps:List Nat} {vs:List (List Bool)} {k m p:Nat} {v:List Bool} (i:Nat) (hl:aC L h) (hp:ps[k]? = some p) (hv:vs[k]? = some v) (hk:k≠m) (e:oU L i = aG ((gA ps vs).eraseIdx m):=by rfl) (hi:Nat.blt i (xc L) = true:=by rfl):av h ⟨p,0,none⟩ (bv v):=by
 obtain ⟨h1,s,ha⟩:=cR i (by simpa [gH] using hi) hl
 rw [e] at ha
 obtain ⟨h2,s2,hb⟩:=kW (A:=aK p (bv v)) (List.mem_eraseIdx_iff_getElem?.2 ⟨k,hk,by unfold gA; rw [XZ,hp,hv]⟩) ha
 exact (ph hb).mono (s2.trans s)
theorem Lc {L:List ay} {h:Hp} {a:YB} {sz l c:Nat} {vs:List Value} (i:Nat) (hl:aC L h) (e:oU L i = own sz a l c vs:=by rfl) (hi:Nat.blt i (xc L) = true:=by rfl):eJ a vs h:=by
 obtain ⟨h1,s,ha⟩:=cR i (by simpa [gH] using hi) hl
 rw [e] at ha
 exact eJ.mono s (cf ha)
def jo (T i:Nat):List Bool:=if i < T then (List.replicate T false).set i true else List.replicate T false
def kg (T j:Nat):List (List Bool):=(List.range j).map (jo T)
theorem JW (T j:Nat):kg T (j + 1) = kg T j ++ [jo T j]:=by simp [kg,XD]
theorem Ew (T j:Nat):(kg T j).length = j:=by simp [kg]
theorem zg (T i:Nat):(jo T i).length = T/\∀ t,aO (jo T i) t = true↔t = i/\t < T:=by
 unfold jo
 by_cases h:i < T
 ·rw [WJ h]
  refine ⟨by simp,λt=>?_⟩
  rw [ox (by simpa using h),kA]
  simp; omega
 ·rw [WB h]
  refine ⟨by simp,λt=>?_⟩
  rw [kA]; simp; omega
theorem jb.sym {g:af} {nn:List Bool} (h:jb g nn) (iG:Qi g) (i:Nat):aO (ri g.T nn) i = true↔Ay g (i:Int):=by
 rw [HW,WL,WH]
 constructor
 ·rintro ⟨h1,h2⟩
  have:=(h.2 _).1 h2
  rwa [show ((g.T + (i - g.T):Nat):Int) = i from by omega] at this
 ·intro hN
  have hl:=hN.left iG
  refine ⟨by omega,(h.2 _).2 ?_⟩
  rwa [show ((g.T + (i - g.T):Nat):Int) = i from by omega]
theorem OV {g:af} {nn:List Bool} (iG:Qi g) (hn:jb g nn):DD g (ri g.T nn) (kg g.T (g.T + g.N)):=by
 have hget:∀ i,(kg g.T (g.T + g.N)).getD i [] = if i < g.T + g.N then jo g.T i else []:=λi=>by
  unfold kg
  rw [Ww,Wx]
  by_cases h:i < g.T + g.N
  ·rw [XV h,WJ h]; rfl
  ·rw [WR (by simp; omega),WB h]; rfl
 refine ⟨by unfold ri; simp [hn.1],Ew _ _,λv hv=>?_,λi h=>(hn.sym iG i).1 h,λi t h=>?_,λt ht=>?_⟩
 ·obtain ⟨i,_,rfl⟩:=WS.1 hv
  exact (zg _ _).1
 ·rw [hget] at h
  split at h
  ·obtain ⟨rfl,h'⟩:=((zg g.T i).2 t).1 h
   exact .tm t h'
  ·simp [aO] at h
 ·rw [hget,WJ (by omega)]
  exact ((zg _ _).2 _).2 ⟨rfl,ht⟩
theorem jb.uN {g:af} {nn:List Bool} (h:jb g nn) (iG:Qi g) {p:aH} (hp:p∈g.prods):uN (ri g.T nn) p.right = true->aO (ri g.T nn) p.left.toNat = true:=λhr=>by
 obtain ⟨h1,h2⟩:=iG p hp
 rw [h.sym iG,bU (by omega)]
 refine .mk p hp λs hs=>?_
 have:=(h.sym iG _).1 (xJ.1 hr s hs)
 rwa [bU (h2 s hs).1] at this
theorem Ex {α : Type} {l:List α} {k:Nat} {v:α} (h:l[k]? = some v):l.set k v = l:=by
 apply Xs
 intro i
 rw [XA]
 split
 ·rename_i e; subst e; rw [h]; simp; exact (Wt.1 h).1
 ·rfl
end Go.V
namespace Go.Proofs.YtndaepmjkbmjmaaGreatDoor
section
variable {w:YC} {L:List ay} {g:af} {x:GA}
theorem Ry (hg:gR (hp w) g x) (hb:ik g) (he:gI g):aA Tryz.prog te [.agg ⟨x.cells⟩] w λv w'=>∃ (b k4:Nat) (o:YB) (c:Nat) (nn:List Bool) (ps:List Nat) (vs:List (List Bool)),v = .pointer (some ⟨b,0,none⟩)/\jb g nn/\JO g (ri g.T nn) vs/\ps.length = vs.length /\
  St w' (aK b (FC x k4 g.N o (g.T + g.N) c) :: aK k4 (bv nn) :: own 1 o (g.T + g.N) c (ps.map (HX g.T)) :: aG (gA ps vs) :: all w):=by
 refine pD ?_
 refine cN hg λk1 w1 gw hg B=>?_
 obtain ⟨iG,bT,bN,pN,pT,bP⟩:=Rx he
 have tl:g.T = x.tl:=hg.t.1
 have nl:g.N = x.nl:=hg.n.1
 have pl:=hg.p.1
 intro w2 hd
 have e2:hp w2 = hp w1:=dB hd
 have gs:sub (hp w) (hp w1):=gw
 have hg2:gR (hp w2) g x:=hg.mono (e2 ▸ sub.refl _)
 have h2:=St.all w2
 unfold V.all at h2
 rw [e2] at h2
 generalize hH:hp w1 = H at *
 refine ⟨λw=>sub H (hp w),e2 ▸ sub.refl _,_,_,_,_,_,_,_,_,_,_,_,_,_,λw s=>B.row s,_,_,_,_,_,_,_,_,_,_,_,_,_,λw s=>B.row s,(TI (x:=x) hg2 hb he).mono ?_⟩
 rintro _ w5 ⟨k4,nn,rfl,hnn,h5⟩
 have h5:=h5.qk h2
 refine ⟨_,_,_,rfl,aU 1 h5.l,ah h5 λk20 w6 h=>⟨aU 2 h.l,?_⟩⟩
 have h:St w6 [aK k20 (FC x k4 g.N none 0 0),aK k4 (bv nn),has H]:=h
 refine ⟨λn w'=>∃ (j:Nat) (o:YB) (c:Nat) (ps:List Nat),n = j/\j<=g.T + g.N/\ps.length = j/\St w' [aK k20 (FC x k4 g.N o j c),aK k4 (bv nn),own 1 o j c (ps.map (HX g.T)),aG (gA ps (kg g.T j)),has H],λn _=>g.T + g.N - n.toNat,⟨0,none,0,[],rfl,by omega,rfl,?_⟩,?_⟩
 ·have h7:St w6 (aG (gA [] (kg g.T 0)) :: _):=St.flat.2 (show St w6 ([] ++ _) from az 1 h)
  exact h7.pick 5 [2,3,1,0,4]
 clear h h5 h2
 rintro _ n w7 ⟨j,o,c,ps,rfl,hj,hps,h⟩
 refine ⟨_,_,_,_,_,_,_,_,_,_,_,_,_,B.row (aU 4 h.l),(jk (x:=x) (hg.mono (aU 4 h.l)) hb).mono ?_⟩
 rintro _ w8 ⟨rfl,g8⟩
 have h:=h.gr g8
 refine ⟨_,rfl,ae (λhlt=>?_) λhlt=>?_⟩
 ·have hlt:j < g.T + g.N:=by have:=Wr hlt; omega
  refine ⟨_,_,_,B.c0 (aU 4 h.l),?_⟩
  rw [<- tl]
  refine ⟨⟨by omega,rfl,by omega⟩,?_⟩
  rw [WQ,de,CC]
  refine ah h λk31 w9 h=>⟨_,_,_,B.c0 (aU 5 h.l),?_⟩
  have fin:∀ {w' : YC} {o' : YB} {c' : Nat},St w' [aK k20 (FC x k4 g.N o' (j + 1) c'),own 1 o' (j + 1) c' (ps.map (HX g.T) ++ [HX g.T k31]),aK k31 (bv (jo g.T j)),aK k4 (bv nn),aG (gA ps (kg g.T j)),has H]->ax ((j:Int) + 1)/\(∃ (j' : Nat) (o:YB) (c:Nat) (ps:List Nat),(j:Int) + 1 = j'/\j'<=g.T + g.N/\ps.length = j'/\St w' [aK k20 (FC x k4 g.N o j' c),aK k4 (bv nn),own 1 o j' c (ps.map (HX g.T)),aG (gA ps (kg g.T j')),has H])/\g.T + g.N - ((j:Int) + 1).toNat < g.T + g.N - (j:Int).toNat:=λ{w' o' c'} h=>by
   refine ⟨⟨by omega,by omega⟩,⟨j + 1,o',c',ps ++ [k31],by simp,by omega,by simp [hps],?_⟩,bx hlt⟩
   have h:=St.snoc (A:=aK k31 (bv (jo g.T j))) (M:=gA ps (kg g.T j)) (h.pick 6 [2,4,0,1,3,5])
   have lSv:(gA ps (kg g.T j) ++ [aK k31 (bv (jo g.T j))]) = gA (ps ++ [k31]) (kg g.T (j + 1)):=by
    rw [JW]; unfold gA; rw [List.zipWith_append (by rw [Ew]; exact hps)]; rfl
   have e1:ps.map (HX g.T) ++ [HX g.T k31] = (ps ++ [k31]).map (HX g.T):=by simp
   rw [lSv,e1] at h
   exact h.pick 5 [1,3,2,0,4]
  refine ae (λhT=>?_) λhT=>?_
  ·have hT:j < g.T:=by have:=Wr hT; omega
   refine aw rfl hT ?_
   rw [aL]
   refine bj h (by rw [mM]; simpa using hT) λw10 h=>?_
   rw [F4] at h
   have ei:(List.replicate g.T false).set j true = jo g.T j:=by unfold jo; rw [WJ hT]
   rw [ei] at h
   have r20:av (hp w10) ⟨k20,0,none⟩ (FC x k4 g.N o j c):=ai 1 h.l
   refine ⟨_,_,_,r20.cell (sub.refl _) (j:=6) rfl,ah h λk36 w11 h=>?_⟩
   refine (aN aQ (rfl:aj Ty _ = .slice _) (rfl:aj Ty _ = .slice _) rfl rfl rfl (h.pick 7 [0,4,2,1,3,5,6]) rfl (by simp [aV]) (by show (j + 1) * 24<=_; omega) (by omega)).mono ?_
   rintro _ w12 ⟨o',c',rfl,h⟩
   refine ⟨_,_,_,rfl,?_⟩
   rw [aL]
   refine bj (h.pick 7 [2,0,3,4,5,6]) (by simp [FC]) λw13 h=>fin h
  ·have hT:¬ j < g.T:=by have:=Ws hT; omega
   have ei:List.replicate g.T false = jo g.T j:=by unfold jo; rw [WB hT]
   rw [ei] at h
   have r20:av (hp w9) ⟨k20,0,none⟩ (FC x k4 g.N o j c):=ai 1 h.l
   refine ⟨_,_,_,r20.cell (sub.refl _) (j:=6) rfl,ah h λk36 w11 h=>?_⟩
   refine (aN aQ (rfl:aj Ty _ = .slice _) (rfl:aj Ty _ = .slice _) rfl rfl rfl (h.pick 7 [0,4,2,1,3,5,6]) rfl (by simp [aV]) (by show (j + 1) * 24<=_; omega) (by omega)).mono ?_
   rintro _ w12 ⟨o',c',rfl,h⟩
   refine ⟨_,_,_,rfl,?_⟩
   rw [aL]
   refine bj (h.pick 7 [2,0,3,4,5,6]) (by simp [FC]) λw13 h=>fin h
 have hlt:j = g.T + g.N:=by have:=Ws hlt; omega
 subst hlt
 obtain ⟨N0,hN0⟩:=A3 (ri g.T nn)
 obtain ⟨Q,hQ⟩:=A3 (λ(b:Bool) (w:YC) (m:Nat)=>∃ (vs:List (List Bool)),DD g N0 vs/\m = l_ N0 vs + (if b then 1 else 0)/\(b = false->∀ p∈g.prods,Rv N0 vs p)/\St w [aK k20 (FC x k4 g.N o (g.T + g.N) c),aK k4 (bv nn),own 1 o (g.T + g.N) c (ps.map (HX g.T)),aG (gA ps vs),has H])
 obtain ⟨μ,mu1,mu2⟩:=Cz (λ(y:Bool × YC) m=>Q y.1 y.2 m)
 refine ⟨λb w'=>∃ m,Q b w' m,λb w=>μ (b,w),⟨l_ N0 (kg g.T (g.T + g.N)) + 1,?_⟩,?_⟩
 ·rw [hQ]
  exact ⟨_,hN0 ▸ OV iG hnn,by simp,λh=>absurd h (by decide),h⟩
 clear h
 intro _ b3 w17 hP
 have hP:=mu2 (b3,w17) hP
 dsimp only at hP
 generalize hμ : μ (b3,w17) = μ0 at *
 rw [hQ] at hP
 obtain ⟨vs0,mk0,hmu,hcl,h⟩:=hP
 refine ae (λhb1=>?_) λhb1=>?_
 rotate_left
 ·refine ⟨k20,k4,o,c,nn,ps,vs0,rfl,hnn,hN0 ▸ mk0.all iG (hcl hb1),by rw [hps,mk0.lv],?_⟩
  exact St.on (N:=[_,_,_,_]) h (bC gs)
 subst hb1
 rw [WJ rfl] at hmu
 refine ⟨λb n w'=>∃ (j:Nat) (vs:List (List Bool)),n = j/\j<=g.prods.length/\l_ N0 vs + (if b then 1 else 0)<=l_ N0 vs0/\DD g N0 vs/\(b = false->∀ p∈g.prods.take j,Rv N0 vs p)/\St w' [aK k20 (FC x k4 g.N o (g.T + g.N) c),aK k4 (bv nn),own 1 o (g.T + g.N) c (ps.map (HX g.T)),aG (gA ps vs),has H],λ_ n _=>g.prods.length - n.toNat,⟨0,vs0,rfl,by omega,by simp,mk0,by simp,h⟩,?_⟩
 clear h
 rintro _ b2 n6 w18 ⟨j,vs,rfl,hj,hm4,mk,hcl4,h⟩
 refine ⟨_,_,_,B.c4 (aU 4 h.l),ae (λhlt=>?_) λhlt=>?_⟩
 rotate_left
 ·have hlt:j = g.prods.length:=by have:=Ws hlt; omega
  subst hlt
  rw [WT] at hcl4
  have key:Q b2 w18 (l_ N0 vs + (if b2 then 1 else 0)):=by
   rw [hQ]; exact ⟨vs,mk,rfl,hcl4,h⟩
  refine ⟨⟨_,key⟩,?_⟩
  have:=mu1 (b2,w18) _ key
  dsimp only
  rw [hμ]
  omega
 have hlt:j < g.prods.length:=by have:=Wr hlt; omega
 obtain ⟨p,ad,pvs,hp1,hpa,hp2,ra,rl,rc,rfl,hrc,hp3⟩:=hg.p.get (i:=j) (by omega)
 have hpm:=Wu hp1
 obtain ⟨hpl,hpr⟩:=iG p hpm
 have rl1:=hp3.1
 have b7':=hb.2.2.2.2.2.2 p hpm
 have et:g.prods.take (j + 1) = g.prods.take j ++ [p]:=by rw [Wz,hp1]; rfl
 obtain ⟨k,hk⟩ : ∃ k:Nat,p.left = k:=⟨p.left.toNat,by omega⟩
 have hkt:p.left.toNat = k:=by omega
 have hkN:k < g.T + g.N:=by omega
 obtain ⟨px,hpx⟩ : ∃ px,ps[k]? = some px:=⟨ps[k]'(by omega),Wv _⟩
 obtain ⟨v,hv⟩ : ∃ v,vs[k]? = some v:=⟨vs[k]'(by rw [mk.lv]; exact hkN),Wv _⟩
 have hvd:vs.getD k [] = v:=by rw [Ww,hv]; rfl
 intro w19 hd
 have h:=h.drawn hd
 have ro:∃ ad,o = some ad/\av (hp w19) ad (ps.map (HX g.T)):=by
  rcases Lc 2 h.l with e | ⟨ad,e,hc⟩
  ·have:=congrArg List.length e
   rw [WE,Xk] at this; omega
  ·exact ⟨ad,e,hc⟩
 obtain ⟨ado,hado,rop⟩:=ro
 have r20:av (hp w19) ⟨k20,0,none⟩ (FC x k4 g.N o (g.T + g.N) c):=ai 0 h.l
 have rH:sub H (hp w19):=aU 4 h.l
 have gS:(gA ps vs)[k]? = some (aK px (bv v)):=by unfold gA; rw [XZ,hpx,hv]
 have EW:∀ v',(gA ps vs).set k (aK px (bv v')) = gA ps (vs.set k v'):=λv'=>KQ (λp v=>aK p (bv v)) hpx
 refine ⟨λw=>av (hp w) ⟨k20,0,none⟩ (FC x k4 g.N o (g.T + g.N) c)/\av (hp w) ado (ps.map (HX g.T))/\sub H (hp w),⟨r20,rop,rH⟩,_,_,_,λw s=>B.c4 s.2.2,aq hpa (by omega) ⟨_,_,_,λw s=>hp2.cell s.2.2 (j:=1) rfl,_,_,_,λw s=>s.1.cell (sub.refl _) (j:=6) rfl,_,_,_,λw s=>B.c4 s.2.2,aq hpa (by omega) ⟨_,λw s=>hp2.cell0 s.2.2,?_⟩⟩⟩
 rw [hk]
 refine aw hado hkN ⟨_,_,_,λw s=>s.2.1.cell (sub.refl _) (j:=k) (by rw [Wx,hpx]; rfl),?_⟩
 have h:=St.out (h.pick 5 [3,0,1,2,4]) gS
 refine (SC (T:=g.T) (x:=x) (ks:=k20) (nn:=nn) (vs:=vs) (ps:=ps) (row:=p.right) (an:=some ⟨k4,0,none⟩) (nl:=g.N) (cn:=g.N) (ao:=o) (ol:=g.T + g.N) (co:=c) tl h (λh hh=>ai 1 hh) (λh hh=>kU hnn.1 (.inr ⟨_,rfl,ai 2 hh⟩)) (λh hh=>?_) hps mk.lv rfl mk.le (mk.le v (Wu hv)) (λh hh i q v' hi hv'=>?_) (λh hh=>hp3.mono (aU 4 hh)) (λs hs=>⟨(hpr s hs).1,by have:=(hpr s hs).2; omega⟩) (by omega) (by omega)).mono ?_
 ·rcases Lc 3 hh with e | ⟨ad,e,hc⟩
  ·have:=congrArg List.length e
   rw [WE,Xk] at this; omega
  ·exact ⟨ad,e,hc⟩
 ·by_cases ek:i = k
  ·subst ek
   rw [hpx] at hi; cases hi
   rw [hv] at hv'; cases hv'
   exact .inr ⟨rfl,rfl⟩
  ·exact .inl (VL 0 hh hi hv' ek)
 rintro _ w26 ⟨rfl,h⟩
 rw [<- hN0] at h ⊢
 have mk':=mk.lay iG hpm
 rw [hkt,hvd] at mk'
 have hv'l:(ee N0 vs v p.right).length = v.length:=tq _ _ _ _
 have hcv:=za N0 vs p.right v
 have hms:=HT (nl:=N0) hv hv'l hcv
 have hsb:=pI N0 vs p.right v
 have h:=St.back h gS
 rw [EW] at h
 refine ⟨_,rfl,⟨ai 1 h.l,?_,aU 4 h.l⟩,?_⟩
 ·rcases Lc 3 h.l with e | ⟨ad,e,hc⟩
  ·have:=congrArg List.length e
   rw [WE,Xk] at this; omega
  ·rw [hado] at e; cases e; exact hc
 have nx:∀ {b' : Bool},(b' = true↔b2 = true\/ee N0 vs v p.right≠v)->ax ((j:Int) + 1)/\(∃ (j' : Nat) (vs:List (List Bool)),(j:Int) + 1 = j'/\j'<=g.prods.length/\l_ N0 vs + (if b' then 1 else 0)<=l_ N0 vs0/\DD g N0 vs/\(b' = false->∀ p∈g.prods.take j',Rv N0 vs p)/\St w26 [aK k20 (FC x k4 g.N o (g.T + g.N) c),aK k4 (bv nn),own 1 o (g.T + g.N) c (ps.map (HX g.T)),aG (gA ps vs),has H])/\g.prods.length - ((j:Int) + 1).toNat < g.prods.length - (j:Int).toNat:=λ{b'} hb'=>by
  refine ⟨⟨by omega,by omega⟩,⟨j + 1,vs.set k (ee N0 vs v p.right),by simp,by omega,?_,mk',λhf q hq=>?_,h.pick 5 [1,2,3,0,4]⟩,bx hlt⟩
  ·by_cases h0:ee N0 vs v p.right = v
   ·rw [h0,Ex hv]
    have:b' = b2:=by rw [Xh,hb']; simp [h0]
    rw [this]; exact hm4
   ·have hlt' : aY v < aY (ee N0 vs v p.right):=Nat.lt_of_le_of_ne hcv λe=>h0 (CA hv'l hsb e.symm)
    have:=fy (ee N0 vs v p.right)
    split at hm4 <;> split <;> omega
  ·have h0:ee N0 vs v p.right = v:=Xv λhn=>by
    have:=hb'.2 (.inr hn)
    rw [hf] at this; cases this
   have hb2:b2 = false:=by
    cases hbb:b2
    ·rfl
    ·have:=hb'.2 (.inl hbb)
     rw [hf] at this; cases this
   rw [h0,Ex hv]
   rw [et] at hq
   rcases Wy.1 hq with hq | hq
   ·exact hcl4 hb2 q hq
   ·simp at hq; subst hq
    refine ⟨hN0 ▸ hnn.uN iG hpm,?_⟩
    rw [hkt,hvd]; exact h0
 exact ae (λhb=>nx (by simp [hb])) λhb=>nx (by simp [hb])
end
end Go.Proofs.YtndaepmjkbmjmaaGreatDoor
namespace Go.V
structure JX (h:Hp) (g:af) (x:GA) (b k4:Nat) (o:YB) (c:Nat) (nn:List Bool) (ps:List Nat) (vs:List (List Bool)):Prop where
 f:av h ⟨b,0,none⟩ (FC x k4 g.N o (g.T + g.N) c)
 n:av h ⟨k4,0,none⟩ (bv nn)
 p:∃ ad,o = some ad/\av h ad (ps.map (HX g.T))
 v:∀ (i:Nat) p v,ps[i]? = some p->vs[i]? = some v->av h ⟨p,0,none⟩ (bv v)
theorem JX.mono {h h' : Hp} {g:af} {x:GA} {b k4:Nat} {o:YB} {c:Nat} {nn:List Bool} {ps:List Nat} {vs:List (List Bool)} (s:sub h h') (t:JX h g x b k4 o c nn ps vs):JX h' g x b k4 o c nn ps vs :=
 ⟨t.f.mono s,t.n.mono s,by obtain ⟨ad,e,r⟩:=t.p; exact ⟨ad,e,r.mono s⟩,λi p v h1 h2=>(t.v i p v h1 h2).mono s⟩
theorem Rz {L:List ay} {h:Hp} {g:af} {x:GA} {b k4:Nat} {o:YB} {c:Nat} {nn:List Bool} {ps:List Nat} {vs:List (List Bool)} (hl:ps.length = g.T + g.N) (hN:0 < g.N) (hs:aC (aK b (FC x k4 g.N o (g.T + g.N) c) :: aK k4 (bv nn) :: own 1 o (g.T + g.N) c (ps.map (HX g.T)) :: aG (gA ps vs) :: L) h):JX h g x b k4 o c nn ps vs:=by
 refine ⟨ai 0 hs,ai 1 hs,?_,λi p v hp hv=>VK 3 hs hp hv⟩
 rcases Lc (sz:=1) (l:=g.T + g.N) (c:=c) 2 hs with e | ⟨ad,e,hc⟩
 ·have:=congrArg List.length e
  rw [WE,Xk] at this; omega
 ·exact ⟨ad,e,hc⟩
end Go.V
namespace Go.Proofs.YtndaepmjkbmjmaaGreatDoor
section
variable {w:YC} {L:List ay} {g:af} {x:GA} {b k4:Nat} {o a:YB} {c l cl:Nat} {nn:List Bool} {ps:List Nat} {vs:List (List Bool)} {row:List Int}
theorem VM (hg:gR (hp w) g x) (he:gI g) (t:JX (hp w) g x b k4 o c nn ps vs) (hn:jb g nn) (al:JO g (ri g.T nn) vs) (hps:ps.length = vs.length) (hr:a_ (hp w) row a l) (hs:VJ g row) (hb:l<=4611686018427387904):aA Tryz.prog oe [.pointer (some ⟨b,0,none⟩),.slice a l cl] w λv w'=>∃ (k3:Nat) (bs:List Bool) (r:Bool),v = .tuple #[.slice (some ⟨k3,0,none⟩) g.T g.T,.bool r]/\We g row bs/\(r = true↔DC g row)/\St w' (aK k3 (bv bs) :: all w):=by
 refine l5 ?_
 obtain ⟨iG,bT,bN,pN,pT,bP⟩:=Rx he
 have tl:g.T = x.tl:=hg.t.1
 have h0:=St.all w
 unfold V.all at h0
 have hlv:=al.lv
 refine ⟨_,_,_,t.f.cell0 (sub.refl _),?_⟩
 rw [<- tl]
 refine ⟨⟨by omega,rfl,by omega⟩,?_⟩
 rw [WQ,de,CC]
 refine ah h0 λk3 w1 h=>?_
 have H1:∀ {h:Hp},aC [has (hp w)] h->sub (hp w) h:=λhh=>aU 0 hh
 refine (SC (T:=g.T) (x:=x) (ks:=b) (nn:=nn) (vs:=vs) (ps:=ps) (row:=row) (an:=some ⟨k4,0,none⟩) (nl:=g.N) (cn:=g.N) (ao:=o) (ol:=g.T + g.N) (co:=c) tl h (λh hh=>t.f.mono (H1 hh)) (λh hh=>kU hn.1 (.inr ⟨_,rfl,t.n.mono (H1 hh)⟩)) (λh hh=>(t.mono (H1 hh)).p) (by omega) hlv rfl al.le (by simp) (λh hh i q v' hi hv'=>.inl ((t.mono (H1 hh)).v i q v' hi hv')) (λh hh=>hr.mono (H1 hh)) (λs hs'=>⟨(hs s hs').1,by have:=(hs s hs').2; omega⟩) hb (by omega)).mono ?_
 rintro _ w2 ⟨rfl,h⟩
 refine ⟨_,rfl,λw3 hd=>?_⟩
 have h:=h.drawn hd
 have s3:sub (hp w) (hp w3):=aU 1 h.l
 have t3:=t.mono s3
 have rg:av (hp w3) ⟨b,0,none⟩ x.cells:=av.take (vs:=[.slice (some ⟨k4,0,none⟩) g.N g.N,.slice o (g.T + g.N) c]) t3.f
 have rn:a_ (hp w3) nn (some ⟨k4,0,none⟩) g.N:=kU hn.1 (.inr ⟨_,rfl,t3.n⟩)
 refine ⟨λw=>sub (hp w3) (hp w),sub.refl _,_,_,_,_,_,_,_,_,_,_,_,_,_,λw s=>rg.at s rfl,_,_,_,λw s=>t3.f.cell s (j:=5) rfl,(CD (x:=x) (hg.mono s3) rn hn.1 (hr.mono s3) hs hb bT bN).mono ?_⟩
 rintro _ w6 ⟨⟨r,rfl,hr'⟩,g6⟩
 obtain ⟨a1,a2⟩:=al.row hs
 refine ⟨_,rfl,g6,k3,_,r,rfl,⟨by rw [tq]; simp,λt=>?_⟩,by rw [hr',hn.VH iG],h.gr g6⟩
 rw [a2,kA]
 simp only [Yp,X0,false_or]
 refine ⟨λh=>h.2,λh=>⟨?_,h⟩⟩
 obtain ⟨_,_,_,_,h⟩:=h
 exact h.lt
end
end Go.Proofs.YtndaepmjkbmjmaaGreatDoor
namespace Go.V
def TK (g:af) (e:Int) (nn:List Bool):Prop:=(¬ gI g/\e = 1/\nn = [])\/(gI g/\e = 0/\jb g nn)
end Go.V
namespace Go.Proofs.YtndaepmjkbmjmaaGreatDoor
section
variable {w:YC} {L:List ay} {g:af} {x:GA} {a a2:YB} {l l2 c c2:Nat} {bs:List Bool} {row:List Int}
theorem HY (hg:gR (hp w) g x) (hb:ik g) (ht:eF (hp w)):aA Tryz.prog ou [.agg ⟨x.cells⟩] w λv w'=>∃ (o:YB) (n c:Nat) (e:Int) (nn:List Bool),v = .tuple #[.slice o n c,.int .i64 e]/\nn.length = n/\TK g e nn/\St w' (own 1 o n c (bv nn) :: all w):=by
 refine (JR hg hb ht).mono ?_
 rintro _ w' (⟨h1,rfl,h2⟩ | ⟨h1,k,nl,nn,h2,h3,rfl,h4⟩)
 ·exact ⟨_,_,_,_,[],rfl,rfl,.inl ⟨h1,rfl,rfl⟩,az 1 (bC h2)⟩
 ·refine ⟨_,_,_,_,nn,rfl,h3.1,.inr ⟨h1,rfl,h3⟩,?_⟩
  have e:bv (nl ++ nn) = bv nl ++ (bv nn ++ ([] ++ [])):=by simp [bv]
  rw [e] at h4
  have:=fw (pre:=bv nl) (vs:=bv nn) (cs:=[]) (post:=[]) (l:=g.N) (c:=g.N) (sz:=1) h4 (by rw [mM,h3.1,XR]) (by rw [W2,mM,h3.1,XR]) (WO _)
  rw [mM,h2] at this
  exact this
end
end Go.Proofs.YtndaepmjkbmjmaaGreatDoor
