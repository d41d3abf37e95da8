/- Texts of this claim, one behind the other. -/
import Derived.Test.YtndaepmjkbmjmaaGreatDoorG3
import Derived.Test.YtndaepmjkbmjmaaGreatDoorG1
import Derived.Test.YtndaepmjkbmjmaaGreatDoorG2
set_option linter.unusedVariables false
set_option linter.unusedSectionVars false
set_option maxRecDepth 100000
set_option maxHeartbeats 16000000
namespace Go.V
end Go.V
namespace Go.Proofs.YtndaepmjkbmjmaaGreatDoor
end Go.Proofs.YtndaepmjkbmjmaaGreatDoor
open Go.V Go.Proofs.YtndaepmjkbmjmaaGreatDoor
namespace Go.V
section
variable {g:ae} {ss:List SQ}
theorem KQ {h:Hp} {xs:List ai} {a:Wr} {l:Nat} (r:aX h xs a l) {i:Nat} (hi:i < l):∃ x ad,xs[i]? = some x/\a = some ad/\av h (ad.add (cR i 2)) (cV x):=by
 obtain ⟨x,ad,vs,hx,ha,hr,e⟩:=r.get hi
 rw [show vs = cV x from e] at hr
 exact ⟨x,ad,hx,ha,hr⟩
end
end Go.V
namespace Go.Proofs.YtndaepmjkbmjmaaGreatDoor
abbrev nD:FuncId:=164
def ua:bh:={ rngs:=[],loops:=[],joins:=[],blocks:=[] }
theorem ub {a:Wr} {b c:Nat} {d:Wr} {e f:Nat} {g:Wr} {i j:Nat} {k:Int} {l:Wr} {m n:Nat} {w:Ws} {R:Value->WP} (h:new w (oC [vS a b c,vS d e f,vS g i j,iI k,vS l m n] 27) λk1 w1=>∃ o1 k2 k3 o2 k4 k5 o3 k6 k7 n1 o4 k8 k9,rA w1 (aM k1) 5 [vS o1 k2 k3,vS o2 k4 k5,vS o3 k6 k7,iI n1,vS o4 k8 k9]/\rE 215 [vG [vS o1 k2 k3,vS o2 k4 k5,vS o3 k6 k7,iI n1,vS o4 k8 k9]] w1 λv1 w2=>∃ b1,v1 = vB b1/\br (!b1) (R (vU [vS none 0 0,iI 1]) w2) (∀ w3,drawn w2 w3->∃ (I1:WP),I1 w3/\∃ o5 k10 k11 o6 k12 k13 o7 k14 k15 n2 o8 k16 k17,(∀ w4,I1 w4->rA w4 (aM k1) 5 [vS o5 k10 k11,vS o6 k12 k13,vS o7 k14 k15,iI n2,vS o8 k16 k17])/\∃ o9 k18 k19,(∀ w5,I1 w5->cL w5 (aM k1) (vS o9 k18 k19))/\rE 216 [vG [vS o5 k10 k11,vS o6 k12 k13,vS o7 k14 k15,iI n2,vS o8 k16 k17]] w3 λv2 w6=>∃ o10,v2 = vP o10/\∃ (I2:WP),I2 w6/\(∀ w7,I2 w7->I1 w7)/\nn o10 λa1=>∃ o11 k20 k21,(∀ w8,I2 w8->cL w8 (Addr.add a1 5) (vS o11 k20 k21))/\lV o11 k20 k21 (some (k18:Int)) none none 1 λ(o12:Wr) (k22 k23:Nat)=>R (vU [vS o12 k22 k23,iI 0]) w6)):ay Tryz.prog 164 [(.agg #[(.slice a b c),(.slice d e f),(.slice g i j),(.int .i64 k),(.slice l m n)])] w R:=rv Tryz.func164 ua (by kernel_rfl) h
abbrev Au:FuncId:=215
def wZ:bh:={ rngs:=[],loops:=[],joins:=[],blocks:=[] }
theorem w_ {a:Wr} {b c:Nat} {d:Wr} {e f:Nat} {g:Wr} {i j:Nat} {k:Int} {l:Wr} {m n:Nat} {w:Ws} {R:Value->WP} (h:new w (oC [vS a b c,vS d e f,vS g i j,iI k,vS l m n] 27) λk1 w1=>∃ o1 k2 k3 o2 k4 k5 o3 k6 k7 n1 o4 k8 k9,rA w1 (aM k1) 5 [vS o1 k2 k3,vS o2 k4 k5,vS o3 k6 k7,iI n1,vS o4 k8 k9]/\rE 247 [vG [vS o1 k2 k3,vS o2 k4 k5,vS o3 k6 k7,iI n1,vS o4 k8 k9]] w1 λv1 w2=>∃ b1,v1 = vB b1/\br b1 (R (vB true) w2) (∃ o5 k10 k11 o6 k12 k13 o7 k14 k15 n2 o8 k16 k17,rA w2 (aM k1) 5 [vS o5 k10 k11,vS o6 k12 k13,vS o7 k14 k15,iI n2,vS o8 k16 k17]/\rE 49 [vG [vS o5 k10 k11,vS o6 k12 k13,vS o7 k14 k15,iI n2,vS o8 k16 k17]] w2 λv2 w3=>∃ b2,v2 = vB b2/\R (vB b2) w3)):ay Tryz.prog 215 [(.agg #[(.slice a b c),(.slice d e f),(.slice g i j),(.int .i64 k),(.slice l m n)])] w R:=rv Tryz.func215 wZ (by kernel_rfl) h
abbrev HU:FuncId:=216
def D_:bh:={ rngs:=[],loops:=[(4,[(24,(.one (.int .i64)))]),(9,[(6,(.one (.int .i64)))]),(12,[(6,(.one (.int .i64))),(48,(.one (.int .i64)))])],joins:=[],blocks:=[] }
theorem Ea {a:Wr} {b c:Nat} {d:Wr} {e f:Nat} {g:Wr} {i j:Nat} {k:Int} {l:Wr} {m n:Nat} {w:Ws} {R:Value->WP} (h:new w (oC [vS a b c,vS d e f,vS g i j,iI k,vS l m n] 27) λk1 w1=>∃ o1 k2 k3,cL w1 (aM k1) (vS o1 k2 k3)/\∃ o2 k4 k5,cL w1 (Addr.add (aM k1) 1) (vS o2 k4 k5)/\aw ((k2:Int) + (k4:Int))/\∀ w2,drawn w1 w2->∃ (I1:WP),I1 w2/\∃ o3 k6 k7 o4 k8 k9 o5 k10 k11 n1 o6 k12 k13,(∀ w3,I1 w3->rA w3 (aM k1) 5 [vS o3 k6 k7,vS o4 k8 k9,vS o5 k10 k11,iI n1,vS o6 k12 k13])/\Dc ((k2:Int) + (k4:Int)) ((k2:Int) + (k4:Int)) 1/\new w2 (Obj.cells (Array.mk (lD (Int.toNat ((k2:Int) + (k4:Int))) [vB false])) 4) λk14 w4=>I1 w4/\new w4 (oC [vS o3 k6 k7,vS o4 k8 k9,vS o5 k10 k11,iI n1,vS o6 k12 k13,vS (some (aM k14)) (Int.toNat ((k2:Int) + (k4:Int))) (Int.toNat ((k2:Int) + (k4:Int))),vS none 0 0] 291) λk15 w5=>I1 w5/\∃ (x1:lP [(24,aD)]),∃ (x2:lN [(24,aD)]),x1 0 w5/\∀ (I2:Nat->Value) (n2:Int) (w6:Ws),x1 n2 w6->br (decide (n2 < (k2:Int) + (k4:Int))) (∀ w7,drawn w6 w7->∃ (I3:WP),I3 w7/\∃ o7 k16 k17,(∀ w8,I3 w8->cL w8 (Addr.add (aM k15) 6) (vS o7 k16 k17))/\∃ o8 k18 k19,(∀ w9,I3 w9->cL w9 (aM k1) (vS o8 k18 k19))/\new w7 (oC [iI n2] 3) λk20 w10=>I3 w10/\rE 59 [iI (k18:Int),vS (some (aM k20)) 1 1] w10 λv1 w11=>∃ o9,v1 = vP o9/\I3 w11/\new w11 (oC [vP o9] 118) λk21 w12=>I3 w12/\rS (jT 286 (Array.mk [vS o7 k16 k17,vS (some (aM k21)) 1 1])) w12 λv2 w13=>∃ o10 k22 k23,v2 = vS o10 k22 k23/\I3 w13/\st1 w13 (Addr.add (aM k15) 6) (vS o10 k22 k23) λw14=>aw (n2 + 1)/\x1 (n2 + 1) w14/\x2 (n2 + 1) w14 < x2 n2 w6) (∃ (x3:lP [(6,aD)]),∃ (x4:lN [(6,aD)]),x3 1 w6/\∀ (I4:Nat->Value) (n3:Int) (w15:Ws),x3 n3 w15->br (decide (0 < n3)) (∃ o11 k24 k25,cL w15 (Addr.add (aM k1) 4) (vS o11 k24 k25)/\∃ (x5:lP [(6,aD),(48,aD)]),∃ (x6:lN [(6,aD),(48,aD)]),x5 0 0 w15/\∀ (I5:Nat->Value) (n4 n5:Int) (w16:Ws),x5 n4 n5 w16->br (decide (n5 < (k24:Int))) (idx o11 k24 n5 3 λa1=>∃ n6 o12 k26 k27 n7,rA w16 a1 3 [iI n6,vS o12 k26 k27,iI n7]/\new w16 (oC [iI 0,vS none 0 0,iI 0] 81) λk28 w17=>cG w17 (aM k28) [iI n6,vS o12 k26 k27,iI n7] λw18=>∀ w19,drawn w18 w19->∃ (I6:WP),I6 w19/\∃ o13 k29 k30,(∀ w20,I6 w20->cL w20 (Addr.add (aM k15) 6) (vS o13 k29 k30))/\∃ n8,(∀ w21,I6 w21->cL w21 (aM k28) (iI n8))/\idx o13 k29 n8 1 λa2=>∃ o14,(∀ w22,I6 w22->cL w22 a2 (vP o14))/\∃ o15 k31 k32,(∀ w23,I6 w23->cL w23 (Addr.add (aM k28) 1) (vS o15 k31 k32))/\rE 248 [vP (some (aM k15)),vP o14,vS o15 k31 k32] w19 λv3 w24=>∃ n9 b1,v3 = vU [iI n9,vB b1]/\I6 w24/\aw (n4 + n9)/\∀ w25,drawn w24 w25->∃ (I7:WP),I7 w25/\br b1 (∃ o16 k33 k34,(∀ w26,I7 w26->cL w26 (Addr.add (aM k15) 5) (vS o16 k33 k34))/\∃ n10,(∀ w27,I7 w27->cL w27 (aM k28) (iI n10))/\idx o16 k33 n10 1 λa3=>∃ b2,(∀ w28,I7 w28->cL w28 a3 (vB b2))/\br (!b2) (∀ w29,drawn w25 w29->∃ (I8:WP),I8 w29/\∃ o17 k35 k36,(∀ w30,I8 w30->cL w30 (Addr.add (aM k15) 5) (vS o17 k35 k36))/\∃ n11,(∀ w31,I8 w31->cL w31 (aM k28) (iI n11))/\idx o17 k35 n11 1 λa4=>st1 w29 a4 (vB true) λw32=>aw (n4 + n9 + 1)/\aw (n5 + 1)/\x5 (n4 + n9 + 1) (n5 + 1) w32/\x6 (n4 + n9 + 1) (n5 + 1) w32 < x6 n4 n5 w16) (aw (n5 + 1)/\x5 (n4 + n9) (n5 + 1) w25/\x6 (n4 + n9) (n5 + 1) w25 < x6 n4 n5 w16)) (aw (n5 + 1)/\x5 (n4 + n9) (n5 + 1) w25/\x6 (n4 + n9) (n5 + 1) w25 < x6 n4 n5 w16)) (x3 n4 w16/\x4 n4 w16 < x4 n3 w15)) (R (vP (some (aM k15))) w15))):ay Tryz.prog 216 [(.agg #[(.slice a b c),(.slice d e f),(.slice g i j),(.int .i64 k),(.slice l m n)])] w R:=rv Tryz.func216 D_ (by kernel_rfl) h
abbrev xa:FuncId:=248
def uc:bh:={ rngs:=[],loops:=[(3,[(8,(.one (.int .i64))),(13,(.one (.int .i64)))])],joins:=[],blocks:=[] }
theorem ud {a b c:Wr} {d e:Nat} {w:Ws} {R:Value->WP} (h:∃ (x1:lP [(8,aD),(13,aD)]),∃ (x2:lN [(8,aD),(13,aD)]),x1 0 0 w/\∀ (I1:Nat->Value) (n1 n2:Int) (w1:Ws),x1 n1 n2 w1->br (decide (n2 < (d:Int))) (idx c d n2 1 λa1=>∃ n3,cL w1 a1 (iI n3)/\nn a λa2=>∃ o1 k1 k2,cL w1 (Addr.add a2 6) (vS o1 k1 k2)/\idx o1 k1 n3 1 λa3=>∃ o2,cL w1 a3 (vP o2)/\new w1 (oC [vP o2] 118) λk3 w2=>rE 213 [vP b,vS (some (aM k3)) 1 1] w2 λv1 w3=>∃ n4,v1 = iI n4/\aw (n1 + n4)/\nn a λa4=>∃ o3 k4 k5,cL w3 (Addr.add a4 5) (vS o3 k4 k5)/\idx o3 k4 n3 1 λa5=>∃ b1,cL w3 a5 (vB b1)/\br (!b1) (R (vU [iI (n1 + n4),vB false]) w3) (aw (n2 + 1)/\x1 (n1 + n4) (n2 + 1) w3/\x2 (n1 + n4) (n2 + 1) w3 < x2 n1 n2 w1)) (R (vU [iI n1,vB true]) w1)):ay Tryz.prog 248 [(.pointer a),(.pointer b),(.slice c d e)] w R:=rv Tryz.func248 uc (by kernel_rfl) h
end Go.Proofs.YtndaepmjkbmjmaaGreatDoor
namespace Go.V
def kX (nl:List Bool) (vs:List (List Bool)):List Bool->List Int->List Bool
 | bs,[]=>bs
 | bs,s :: r=>if cj nl s.toNat then kX nl vs (dm bs (fG (vs.getD s.toNat []))) r else dm bs (fG (vs.getD s.toNat []))
def yM (nl:List Bool) (row:List Int):Bool:=row.all λs=>cj nl s.toNat
theorem F2 (nl:List Bool) (vs:List (List Bool)) (bs:List Bool):kX nl vs bs [] = bs:=rfl
theorem CB (nl:List Bool) (vs:List (List Bool)) (bs:List Bool) (s:Int) (r:List Int):kX nl vs bs (s :: r) = if cj nl s.toNat then kX nl vs (dm bs (fG (vs.getD s.toNat []))) r else dm bs (fG (vs.getD s.toNat [])):=rfl
theorem Av (nl:List Bool) (vs:List (List Bool)):∀ (row:List Int) (bs:List Bool),(kX nl vs bs row).length = bs.length
 | [],bs=>rfl
 | s :: r,bs=>by
  unfold kX
  split
  ·rw [Av nl vs r,bF]
  ·rw [bF]
theorem vz (nl:List Bool) (vs:List (List Bool)):∀ (row:List Int) (bs:List Bool) (k:Nat),cj bs k = true->cj (kX nl vs bs row) k = true
 | [],bs,k,h=>h
 | s :: r,bs,k,h=>by
  unfold kX
  have:cj (dm bs (fG (vs.getD s.toNat []))) k = true:=by rw [fa,h]; rfl
  split
  ·exact vz nl vs r _ k this
  ·exact this
theorem CC (nl:List Bool) (vs:List (List Bool)):∀ (row:List Int) (bs:List Bool),bn bs<=bn (kX nl vs bs row)
 | [],bs=>US _
 | s :: r,bs=>by
  unfold kX
  split
  ·exact U7 (nk _ _) (CC nl vs r _)
  ·exact nk _ _
end Go.V
namespace Go.Proofs.YtndaepmjkbmjmaaGreatDoor
section
variable {w:Ws} {L:List au} {a an ao:Wr} {l c nl cn ol co ks:Nat} {p:Wr} {bs nulls:List Bool} {row:List Int} {os:List (Wr)} {vss:List (List Bool)} {gs:List Value}
theorem S4 (h:St w (dY p bs :: L)) (hs:∀ h,aG L h->av h ⟨ks,0,none⟩ (gs ++ [.slice an nl cn,.slice ao ol co])) (hgs:gs.length = 5) (hn:∀ h,aG L h->aX h nulls an nl) (ho:∀ h,aG L h->aX h os ao ol) (hv:vss.length = os.length) (hno:nulls.length = os.length)
  (hq:∀ h,aG L h->∀ (i:Nat) q v,os[i]? = some q->vss[i]? = some v->nm h q v\/(q = p/\v = bs)) (ht:∀ h,aG L h->dG h)
  (hr:∀ h,aG L h->aX h row a l) (hin:∀ s∈row,0<=s/\s.toNat < os.length) (hb:l<=4611686018427387904) :
  ay Tryz.prog xa [.pointer (some ⟨ks,0,none⟩),.pointer p,.slice a l c] w λv w'=>v = .tuple #[.int .i64 ((bn (kX nulls vss bs row):Int) - bn bs),.bool (yM nulls row)]/\St w' (dY p (kX nulls vss bs row) :: L):=by
 obtain ⟨h0,hl,_,h1⟩:=h.freeze
 have hs:=hs h0 hl
 have hn:=hn h0 hl
 have ho:=ho h0 hl
 have hq:=hq h0 hl
 have ht:dG h0:=ht h0 hl
 have hr:=hr h0 hl
 have hn1:=h.nm.le
 have done:∀ w' b,St w' (dY p b :: [has h0])->St w' (dY p b :: L):=λw' b h=>h.u6 hl
 clear h hl
 have c5:∀ w',sub h0 (hp w')->w'.cell? ((⟨ks,0,none⟩ : Addr).add 5) = some (.slice an nl cn):=λw' s=>hs.cell s (j:=5) (by rw [UP (by omega),hgs]; rfl)
 have c6:∀ w',sub h0 (hp w')->w'.cell? ((⟨ks,0,none⟩ : Addr).add 6) = some (.slice ao ol co):=λw' s=>hs.cell s (j:=6) (by rw [UP (by omega),hgs]; rfl)
 refine ud ?_
 refine ⟨λn1 n2 w'=>∃ (j:Nat) (U:List Bool),n2 = j/\j<=l/\n1 = (bn U:Int) - bn bs/\bn bs<=bn U/\U.length = bs.length/\(∀ k,cj bs k = true->cj U k = true)/\kX nulls vss bs row = kX nulls vss U (row.drop j)/\yM nulls row = yM nulls (row.drop j)/\St w' [dY p U,has h0],λ_ n2 _=>l - n2.toNat,⟨0,bs,rfl,by omega,by omega,US _,rfl,λ_ h=>h,by simp,by simp,h1⟩,?_⟩
 clear h1
 rintro _ _ n2 w1 ⟨j,U,rfl,hj,rfl,hcU,hlU,hsub,e1,e2,h⟩
 have s1:sub h0 (hp w1):=(h.pick 2 [1]).has
 have k1:=jd U
 refine aa (λhlt=>?_) λhlt=>?_
 ·have hlt:j < l:=by have:=Uz hlt; omega
  obtain ⟨y,ad,hy1,hya,hy2⟩:=hr.dM hlt
  obtain ⟨y0,yl⟩:=hin y (UC hy1)
  obtain ⟨q,ad2,hq1,hqa,hq2⟩:=ho.dM (i:=y.toNat) (by have:=ho.1; omega)
  obtain ⟨v,hv1⟩ : ∃ v,vss[y.toNat]? = some v:=⟨vss[y.toNat]'(by omega),UB _⟩
  obtain ⟨z,ad3,hz1,hza,hz2⟩:=hn.dM (i:=y.toNat) (by have:=hn.1; omega)
  have hvd:vss.getD y.toNat [] = v:=by simp [List.getD,hv1]
  have hzd:cj nulls y.toNat = z:=by simp [cj,List.getD,hz1]
  have ed:row.drop j = y :: row.drop (j + 1):=by
   have:=Vk (l:=row) (i:=j) (by rw [hr.1]; exact hlt)
   rw [this]; congr 1
   have:=UA.1 hy1; exact this.2
  refine aB hya hlt ⟨y,hy2 _ s1,_,_,_,c6 _ s1,?_⟩
  have ey:y = ((y.toNat:Nat):Int):=by omega
  rw [ey]
  refine aB hqa (by have:=ho.1; omega) ⟨q,hq2 _ s1,af h λb2 w2 h2=>?_⟩
  have hq':=hq _ _ _ hq1 hv1
  obtain ⟨v',hr',he'⟩ : ∃ v',(∀ h,aG [aS b2 [.pointer q],has h0] h->nm h q v'\/(q = p/\v' = U))/\dm U (fG v') = dm U (fG v):=by
   rcases hq' with hr | ⟨rfl,rfl⟩
   ·exact ⟨v,λh hh=>.inl (hr.mono (qh (A:=has h0) (Wd _ (List.mem_singleton_self _)) hh |>.elim λh1 x=>x.2.trans x.1)),rfl⟩
   ·exact ⟨U,λh hh=>.inr ⟨rfl,rfl⟩,by rw [rj λ_ h=>h,rj hsub]⟩
  refine (I0 (vss:=[v']) (os:=[q]) (l:=1) (h2.pick 3 [1,0,2]) (λh hh=>?_) rfl (λh hh i q' w' hi hw=>?_) (λh hh=>?_) (by omega)).mono ?_
  ·obtain ⟨h1,_,_,s1,_,⟨e,he⟩,_⟩:=hh
   exact (dN (xs:=[q]) rfl (.inr ⟨_,rfl,u7 ⟨e,he⟩⟩)).mono s1
  ·match i,hi,hw with
   | 0,hi,hw=>cases hi; cases hw; exact hr' h hh
   | i + 1,hi,_=>simp at hi
  ·exact fp.mono (qh (A:=has h0) (Wd _ (List.mem_singleton_self _)) hh |>.elim λh1 x=>x.2.trans x.1) ht
  rintro _ w3 ⟨rfl,h3⟩
  have eU:cr U [v'] = dm U (fG v):=he'
  rw [eU] at h3 ⊢
  have h3:=h3.pick 3 [0,2]
  have s3:sub h0 (hp w3):=(h3.pick 2 [1]).has
  have k2:=nk U (fG v)
  have k3:=jd (dm U (fG v))
  rw [bF] at k3
  rw [ed] at e1 e2
  rw [CB,hvd,hzd] at e1
  rw [show yM nulls (y :: row.drop (j + 1)) = (z && yM nulls (row.drop (j + 1))) from by unfold yM; rw [List.all_cons,hzd]] at e2
  refine ⟨_,rfl,⟨by omega,by omega⟩,_,_,_,c5 _ s3,?_⟩
  refine aB hza (by have:=hn.1; omega) ⟨z,hz2 _ s3,aa (λh4=>?_) λh4=>?_⟩
  ·have h4:z = false:=by simpa using h4
   subst h4
   simp only [Wa,if_false] at e1
   refine ⟨?_,?_⟩
   ·rw [e1,e2,Bool.false_and,show (bn U:Int) - bn bs + ((bn (dm U (fG v)):Int) - bn U) = (bn (dm U (fG v)):Int) - bn bs from by omega]
   ·rw [e1]; exact done _ _ h3
  ·have h4:z = true:=by simpa using h4
   subst h4
   simp only [if_true] at e1
   rw [Bool.true_and] at e2
   refine ⟨⟨by omega,by omega⟩,⟨j + 1,dm U (fG v),by simp,by omega,by omega,by omega,by rw [bF]; exact hlU,λk hk=>by rw [fa,hsub k hk]; rfl,e1,e2,h3⟩,bK hlt⟩
 ·have hlt:j = l:=by have:=Uy hlt; omega
  subst hlt
  rw [VS (by have:=hr.1; omega)] at e1 e2
  rw [F2] at e1
  refine ⟨?_,?_⟩
  ·rw [e1,e2]; rfl
  ·rw [e1]; exact done _ _ h
end
end Go.Proofs.YtndaepmjkbmjmaaGreatDoor
namespace Go.V
inductive Nf (g:ae):Int->Prop
 | mk (p:aO):p∈g.prods->(∀ s∈p.right,Nf g s)->Nf g p.left
inductive PV (g:ae):Int->Nat->Prop
 | tm (t:Nat):t < g.T->PV g (t:Int) t
 | pr (p:aO) (i:Nat) (s:Int) (t:Nat):p∈g.prods->p.right[i]? = some s->(∀ x∈p.right.take i,Nf g x)->PV g s t->PV g p.left t
def S5 (g:ae) (row:List Int):Prop:=∀ s∈row,Nf g s
def TQ (g:ae) (row:List Int) (t:Nat):Prop:=∃ (i:Nat) (s:Int),row[i]? = some s/\(∀ x∈row.take i,Nf g x)/\PV g s t
theorem F3 {nl:List Bool} {row:List Int}:yM nl row = true↔∀ s∈row,cj nl s.toNat = true:=by
 unfold yM; rw [V3]
theorem vC (nl:List Bool) (vs:List (List Bool)):∀ (row:List Int) (bs:List Bool) (k:Nat),cj (kX nl vs bs row) k = true↔cj bs k = true\/(k < bs.length/\∃ (i:Nat) (s:Int),row[i]? = some s/\(∀ x∈row.take i,cj nl x.toNat = true)/\cj (vs.getD s.toNat []) k = true)
 | [],bs,k=>by rw [F2]; simp
 | s :: r,bs,k=>by
  rw [CB]
  constructor
  ·intro h
   by_cases hz:cj nl s.toNat = true
   ·rw [UJ hz,vC nl vs r] at h
    rw [fa,bF,VH,UT,UO] at h
    rcases h with (h | ⟨h1,h2⟩) | ⟨h1,i,y,h2,h3,h4⟩
    ·exact .inl h
    ·exact .inr ⟨h1,0,s,rfl,by simp,h2⟩
    ·refine .inr ⟨h1,i + 1,y,h2,?_,h4⟩
     intro x hx
     rw [List.take_succ_cons] at hx
     rcases UR.1 hx with rfl | hx
     ·exact hz
     ·exact h3 x hx
   ·rw [UE hz,fa,VH,UT,UO] at h
    rcases h with h | ⟨h1,h2⟩
    ·exact .inl h
    ·exact .inr ⟨h1,0,s,rfl,by simp,h2⟩
  ·intro h
   have hu:(cj bs k = true\/(k < bs.length/\cj (vs.getD s.toNat []) k = true))->cj (dm bs (fG (vs.getD s.toNat []))) k = true:=λh=>by
    rw [fa,VH,UT,UO]; exact h
   by_cases hz:cj nl s.toNat = true
   ·rw [UJ hz,vC nl vs r,bF]
    rcases h with h | ⟨h1,i,y,h2,h3,h4⟩
    ·exact .inl (hu (.inl h))
    ·match i,h2,h3 with
     | 0,h2,_=>cases h2; exact .inl (hu (.inr ⟨h1,h4⟩))
     | i + 1,h2,h3=>exact .inr ⟨h1,i,y,h2,λx hx=>h3 x (by rw [List.take_succ_cons]; exact Wd _ hx),h4⟩
   ·rw [UE hz]
    rcases h with h | ⟨h1,i,y,h2,h3,h4⟩
    ·exact hu (.inl h)
    ·match i,h2,h3 with
     | 0,h2,_=>cases h2; exact hu (.inr ⟨h1,h4⟩)
     | i + 1,h2,h3=>exact absurd (h3 s (by rw [List.take_succ_cons]; exact Wc)) hz
def Tv (g:ae):Prop:=∀ p∈g.prods,((g.T:Int)<=p.left/\p.left < g.T + g.N)/\∀ s∈p.right,0<=s/\s < (g.T:Int) + g.N
structure F4 (g:ae) (nl:List Bool) (vs:List (List Bool)):Prop where
 ln:nl.length = g.T + g.N
 lv:vs.length = g.T + g.N
 le:∀ v∈vs,v.length = g.T
 sn:∀ i,cj nl i = true->Nf g (i:Int)
 sv:∀ i t,cj (vs.getD i []) t = true->PV g (i:Int) t
 tm:∀ t,t < g.T->cj (vs.getD t []) t = true
def SD (nl:List Bool) (vs:List (List Bool)) (p:aO):Prop:=(yM nl p.right = true->cj nl p.left.toNat = true)/\kX nl vs (vs.getD p.left.toNat []) p.right = vs.getD p.left.toNat []
theorem iY {s:Int} (h:0<=s):((s.toNat:Nat):Int) = s:=by omega
theorem F4.row {g:ae} {nl:List Bool} {vs:List (List Bool)} (m:F4 g nl vs) {row:List Int} (hr:∀ s∈row,0<=s/\s < (g.T:Int) + g.N):(yM nl row = true->S5 g row)/\∀ bs t,cj (kX nl vs bs row) t = true->cj bs t = true\/TQ g row t:=by
 refine ⟨λh s hs=>?_,λbs t h=>?_⟩
 ·have:=m.sn _ (F3.1 h s hs)
  rwa [iY (hr s hs).1] at this
 ·rcases (vC nl vs row bs t).1 h with h | ⟨_,i,s,h1,h2,h3⟩
  ·exact .inl h
  ·refine .inr ⟨i,s,h1,λx hx=>?_,?_⟩
   ·have:=m.sn _ (h2 x hx)
    rwa [iY (hr x (List.mem_of_mem_take hx)).1] at this
   ·have:=m.sv _ _ h3
    rwa [iY (hr s (UC h1)).1] at this
theorem PV.lt {g:ae} {s:Int} {t:Nat} (h:PV g s t):t < g.T:=by
 induction h with
 | tm t h=>exact h
 | pr p i s t _ _ _ _ ih=>exact ih
structure S6 (g:ae) (nl:List Bool) (vs:List (List Bool)):Prop where
 ln:nl.length = g.T + g.N
 lv:vs.length = g.T + g.N
 le:∀ v∈vs,v.length = g.T
 nn:∀ i,cj nl i = true↔Nf g (i:Int)
 nv:∀ i t,cj (vs.getD i []) t = true↔PV g (i:Int) t
theorem F4.F5 {g:ae} {nl:List Bool} {vs:List (List Bool)} (m:F4 g nl vs) {i:Nat} (hi:i < g.T + g.N):(vs.getD i []).length = g.T:=by
 have h:vs[i]? = some (vs[i]'(by rw [m.lv]; exact hi)):=UB _
 rw [List.getD,h]
 exact m.le _ (UC h)
theorem F4.all {g:ae} {nl:List Bool} {vs:List (List Bool)} (hg:Tv g) (m:F4 g nl vs) (hc:∀ p∈g.prods,SD nl vs p):S6 g nl vs:=by
 have cn:∀ s,Nf g s->cj nl s.toNat = true:=λs h=>by
  induction h with
  | mk p hp _ ih=>exact (hc p hp).1 (F3.2 ih)
 have cv:∀ s t,PV g s t->cj (vs.getD s.toNat []) t = true:=λs t h=>by
  induction h with
  | tm t h=>exact m.tm t h
  | pr p i s t hp hi hx hs ih =>
   have hl:=(hg p hp).1
   rw [<- (hc p hp).2,vC]
   exact .inr ⟨by rw [m.F5 (by omega)]; exact hs.lt,i,s,hi,λx hx'=>cn x (hx x hx'),ih⟩
 exact ⟨m.ln,m.lv,m.le,λi=>⟨m.sn i,λh=>cn _ h⟩,λi t=>⟨m.sv i t,λh=>cv _ _ h⟩⟩
def Jt (v:List Bool):Nat:=v.length - bn v
def ue (nl:List Bool) (vs:List (List Bool)):Nat:=Jt nl + (vs.map Jt).sum
theorem Ju:∀ {l:List Nat} {k x y:Nat},l[k]? = some x->(l.set k y).sum + x = l.sum + y
 | [],k,x,y,h=>by simp at h
 | z :: l,0,x,y,h=>by simp at h; subst h; simp; omega
 | z :: l,k + 1,x,y,h=>by
  have:=Ju (l:=l) (k:=k) (x:=x) (y:=y) (by simpa using h)
  simp; omega
theorem Ng {nl:List Bool} {vs:List (List Bool)} {k:Nat} {v v' : List Bool} (h:vs[k]? = some v) (hl:v'.length = v.length) (hc:bn v<=bn v'):ue nl (vs.set k v') + (bn v' - bn v) = ue nl vs:=by
 have h1:=Ju (l:=vs.map Jt) (k:=k) (x:=Jt v) (y:=Jt v') (by rw [UD,h]; rfl)
 have h2:=jd v
 have h3:=jd v'
 unfold ue
 rw [VL]
 unfold Jt at *
 omega
theorem exists_least {P:Nat->Prop} (h:∃ m,P m):∃ m,P m/\∀ k,P k->m<=k:=by
 obtain ⟨m,hm⟩:=h
 induction m using Nat.strongRecOn with
 | _ m ih =>
  by_cases hl:∃ k,k < m/\P k
  ·obtain ⟨k,hk,hp⟩:=hl
   exact ih k hk hp
  ·exact ⟨m,hm,λk hk=>Nat.le_of_not_lt λhlt=>hl ⟨k,hlt,hk⟩⟩
theorem Nh {α : Type} (P:α->Nat->Prop):∃ μ : α->Nat,(∀ x m,P x m->μ x<=m)/\∀ x,(∃ m,P x m)->P x (μ x):=by
 have h:∀ x,∃ m,(∀ k,P x k->m<=k)/\((∃ k,P x k)->P x m):=λx=>by
  by_cases hx:∃ k,P x k
  ·obtain ⟨m,h1,h2⟩:=exists_least hx
   exact ⟨m,h2,λ_=>h1⟩
  ·exact ⟨0,λk hk=>absurd ⟨k,hk⟩ hx,λh=>absurd h hx⟩
 exact ⟨λx=>(h x).choose,λx=>(h x).choose_spec.1,λx=>(h x).choose_spec.2⟩
theorem CD {m m' : Nat->Bool} (h:∀ k,m k = true->m' k = true):∀ n,j6 n m<=j6 n m'/\(j6 n m = j6 n m'->∀ k,k < n->m k = m' k)
 | 0=>⟨US _,λ_ k hk=>by omega⟩
 | n + 1=>by
  obtain ⟨h1,h2⟩:=CD h n
  rw [qf,qf]
  have h3:=h n
  cases e:m n <;> cases e' : m' n
  ·refine ⟨by simpa using h1,λhe k hk=>?_⟩
   by_cases ek:k = n
   ·subst ek; rw [e,e']
   ·exact h2 (by simpa using he) k (by omega)
  ·simp only [Wa,if_false,if_true]
   exact ⟨by omega,λhe=>by omega⟩
  ·rw [e,e'] at h3; simp at h3
  ·refine ⟨by simpa using h1,λhe k hk=>?_⟩
   by_cases ek:k = n
   ·subst ek; rw [e,e']
   ·exact h2 (by simpa using he) k (by omega)
theorem Ni {bs cs:List Bool} (hl:cs.length = bs.length) (hs:∀ k,cj bs k = true->cj cs k = true) (hc:bn cs = bn bs):cs = bs:=by
 refine va hl λk=>?_
 by_cases hk:k < bs.length
 ·unfold bn at hc
  rw [hl] at hc
  exact ((CD hs bs.length).2 hc.symm k hk).symm
 ·rw [u_ (by omega),u_ (by omega)]
theorem F6 {nl:List Bool} {k:Nat} (hk:k < nl.length) (j:Nat):cj (nl.set k true) j = (cj nl j || j == k):=by
 unfold cj
 rw [UN,UN,VC]
 by_cases e:k = j
 ·subst e; simp [hk]
 ·have:¬ j = k:=λh=>e h.symm
  simp [e,this]
theorem PW {nl:List Bool} {k:Nat} (hk:k < nl.length) (hf:cj nl k = false):Jt (nl.set k true) + 1 = Jt nl:=by
 have h1:bn (nl.set k true) = bn nl + 1:=by
  unfold bn
  rw [Vj,<- IP hk hf]
  exact Cg λj _=>F6 hk j
 have h2:=jd (nl.set k true)
 rw [Vj] at h2
 unfold Jt
 rw [Vj]
 omega
theorem CE {vs:List (List Bool)} {k:Nat} (hk:k < vs.length) (v:List Bool) (j:Nat):(vs.set k v).getD j [] = if j = k then v else vs.getD j []:=by
 rw [UN,UN,VC]
 by_cases e:k = j
 ·subst e; simp [hk]
 ·have:¬ j = k:=λh=>e h.symm
  simp [e,this]
theorem F4.lay {g:ae} (hg:Tv g) {nl:List Bool} {vs:List (List Bool)} (m:F4 g nl vs) {p:aO} (hp:p∈g.prods):F4 g nl (vs.set p.left.toNat (kX nl vs (vs.getD p.left.toNat []) p.right)):=by
 obtain ⟨hl,hr⟩:=hg p hp
 have hk:p.left.toNat < g.T + g.N:=by omega
 have hkv:p.left.toNat < vs.length:=by rw [m.lv]; exact hk
 refine ⟨m.ln,by rw [Vj]; exact m.lv,λv hv=>?_,m.sn,λi t h=>?_,λt ht=>?_⟩
 ·rcases List.mem_or_eq_of_mem_set hv with hv | rfl
  ·exact m.le v hv
  ·rw [Av]; exact m.F5 hk
 ·rw [CE hkv] at h
  split at h
  ·rename_i e
   subst e
   rw [iY (by omega)]
   rcases (m.row hr).2 _ _ h with h | ⟨i,s,h1,h2,h3⟩
   ·have:=m.sv _ _ h; rwa [iY (by omega)] at this
   ·exact .pr p i s t hp h1 h2 h3
  ·exact m.sv _ _ h
 ·rw [CE hkv]
  split
  ·omega
  ·exact m.tm t ht
theorem F4.Uk {g:ae} (hg:Tv g) {nl:List Bool} {vs:List (List Bool)} (m:F4 g nl vs) {p:aO} (hp:p∈g.prods) (hn:S5 g p.right):F4 g (nl.set p.left.toNat true) vs:=by
 obtain ⟨hl,hr⟩:=hg p hp
 have hk:p.left.toNat < nl.length:=by rw [m.ln]; omega
 refine ⟨by rw [Vj]; exact m.ln,m.lv,m.le,λi h=>?_,m.sv,m.tm⟩
 rw [F6 hk,VH,beq_iff_eq] at h
 rcases h with h | rfl
 ·exact m.sn i h
 ·rw [iY (by omega)]; exact .mk p hp hn
theorem PX {g:ae} {nl:List Bool} {vs:List (List Bool)} (m:F4 g nl vs):ue nl vs<=(g.T + g.N) + (g.T + g.N) * g.T:=by
 unfold ue
 have h1:Jt nl<=g.T + g.N:=by unfold Jt; rw [m.ln]; omega
 have h2:∀ l:List (List Bool),(∀ v∈l,v.length = g.T)->(l.map Jt).sum<=l.length * g.T:=λl=>by
  induction l with
  | nil=>intro _; simp
  | cons v l ih =>
   intro h
   have h3:=ih λu hu=>h u (Wd _ hu)
   have h4:Jt v<=g.T:=by unfold Jt; rw [h v Wc]; omega
   simp only [Vh,List.sum_cons,Vc,V0]
   omega
 have h3:=h2 vs m.le
 rw [m.lv] at h3
 omega
theorem TR {g:ae} (h:l8 g):Tv g/\g.T<=65/\g.N<=65/\0 < g.N/\0 < g.T/\g.prods.length<=97:=by
 have hT:g.T = g.terms.length:=rfl
 have hN:g.N = g.nons.length:=rfl
 rcases h with ⟨s,p,_⟩ | ⟨h0,s,p,q,hq,q1,q2,q3⟩
 ·have h2:=vi.1 s
  have t0:0 < g.terms.length:=(UA.1 s.1).1
  refine ⟨λr hr=>?_,by omega,by omega,by omega,by omega,by have:=p.2.1; omega⟩
  have:=p.2.2.1 r hr
  exact ⟨⟨by have:=this.1.1; omega,this.1.2.1⟩,λy hy=>by have:=this.2 y hy; unfold fH at this; omega⟩
 ·have h2:=vi.1 s
  have t0:0 < g.terms.length:=(UA.1 s.1).1
  refine ⟨λr hr=>?_,by omega,by omega,by omega,by omega,by have:=p.2.1; omega⟩
  have hd:r = q\/r∈g.prods.drop 1:=by
   cases hg:g.prods with
   | nil=>rw [hg] at hr; cases hr
   | cons a l =>
    rw [hg] at hr hq
    cases hq
    rcases UR.1 hr with h | h
    ·exact .inl h
    ·exact .inr h
  rcases hd with rfl | hd
  ·refine ⟨by omega,λy hy=>?_⟩
   rw [q2,U2] at hy
   subst hy
   have:=p.2.2.2.2; omega
  ·have:=p.2.2.1 r hd
   exact ⟨⟨by have:=this.1.1; omega,this.1.2.1⟩,λy hy=>by have:=this.2 y hy; unfold fH at this; omega⟩
theorem PY {α : Sort _} (a:α):∃ q,q = a:=⟨a,rfl⟩
def FC (x:GA) (k14 n:Nat) (o:Wr) (j c:Nat):List Value:=[.slice x.ta x.tl x.tc,.slice x.na x.nl x.nc,.slice x.la x.ll x.lc,.int .i64 x.s,.slice x.pa x.pl x.pc,.slice (some ⟨k14,0,none⟩) n n,.slice o j c]
def kY (T j:Nat):List (List Bool):=(List.range j).map λ(i:Nat)=>Bz (T:Int) [(i:Int)]
theorem HV (T j:Nat):kY T (j + 1) = kY T j ++ [Bz (T:Int) [(j:Int)]]:=by simp [kY,VX]
theorem CF (T j:Nat):(kY T j).length = j:=by simp [kY]
theorem HW {T i:Nat} (hT:T<=65) (t:Nat):(Bz (T:Int) [(i:Int)]).length = T/\(cj (Bz (T:Int) [(i:Int)]) t = true↔t = i/\t < T):=by
 have hN:GW (T:Int) = T:=by unfold GW; split <;> split at * <;> omega
 unfold Bz
 refine ⟨by rw [bF,V8,hN],?_⟩
 rw [gE,V8,hN,fL,vb,Bool.false_or]
 simp only [UT,UO,V1,U2]
 omega
theorem Nj {g:ae} (hT:g.T<=65):F4 g (List.replicate (g.T + g.N) false) (kY g.T (g.T + g.N)):=by
 have hget:∀ i,cj ((kY g.T (g.T + g.N)).getD i []) = if i < g.T + g.N then cj (Bz (g.T:Int) [(i:Int)]) else cj []:=λi=>by
  unfold kY
  rw [UN,UD]
  by_cases h:i < g.T + g.N
  ·rw [VN h,UJ h]; rfl
  ·rw [UW (by simp; omega),UE h]; rfl
 refine ⟨by simp,CF _ _,λv hv=>?_,λi h=>?_,λi t h=>?_,λt ht=>?_⟩
 ·obtain ⟨i,_,rfl⟩:=UU.1 hv
  exact (HW hT 0).1
 ·rw [vb] at h; cases h
 ·rw [hget] at h
  split at h
  ·obtain ⟨rfl,h'⟩:=((HW hT t).2).1 h
   exact .tm t h'
  ·simp [cj] at h
 ·rw [hget,UJ (by omega)]
  exact (HW hT t).2.2 ⟨rfl,ht⟩
end Go.V
namespace Go.Proofs.YtndaepmjkbmjmaaGreatDoor
section
variable {w:Ws} {L:List au} {g:ae} {x:GA}
theorem TS (hg:gR (hp w) g x) (hb:iK g) (he:l8 g) (ht:dG (hp w)):ay Tryz.prog HU [.agg ⟨x.cells⟩] w λv w'=>∃ (b k14:Nat) (o:Wr) (c:Nat) (nl:List Bool) (ps:List Nat) (vs:List (List Bool)),v = .pointer (some ⟨b,0,none⟩)/\S6 g nl vs/\ps.length = vs.length /\
  St w' (aS b (FC x k14 (g.T + g.N) o ps.length c) :: aS k14 (bv nl) :: own 1 o ps.length c (pv (ps.map bk)) :: aT (iO ps vs) :: all w):=by
 refine Ea ?_
 refine cQ hg λk1 w1 gw hg B=>?_
 obtain ⟨iG,bT,bN,pN,pT,bP⟩:=TR he
 have tl:g.T = x.tl:=hg.t.1
 have nl:g.N = x.nl:=hg.n.1
 have pl:=hg.p.1
 have ht:=fp.mono gw ht
 refine ⟨_,_,_,B.c0 (sub.refl _),_,_,_,B.c1 (sub.refl _),⟨by omega,by omega⟩,λw2 hd=>?_⟩
 have e2:hp w2 = hp w1:=gi hd
 have gs:sub (hp w) (hp w1):=gw
 generalize hH:hp w1 = H at *
 have eN:(x.tl:Int) + (x.nl:Int) = ((g.T + g.N:Nat):Int):=by rw [tl,nl]; omega
 rw [eN]
 have hTe:(x.tl:Int) = (g.T:Int):=by rw [tl]
 rw [U9,jr]
 have h2:St w2 [has H]:=by have:=St.all w2; unfold V.all at this; rwa [e2] at this
 refine ⟨λw=>sub H (hp w),e2 ▸ sub.refl _,_,_,_,_,_,_,_,_,_,_,_,_,_,λw s=>B.row s,⟨by omega,rfl,by omega⟩,af h2 λk14 w4 h4=>⟨bj 1 h4.l,af h4 λk15 w5 h5=>⟨bj 2 h5.l,?_⟩⟩⟩
 clear h2 h4
 have bvr:List.replicate (g.T + g.N) (Value.bool false) = bv (List.replicate (g.T + g.N) false):=by simp [bv]
 rw [bvr] at h5
 refine ⟨λn w'=>∃ (j:Nat) (o:Wr) (c:Nat) (ps:List Nat),n = j/\j<=g.T + g.N/\ps.length = j/\St w' [aS k15 (FC x k14 (g.T + g.N) o j c),aS k14 (bv (List.replicate (g.T + g.N) false)),own 1 o j c (pv (ps.map bk)),aT (iO ps (kY g.T j)),has H],λn _=>g.T + g.N - n.toNat,⟨0,none,0,[],rfl,by omega,rfl,?_⟩,?_⟩
 ·have h6:=az 1 h5
  have h7:St w5 (aT (iO [] (kY g.T 0)) :: _):=St.flat.2 (show St w5 ([] ++ _) from h6)
  exact h7.pick 5 [2,3,1,0,4]
 clear h5
 rintro _ n2 w6 ⟨j,o,c,ps,rfl,hj,hps,h⟩
 refine aa (λhlt=>?_) λhlt=>?_
 ·have hlt:j < g.T + g.N:=by have:=Uz hlt; omega
  intro w7 hd
  have h:=h.drawn hd
  have I:∀ {w:Ws} {cs},av (hp w) ⟨k15,0,none⟩ cs->sub H (hp w)->av (hp w) ⟨k15,0,none⟩ cs/\sub H (hp w):=λa b=>⟨a,b⟩
  refine ⟨λw=>av (hp w) ⟨k15,0,none⟩ (FC x k14 (g.T + g.N) o j c)/\sub H (hp w),I (ag 0 h.l) (bj 4 h.l),_,_,_,λw h=>h.1.cell (sub.refl _) (j:=6) rfl,_,_,_,λw h=>B.c0 h.2,af h λk20 w10 h=>⟨I (ag 1 h.l) (bj 5 h.l),?_⟩⟩
  refine (Ru (xs:=[(j:Int)]) (l:=1) (x.tl:Int) (dO rfl (.inr ⟨_,rfl,ag 0 h.l⟩)) (by omega)).mono ?_
  rintro _ w11 ⟨px,rfl,h1⟩
  have h:=h1.u6 h
  refine ⟨_,rfl,I (ag 2 h.l) (bj 6 h.l),af h λk21 w12 h=>⟨I (ag 3 h.l) (bj 7 h.l),?_⟩⟩
  refine (aW aL (rfl:ah Ty _ = .slice _) (rfl:ah Ty _ = .slice _) rfl rfl rfl (h.pick 8 [0,5,1,2,3,4,6,7]) rfl (by simp [aH]) (by show (_ + 1) * 8<=_; omega) (by omega)).mono ?_
  rintro _ w13 ⟨o',c',rfl,h⟩
  refine ⟨_,_,_,rfl,I (ag 4 h.l) (bj 7 h.l),?_⟩
  show st1 w13 ((⟨k15,0,none⟩ : Addr).add 6) _ _
  rw [aV]
  refine bC (h.pick 8 [4,0,2,5,6,7]) (by simp [FC]) λw14 h=>⟨⟨by omega,by omega⟩,⟨j + 1,o',c',ps ++ [px],by simp,by omega,by simp [hps],?_⟩,bK hlt⟩
  have h:St w14 [aS k15 (FC x k14 (g.T + g.N) o' (j + 1) c'),own 1 o' (j + 1) c' (pv (ps.map bk) ++ [.pointer (some ⟨px,0,none⟩)]),dY (some ⟨px,0,none⟩) (Bz (x.tl:Int) [(j:Int)]),aS k14 (bv (List.replicate (g.T + g.N) false)),aT (iO ps (kY g.T j)),has H]:=h
  have e1:pv (ps.map bk) ++ [.pointer (some ⟨px,0,none⟩)] = pv ((ps ++ [px]).map bk):=by simp [pv,bk]
  have lSv:(iO ps (kY g.T j) ++ [dY (some ⟨px,0,none⟩) (Bz (x.tl:Int) [(j:Int)])]) = iO (ps ++ [px]) (kY g.T (j + 1)):=by
   rw [HV,hTe]; unfold iO; rw [List.zipWith_append (by rw [CF]; exact hps)]; rfl
  rw [e1] at h
  have h:=St.snoc (A:=dY (some ⟨px,0,none⟩) (Bz (x.tl:Int) [(j:Int)])) (M:=iO ps (kY g.T j)) (h.pick 6 [2,4,0,1,3,5])
  rw [lSv] at h
  exact h.pick 5 [1,3,2,0,4]
 have hlt:j = g.T + g.N:=by have:=Uy hlt; omega
 subst hlt
 obtain ⟨Q,hQ⟩:=PY (λ(n:Int) (w:Ws) (m:Nat)=>∃ (nl:List Bool) (vs:List (List Bool)),F4 g nl vs/\0<=n/\(m:Int) = ue nl vs + (if 0 < n then 1 else 0)/\(n = 0->∀ p∈g.prods,SD nl vs p) /\
  St w [aS k15 (FC x k14 (g.T + g.N) o (g.T + g.N) c),aS k14 (bv nl),own 1 o (g.T + g.N) c (pv (ps.map bk)),aT (iO ps vs),has H])
 obtain ⟨μ,mu1,mu2⟩:=Nh (λ(y:Int × Ws) m=>Q y.1 y.2 m)
 refine ⟨λn w'=>∃ m,Q n w' m,λn w=>μ (n,w),⟨ue (List.replicate (g.T + g.N) false) (kY g.T (g.T + g.N)) + 1,?_⟩,?_⟩
 ·rw [hQ]
  exact ⟨_,_,Nj bT,by decide,by simp,λh=>absurd h (by decide),h⟩
 clear h
 intro _ n3 w15 hP
 have hP:=mu2 (n3,w15) hP
 dsimp only at hP
 generalize hμ : μ (n3,w15) = μ0 at *
 rw [hQ] at hP
 obtain ⟨nl0,vs0,mk0,hn3,hmu,hcl,h⟩:=hP
 refine aa (λhpos=>?_) λhpos=>?_
 rotate_left
 ·have hpos:=Uy hpos
  have hcl:=hcl (by omega)
  refine ⟨k15,k14,o,c,nl0,ps,vs0,rfl,mk0.all iG hcl,by rw [hps,mk0.lv],?_⟩
  rw [hps]
  exact St.on (N:=[_,_,_,_]) h (bY gs)
 have hpos:=Uz hpos
 rw [UJ hpos] at hmu
 refine ⟨_,_,_,B.c4 (bj 4 h.l),λn4 n5 w'=>∃ (j:Nat) (nl:List Bool) (vs:List (List Bool)),n5 = j/\j<=x.pl/\0<=n4/\n4 + ue nl vs = ue nl0 vs0/\F4 g nl vs/\(n4 = 0->∀ p∈g.prods.take j,SD nl vs p)/\St w' [aS k15 (FC x k14 (g.T + g.N) o (g.T + g.N) c),aS k14 (bv nl),own 1 o (g.T + g.N) c (pv (ps.map bk)),aT (iO ps vs),has H],λ_ n5 _=>x.pl - n5.toNat,⟨0,nl0,vs0,rfl,by omega,by omega,by omega,mk0,by simp,h⟩,?_⟩
 clear h
 rintro _ n4 n5 w16 ⟨j,nl,vs,rfl,hj,hn4,hm4,mk,hcl4,h⟩
 refine aa (λhlt=>?_) λhlt=>?_
 rotate_left
 ·have hlt:j = x.pl:=by have:=Uy hlt; omega
  subst hlt
  rw [UX (by omega)] at hcl4
  have key:Q n4 w16 (ue nl vs + (if 0 < n4 then 1 else 0)):=by
   rw [hQ]; exact ⟨nl,vs,mk,hn4,by split <;> simp,hcl4,h⟩
  refine ⟨⟨_,key⟩,?_⟩
  have:=mu1 (n4,w16) _ key
  dsimp only
  rw [hμ]
  split at this <;> omega
 have hlt:j < x.pl:=by have:=Uz hlt; omega
 obtain ⟨p,ad,pvs,hp1,hpa,hp2,a,l,c3,rfl,hlc,hp3⟩:=hg.p.get hlt
 have hpm:=UC hp1
 obtain ⟨hpl,hpr⟩:=iG p hpm
 have et:g.prods.take (j + 1) = g.prods.take j ++ [p]:=by rw [UI,hp1]; rfl
 refine ak hpa hlt ⟨_,_,_,_,_,hp2.at (bj 4 h.l) rfl,af h λk28 w17 h=>aI h rfl (by intro v hv; simp at hv; rcases hv with rfl | rfl | rfl <;> rfl) λw18 h=>?_⟩
 intro w19 hd
 have h:=h.drawn hd
 obtain ⟨k,hk⟩ : ∃ k:Nat,p.left = k:=⟨p.left.toNat,by omega⟩
 rw [hk] at h
 have hkt:p.left.toNat = k:=by omega
 have hkN:k < g.T + g.N:=by omega
 obtain ⟨px,hpx⟩ : ∃ px,ps[k]? = some px:=⟨ps[k]'(by omega),UB _⟩
 obtain ⟨v,hv⟩ : ∃ v,vs[k]? = some v:=⟨vs[k]'(by rw [mk.lv]; exact hkN),UB _⟩
 have hvd:vs.getD k [] = v:=by rw [UN,hv]; rfl
 have hpb:(ps.map bk)[k]? = some (bk px):=by rw [UD,hpx]; rfl
 have rp:aX (hp w19) (ps.map bk) o (g.T + g.N):=Rv 3 h.l rfl rfl (by simp [hps])
 obtain ⟨q,ad2,hq1,hqa,hq2⟩:=rp.dM hkN
 rw [hpb] at hq1; cases hq1
 refine ⟨λw=>av (hp w) ⟨k15,0,none⟩ (FC x k14 (g.T + g.N) o (g.T + g.N) c)/\av (hp w) ⟨k28,0,none⟩ [.int .i64 (k:Int),.slice a l c3,.int .i64 p.level]/\aX (hp w) (ps.map bk) o (g.T + g.N),⟨ag 1 h.l,ag 0 h.l,rp⟩,_,_,_,λw h=>h.1.cell (sub.refl _) (j:=6) rfl,_,λw h=>h.2.1.cell0 (sub.refl _),?_⟩
 refine aB hqa hkN ⟨bk px,λw h=>?_,_,_,_,λw h=>h.2.1.cell (sub.refl _) (j:=1) rfl,?_⟩
 ·obtain ⟨q',ad',e1,e2,e3⟩:=h.2.2.dM hkN
  rw [hpb] at e1; cases e1
  rw [hqa] at e2; cases e2
  exact e3 _ (sub.refl _)
 have gS:(iO ps vs)[k]? = some (dY (bk px) v):=by unfold iO; rw [List.getElem?_zipWith,hpx,hv]
 have G2:∀ v',(iO ps vs).set k (dY (bk px) v') = iO ps (vs.set k v'):=λv'=>Pk (λp v=>dY (bk p) v) hpx
 have h:=St.out (h.pick 6 [4,0,1,2,3,5]) gS
 refine (S4 (nulls:=nl) (os:=ps.map bk) (vss:=vs) (row:=p.right) (gs:=x.cells) h (λh hh=>ag 2 hh) rfl (λh hh=>Hl mk.ln (.inr ⟨_,rfl,ag 3 hh⟩)) (λh hh=>Rv 4 hh rfl rfl (by simp [hps])) (by simp [hps,mk.lv]) (by simp [hps,mk.ln]) (λh hh i q v' hi hv'=>?_) (λh hh=>fp.mono (bj 5 hh) ht) (λh hh=>hp3.mono (bj 5 hh)) (λs hs=>⟨(hpr s hs).1,?_⟩) ?_).mono ?_
 ·rw [UD] at hi
  cases hpi:ps[i]? with
  | none=>rw [hpi] at hi; cases hi
  | some pi =>
   rw [hpi] at hi; cases hi
   by_cases ek:i = k
   ·subst ek
    rw [hpx] at hpi; cases hpi
    rw [hv] at hv'; cases hv'
    exact .inr ⟨rfl,rfl⟩
   ·exact .inl (TL 0 hh hpi hv' ek)
 ·have:=(hpr s hs).2; simp [hps]; omega
 ·have:=hp3.1; have:=hb.2.2.2.2.2.2 p hpm; omega
 rintro _ w24 ⟨rfl,h⟩
 have mk':=mk.lay iG hpm
 rw [hkt,hvd] at mk'
 have hv'l:(kX nl vs v p.right).length = v.length:=Av _ _ _ _
 have hcv:=CC nl vs p.right v
 have hms:=Ng (nl:=nl) hv hv'l hcv
 have hsb:=vz nl vs p.right v
 have hml:=PX mk0
 have hmb:(g.T + g.N) + (g.T + g.N) * g.T<=100000:=by
  have:=Nat.mul_le_mul (show g.T + g.N<=130 by omega) bT; omega
 have hstay:(yM nl p.right = true->cj nl k = true)->n4 + ((bn (kX nl vs v p.right):Int) - bn v) = 0->∀ r∈g.prods.take (j + 1),SD nl (vs.set k (kX nl vs v p.right)) r:=λhnn h0 r hr=>by
  have e0:kX nl vs v p.right = v:=Ni hv'l hsb (by omega)
  have e1:vs.set k v = vs:=by
   apply Vq
   intro i
   rw [VC]
   split
   ·rename_i e; subst e; rw [hv]; simp; rw [mk.lv]; exact hkN
   ·rfl
  rw [e0,e1]
  rw [et] at hr
  rcases UF.1 hr with hr | hr
  ·exact hcl4 (by omega) r hr
  ·simp at hr; subst hr
   unfold SD
   rw [hkt,hvd]
   exact ⟨hnn,e0⟩
 have h:=St.back h gS
 rw [G2] at h
 generalize kX nl vs v p.right = v' at *
 refine ⟨_,_,rfl,⟨ag 2 h.l,ag 1 h.l,Rv 4 h.l rfl rfl (by simp [hps])⟩,⟨by omega,by omega⟩,λw25 hd=>?_⟩
 have h:=h.drawn hd
 have stay:∀ {w'},St w' [aT (iO ps (vs.set k v')),aS k28 [.int .i64 (k:Int),.slice a l c3,.int .i64 p.level],aS k15 (FC x k14 (g.T + g.N) o (g.T + g.N) c),aS k14 (bv nl),own 1 o (g.T + g.N) c (pv (ps.map bk)),has H]->(yM nl p.right = true->cj nl k = true)->aw ((j:Int) + 1)/\(∃ (j' : Nat) (nl:List Bool) (vs:List (List Bool)),(j:Int) + 1 = j'/\j'<=x.pl/\0<=n4 + ((bn v' : Int) - bn v)/\n4 + ((bn v' : Int) - bn v) + ue nl vs = ue nl0 vs0/\F4 g nl vs/\(n4 + ((bn v' : Int) - bn v) = 0->∀ p∈g.prods.take j',SD nl vs p)/\St w' [aS k15 (FC x k14 (g.T + g.N) o (g.T + g.N) c),aS k14 (bv nl),own 1 o (g.T + g.N) c (pv (ps.map bk)),aT (iO ps vs),has H])/\x.pl - ((j:Int) + 1).toNat < x.pl - (j:Int).toNat:=λ{w'} h hnn=>by
  refine ⟨⟨by omega,by omega⟩,⟨j + 1,nl,vs.set k v',by simp,by omega,by omega,by omega,mk',hstay hnn,h.pick 6 [2,3,4,0,5]⟩,bK hlt⟩
 refine ⟨λw=>sub (hp w25) (hp w),sub.refl _,aa (λh1=>?_) λh1=>stay h λh2=>by rw [h1] at h2; cases h2⟩
 refine ⟨_,_,_,λw s=>(ag (b:=k15) (vs:=FC x k14 (g.T + g.N) o (g.T + g.N) c) 2 h.l).cell s (j:=5) rfl,_,λw s=>(ag (b:=k28) (vs:=[.int .i64 (k:Int),.slice a l c3,.int .i64 p.level]) 1 h.l).cell0 s,?_⟩
 have rn:aX (hp w25) nl (some ⟨k14,0,none⟩) (g.T + g.N):=Hl mk.ln (.inr ⟨_,rfl,ag 3 h.l⟩)
 obtain ⟨z,ad3,hz1,hza,hz2⟩:=rn.dM hkN
 have hzd:cj nl k = z:=by unfold cj; rw [UN,hz1]; rfl
 cases hza
 refine aB rfl hkN ⟨z,λw s=>hz2 _ s,aa (λh2=>?_) λh2=>stay h λ_=>by rw [hzd]; simpa using h2⟩
 have h2:z = false:=by simpa using h2
 subst h2
 intro w29 hd
 have h:=h.drawn hd
 refine ⟨λw=>sub (hp w29) (hp w),sub.refl _,_,_,_,λw s=>(ag (b:=k15) (vs:=FC x k14 (g.T + g.N) o (g.T + g.N) c) 2 h.l).cell s (j:=5) rfl,_,λw s=>(ag (b:=k28) (vs:=[.int .i64 (k:Int),.slice a l c3,.int .i64 p.level]) 1 h.l).cell0 s,?_⟩
 refine aB rfl hkN ?_
 rw [aV]
 refine bC (h.pick 6 [3,0,2,4,5]) (by simp [bv,mk.ln]; exact hkN) λw32 h=>?_
 have eb:(bv nl).set k (.bool true) = bv (nl.set k true):=by unfold bv; rw [VL]
 rw [eb] at h
 have ho:=PW (nl:=nl) (k:=k) (by rw [mk.ln]; exact hkN) hzd
 have mk2:=mk'.Uk iG hpm ((mk.row hpr).1 h1)
 rw [hkt] at mk2
 have hm2:ue (nl.set k true) (vs.set k v') + 1 = ue nl (vs.set k v'):=by unfold ue; omega
 exact ⟨⟨by omega,by omega⟩,⟨by omega,by omega⟩,⟨j + 1,nl.set k true,vs.set k v',by simp,by omega,by omega,by omega,mk2,λh0=>by omega,h.pick 5 [2,0,3,1,4]⟩,bK hlt⟩
end
end Go.Proofs.YtndaepmjkbmjmaaGreatDoor
namespace Go.V
def uf (g:ae) (nn:List Bool):Prop:=nn.length = g.N/\∀ i:Nat,cj nn i = true↔Nf g ((g.T + i:Nat):Int)
theorem KR (l:List Bool) (k i:Nat):cj (l.drop k) i = cj l (k + i):=by
 unfold cj; rw [UN,UN,Vb]
theorem uf.inj {g:ae} {bs cs:List Bool} (h:uf g bs) (k:uf g cs):bs = cs :=
 va (h.1.trans k.1.symm) λi=>by rw [Vn,h.2,k.2]
end Go.V
namespace Go.Proofs.YtndaepmjkbmjmaaGreatDoor
section
variable {w:Ws} {L:List au} {g:ae} {x:GA}
theorem Nk (hg:gR (hp w) g x) (hb:iK g):ay Tryz.prog Au [.agg ⟨x.cells⟩] w λv w'=>(∃ r:Bool,v = .bool r/\(r = true↔l8 g))/\Gr w w':=by
 refine w_ ?_
 refine cQ hg λk1 w1 gw hg B=>?_
 refine ⟨_,_,_,_,_,_,_,_,_,_,_,_,_,B.row (sub.refl _),(Pp (x:=x) hg hb).mono ?_⟩
 rintro _ w2 ⟨⟨r1,rfl,e1⟩,g2⟩
 unfold l8
 rw [<- e1]
 refine ⟨_,rfl,aa (λh1=>⟨⟨true,rfl,by simp [h1]⟩,gw.trans g2⟩) λh1=>⟨_,_,_,_,_,_,_,_,_,_,_,_,_,B.row g2,(vj (x:=x) (hg.mono g2) hb).mono ?_⟩⟩
 rintro _ w3 ⟨⟨r2,rfl,e2⟩,g3⟩
 rw [<- e2]
 exact ⟨_,rfl,⟨r2,rfl,by simp [h1]⟩,gw.trans (g2.trans g3)⟩
theorem HX (hg:gR (hp w) g x) (hb:iK g) (ht:dG (hp w)):ay Tryz.prog nD [.agg ⟨x.cells⟩] w λv w' =>
  (¬ l8 g/\v = .tuple #[.slice none 0 0,.int .i64 1]/\Gr w w') \/
  (l8 g/\∃ (k:Nat) (nl nn:List Bool),nl.length = g.T/\uf g nn/\v = .tuple #[.slice (some ⟨k,g.T,none⟩) g.N g.N,.int .i64 0]/\St w' (aS k (bv (nl ++ nn)) :: all w)):=by
 refine ub ?_
 refine cQ hg λk1 w1 gw hg B=>?_
 refine ⟨_,_,_,_,_,_,_,_,_,_,_,_,_,B.row (sub.refl _),(Nk (x:=x) hg hb).mono ?_⟩
 rintro _ w2 ⟨⟨r,rfl,e⟩,g2⟩
 refine ⟨_,rfl,aa (λh1=>.inl ⟨λhe=>?_,rfl,gw.trans g2⟩) λh1=>λw3 hd=>?_⟩
 ·rw [e.2 he] at h1; cases h1
 have he:=e.1 (by simpa using h1)
 have g3:Gr w1 w3:=g2.trans (Gr.drawn hd)
 obtain ⟨iG,bT,bN,pN,pT,bP⟩:=TR he
 have tl:g.T = x.tl:=hg.t.1
 refine ⟨λw=>Gr w3 w,Gr.refl _,_,_,_,_,_,_,_,_,_,_,_,_,_,λw s=>B.row (g3.trans s),_,_,_,λw s=>B.c0 (g3.trans s),(TS (x:=x) (hg.mono g3) hb he (fp.mono (gw.trans g3) ht)).mono ?_⟩
 rintro _ w6 ⟨b,k14,o,c,nl,ps,vs,rfl,al,hps,h⟩
 have hs:sub (hp w3) (hp w6):=bj 4 h.l
 have rb:av (hp w6) ⟨b,0,none⟩ (FC x k14 (g.T + g.N) o ps.length c):=ag 0 h.l
 refine ⟨_,rfl,λw=>sub (hp w6) (hp w),sub.refl _,λw s=>sub.trans hs s,_,_,_,λw s=>rb.cell s (j:=5) rfl,cO (lo:=x.tl) (by omega) (US _) (.inr ⟨he,k14,nl.take g.T,nl.drop g.T,by rw [U0,al.ln]; omega,⟨by rw [VU,al.ln]; omega,λi=>?_⟩,?_,?_⟩)⟩
 ·rw [KR]; exact al.nn _
 ·rw [<- tl,show g.T + g.N - g.T = g.N from by omega]
  have e:eJ (some ⟨k14,0,none⟩) g.T (g.T + g.N) 1 = some ⟨k14,g.T,none⟩:=by
   unfold eJ
   rw [UE (by omega),VM,show cR g.T 1 = g.T from by rw [aF,VA],aV]
  rw [e]
 ·rw [UY]
  exact St.on (N:=[_]) (h0:=hp w3) (h.pick 5 [1,4]) (bY (gw.trans g3))
end
end Go.Proofs.YtndaepmjkbmjmaaGreatDoor
namespace Go.V
def cd (n:Nat) (f:Nat->Bool):List Int:=((List.range n).filter f).map Int.ofNat
def jO (l:List Int):Prop:=l.Pairwise (· < ·)
theorem zf:∀ {l m:List Int},jO l->jO m->(∀ z,z∈l↔z∈m)->l = m
 | [],[],_,_,_=>rfl
 | [],b :: m,_,_,h=>absurd ((h b).2 (by simp)) (by simp)
 | a :: l,[],_,_,h=>absurd ((h a).1 (by simp)) (by simp)
 | a :: l,b :: m,hl,hm,h=>by
  obtain ⟨l1,l2⟩:=VD.1 hl
  obtain ⟨m1,m2⟩:=VD.1 hm
  have e:a = b:=by
   rcases UR.1 ((h a).1 (by simp)) with e | ha
   ·exact e
   ·rcases UR.1 ((h b).2 (by simp)) with e | hb
    ·exact e.symm
    ·have:=m1 a ha; have:=l1 b hb; omega
  subst e
  rw [zf l2 m2 λz=>?_]
  have hz:=h z
  simp only [UR] at hz
  constructor
  ·intro hz1
   rcases hz.1 (.inr hz1) with rfl | h2
   ·have:=l1 _ hz1; omega
   ·exact h2
  ·intro hz1
   rcases hz.2 (.inr hz1) with rfl | h2
   ·have:=m1 _ hz1; omega
   ·exact h2
theorem ju {n:Nat} {f:Nat->Bool} {z:Int}:z∈cd n f↔∃ k:Nat,z = k/\k < n/\f k = true:=by
 unfold cd
 rw [UU]
 constructor
 ·rintro ⟨k,hk,rfl⟩
  obtain ⟨h1,h2⟩:=Vo.1 hk
  exact ⟨k,rfl,U8.1 h1,h2⟩
 ·rintro ⟨k,rfl,h1,h2⟩
  exact ⟨k,Vo.2 ⟨U8.2 h1,h2⟩,rfl⟩
theorem nE (n:Nat) (f:Nat->Bool):jO (cd n f):=by
 unfold cd jO
 rw [Vx]
 refine List.Pairwise.filter _ ?_
 exact List.pairwise_lt_range.imp λh=>by show Int.ofNat _ < Int.ofNat _; simp; exact h
theorem jv (n:Nat) (f:Nat->Bool):(cd n f).length<=n:=by
 unfold cd
 rw [UH]
 have:=Vm f (List.range n)
 rwa [Vw] at this
def dd:List Int->List Int
 | []=>[]
 | [a]=>[a]
 | a :: b :: l=>if a = b then dd (b :: l) else a :: dd (b :: l)
theorem Eb:∀ (l:List Int) (z:Int),z∈dd l↔z∈l
 | [],z=>by simp [dd]
 | [a],z=>by simp [dd]
 | a :: b :: l,z=>by
  unfold dd
  split
  ·rename_i h; subst h
   rw [Eb (a :: l)]; simp
  ·rw [UR,Eb (b :: l),UR,UR,UR]
theorem Ec:∀ {l:List Int},l.Pairwise (·<=·)->jO (dd l)
 | [],_=>by simp [dd,jO]
 | [a],_=>by simp [dd,jO]
 | a :: b :: l,h=>by
  obtain ⟨h1,h2⟩:=VD.1 h
  unfold dd
  split
  ·exact Ec h2
  ·rename_i hne
   refine VD.2 ⟨λz hz=>?_,Ec h2⟩
   rw [Eb] at hz
   have hb:=h1 b (by simp)
   rcases UR.1 hz with rfl | hz
   ·omega
   ·have:=(VD.1 h2).1 z hz
    omega
theorem HY:∀ l:List Int,(dd l).length<=l.length
 | []=>by simp [dd]
 | [a]=>by simp [dd]
 | a :: b :: l=>by
  unfold dd
  split
  ·have:=HY (b :: l); simp at this ⊢; omega
  ·have:=HY (b :: l); simp at this ⊢; omega
def ug (g:ae) (ss:List SQ) (t:aj):Int:=if t∈bG g ss then ((bG g ss).idxOf t:Int) + 1 else 0
def RQ (ss:List SQ) (k:aj):Int:=if k.st < 0 then 0 else match lC ss k.st.toNat k.sym with
 | some j=>j + 1
 | none=>0
def xb (g:ae) (nn:List Bool) (s:Int):Bool:=decide ((g.T:Int)<=s) && cj nn (s.toNat - g.T)
def BJ (g:ae) (nn:List Bool) (row:List Int):Bool:=row.all (xb g nn)
def jX (g:ae) (nn:List Bool) (ss:List SQ) (i k:Nat):Bool:=match (bG g ss)[i]?,(bG g ss)[k]? with
 | some t,some u=>decide (lC ss t.st.toNat t.sym = some u.st) && xb g nn u.sym
 | _,_=>false
def Aw (g:ae) (nn:List Bool) (ss:List SQ) (n i:Nat):Bool:=match (bG g ss)[i]? with
 | some t=>(List.range g.prods.length).any λm=>decide (m≠0) && match g.prods[m]? with
  | some p=>decide (p.left = t.sym) && (List.range p.right.length).any λk=>decide ((bG g ss)[n]? = some ⟨cX ss t.st (p.right.take k),p.right.getD k 0⟩) && BJ g nn (p.right.drop (k + 1))
  | none=>false
 | none=>false
def dS (g:ae) (ss:List SQ) (q m i:Nat):Bool:=match (bG g ss)[i]?,g.prods[m]? with
 | some t,some p=>decide (m≠0) && decide (p.left = t.sym) && decide (cX ss t.st p.right = q)
 | _,_=>false
def Ax (g:ae) (nn:List Bool) (ss:List SQ):List (List Int):=(List.range (bG g ss).length).map λi=>cd (bG g ss).length (jX g nn ss i)
def yN (g:ae) (nn:List Bool) (ss:List SQ):List (List Int):=(List.range (bG g ss).length).map λn=>cd (bG g ss).length (Aw g nn ss n)
structure iP where
 st:Int
 prod:Int
 tr:List Int
deriving DecidableEq
instance:Inhabited iP:=⟨⟨0,0,[]⟩⟩
def qC (g:ae) (ss:List SQ) (q m:Nat):List iP:=if cd (bG g ss).length (dS g ss q m) = [] then [] else [⟨q,m,cd (bG g ss).length (dS g ss q m)⟩]
def eH (g:ae) (ss:List SQ) (q j:Nat):List iP:=(List.range j).flatMap (qC g ss q)
def oh (g:ae) (ss:List SQ):List iP:=(List.range ss.length).flatMap λq=>eH g ss q g.prods.length
theorem uh (g:ae) (ss:List SQ) (q j:Nat):eH g ss q (j + 1) = eH g ss q j ++ qC g ss q j:=by unfold eH; rw [VX,U_]; simp
def Bj (g:ae) (j:Nat) (s:Int):List Nat:=(ON g j s).filter λi=>decide (0 < i)
theorem Ay {g:ae} {j:Nat} {p:aO} (h:g.prods[j]? = some p) (s:Int):Bj g (j + 1) s = Bj g j s ++ if s = p.left/\0 < j then [j] else []:=by
 unfold Bj
 rw [Ai h,Vi]
 congr 1
 by_cases e:s = p.left <;> by_cases e2:0 < j <;> simp [e,e2]
theorem zg (g:ae) (j:Nat) (s:Int):(Bj g j s).length<=j:=U7 (Vm _ _) (DV g j s)
theorem rQ {g:ae} {s:Int} {i:Nat}:i∈Bj g g.prods.length s↔0 < i/\∃ p,g.prods[i]? = some p/\p.left = s:=by
 unfold Bj
 rw [Vo,show ON g g.prods.length s = Bi g s from rfl,rJ,UO,and_comm]
section
variable {g:ae} {ss:List SQ}
theorem HZ (hA:dh g ss):∀ n:Nat,(rM g ss n).Nodup
 | 0=>by simp [rM]
 | n + 1=>by
  cases hq:ss[n]? with
  | none=>simp only [rM,hq,U3]; exact HZ hA n
  | some q =>
   rw [nB hq,Vg]
   refine ⟨HZ hA n,?_,λx hx y hy e=>?_⟩
   ·unfold fi
    have h1:=wV hA hq
    have h2:((q.2.2.filter λe=>decide ((g.T:Int)<=e.sym)).map (·.sym)).Nodup:=h1.sublist (List.Sublist.map _ List.filter_sublist)
    rw [Vz,Vx] at h2 ⊢
    exact h2.imp λh e=>h (congrArg aj.sym e)
   ·subst e
    obtain ⟨i,_,_,e,hi,_,_,_,rfl⟩:=jg hx
    unfold fi at hy
    obtain ⟨e',_,h2⟩:=UU.1 hy
    have:=congrArg aj.st h2
    simp at this; omega
theorem Nl (hA:dh g ss):(bG g ss).Nodup:=HZ hA _
theorem Nn {α : Type} [DecidableEq α] {l:List α} (h:l.Nodup) {i:Nat} {x:α} (hx:l[i]? = some x):l.idxOf x = i:=by
 obtain ⟨h1,rfl⟩:=UA.1 hx
 exact h.idxOf_getElem i h1
theorem zh (hA:dh g ss) {i:Nat} {t:aj} (h:(bG g ss)[i]? = some t):ug g ss t = (i:Int) + 1:=by
 unfold ug
 rw [UJ (UC h),Nn (Nl hA) h]
theorem vD (hA:dh g ss) {t:aj} (h:0 < ug g ss t):∃ i:Nat,ug g ss t = (i:Int) + 1/\(bG g ss)[i]? = some t:=by
 unfold ug at h ⊢
 by_cases ht:t∈bG g ss
 ·rw [UJ ht]
  refine ⟨_,rfl,?_⟩
  rw [UB (List.idxOf_lt_length_of_mem ht),List.getElem_idxOf]
 ·rw [UE ht] at h; omega
end
end Go.V
namespace Go.Proofs.YtndaepmjkbmjmaaGreatDoor
abbrev vE:FuncId:=58
def sC:bh:={ rngs:=[],loops:=[(6,[(31,(.one (.int .i64)))]),(9,[(44,(.one (.int .i64)))]),(18,[(13,(.one .slice)),(77,(.one (.int .i64)))]),(21,[(13,(.one .slice)),(83,(.one (.int .i64)))])],joins:=[],blocks:=[] }
theorem sD {a:Wr} {b c:Nat} {d:Wr} {e f:Nat} {g:Wr} {i j:Nat} {k:Int} {l:Wr} {m n:Nat} {w:Ws} {R:Value->WP} (h:new w (oC [vS a b c,vS d e f,vS g i j,iI k,vS l m n] 27) λk1 w1=>∃ o1 k2 k3 o2 k4 k5 o3 k6 k7 n1 o4 k8 k9,rA w1 (aM k1) 5 [vS o1 k2 k3,vS o2 k4 k5,vS o3 k6 k7,iI n1,vS o4 k8 k9]/\rE 104 [vG [vS o1 k2 k3,vS o2 k4 k5,vS o3 k6 k7,iI n1,vS o4 k8 k9]] w1 λv1 w2=>∃ o5 n2,v1 = vU [vP o5,iI n2]/\br (n2 != 0) (R (vU [vS none 0 0,iI n2]) w2) (new w2 (Obj.map (Array.mk []) 0) λk10 w3=>nn o5 λa1=>∃ o6 k11 k12,cL w3 (Addr.add a1 8) (vS o6 k11 k12)/\∃ (x1:lP [(31,aD)]),∃ (x2:lN [(31,aD)]),x1 0 w3/\∀ (I1:Nat->Value) (n3:Int) (w4:Ws),x1 n3 w4->br (decide (n3 < (k11:Int))) (idx o6 k11 n3 2 λa2=>∃ n4 n5,rA w4 a2 2 [iI n4,iI n5]/\new w4 (oC [iI 0,iI 0] 184) λk13 w5=>cG w5 (aM k13) [iI n4,iI n5] λw6=>∀ w7,drawn w6 w7->∃ (I2:WP),I2 w7/\nn o5 λa3=>∃ o7,(∀ w8,I2 w8->cL w8 (Addr.add a3 12) (Value.map o7))/\∃ n6,(∀ w9,I2 w9->cL w9 (Addr.add (aM k13) 1) (iI n6))/\aU Proofs.Tryz.prog (Instr.lookup 160 (Value.map o7) (iI n6) false) w7 λv2 w10=>∃ o8 k14 k15,v2 = vS o8 k14 k15/\I2 w10/\∃ (x3:lP [(44,aD)]),∃ (x4:lN [(44,aD)]),x3 0 w10/\∀ (I3:Nat->Value) (n7:Int) (w11:Ws),x3 n7 w11->br (decide (n7 < (k14:Int))) (idx o8 k14 n7 1 λa4=>∃ n8,cL w11 a4 (iI n8)/\∀ w12,drawn w11 w12->∃ (I4:WP),I4 w12/\∃ n9,(∀ w13,I4 w13->cL w13 (aM k13) (iI n9))/\∃ o9 k16 k17,(∀ w14,I4 w14->cL w14 (Addr.add (aM k1) 4) (vS o9 k16 k17))/\idx o9 k16 n8 3 λa5=>∃ o10 k18 k19,(∀ w15,I4 w15->cL w15 (Addr.add a5 1) (vS o10 k18 k19))/\rE 105 [vP o5,iI n9,vS o10 k18 k19,Value.func (Fn.func 106) (Array.mk []) (Array.mk [])] w12 λv3 w16=>∃ n10,v3 = iI n10/\I4 w16/\new w16 (oC [iI 0,iI 0] 184) λk20 w17=>cG w17 (aM k20) [iI n10,iI n8] λw18=>∃ n11 n12,rA w18 (aM k20) 2 [iI n11,iI n12]/\new w18 (oC [iI n3] 3) λk21 w19=>aU Proofs.Tryz.prog (Instr.mapEntry 178 (Value.map (some k10)) (vG [iI n11,iI n12])) w19 λv4 w20=>∃ o11 k22 k23 n13,v4 = vU [vS o11 k22 k23,iI n13]/\rS (jT 24 (Array.mk [vS o11 k22 k23,vS (some (aM k21)) 1 1])) w20 λv5 w21=>∃ o12 k24 k25,v5 = vS o12 k24 k25/\aU Proofs.Tryz.prog (Instr.entryStore 178 (Value.map (some k10)) (iI n13) (vS o12 k24 k25)) w21 λ(x5:Unit) (w22:Ws)=>aw (n7 + 1)/\x3 (n7 + 1) w22/\x4 (n7 + 1) w22 < x4 n7 w11) (aw (n3 + 1)/\x1 (n3 + 1) w11/\x2 (n3 + 1) w11 < x2 n3 w4)) (nn o5 λa6=>∃ o13 k26 k27,cL w4 (Addr.add a6 5) (vS o13 k26 k27)/\∃ (x6:lP [(13,mL),(77,aD)]),∃ (x7:lN [(13,mL),(77,aD)]),x6 none 0 0 0 w4/\∀ (I5:Nat->Value) (o14:Wr) (k28 k29:Nat) (n14:Int) (w23:Ws),x6 o14 k28 k29 n14 w23->br (decide (n14 < (k26:Int))) (∃ o15 k30 k31,cL w23 (Addr.add (aM k1) 4) (vS o15 k30 k31)/\∃ (x8:lP [(13,mL),(83,aD)]),∃ (x9:lN [(13,mL),(83,aD)]),x8 o14 k28 k29 0 w23/\∀ (I6:Nat->Value) (o16:Wr) (k32 k33:Nat) (n15:Int) (w24:Ws),x8 o16 k32 k33 n15 w24->br (decide (n15 < (k30:Int))) (aU Proofs.Tryz.prog (Instr.lookup 178 (Value.map (some k10)) (vG [iI n14,iI n15]) false) w24 λv6 w25=>∃ o17 k34 k35,v6 = vS o17 k34 k35/\br (decide (0 < (k34:Int))) (rE 107 [vS o17 k34 k35] w25 λv7 w26=>∃ o18 k36 k37,v7 = vS o18 k36 k37/\new w26 (oC [iI n14,iI n15,vS o18 k36 k37] 117) λk38 w27=>rS (jT 113 (Array.mk [vS o16 k32 k33,vS (some (aM k38)) 1 1])) w27 λv8 w28=>∃ o19 k39 k40,v8 = vS o19 k39 k40/\aw (n15 + 1)/\x8 o19 k39 k40 (n15 + 1) w28/\x9 o19 k39 k40 (n15 + 1) w28 < x9 o16 k32 k33 n15 w24) (aw (n15 + 1)/\x8 o16 k32 k33 (n15 + 1) w25/\x9 o16 k32 k33 (n15 + 1) w25 < x9 o16 k32 k33 n15 w24)) (aw (n14 + 1)/\x6 o16 k32 k33 (n14 + 1) w24/\x7 o16 k32 k33 (n14 + 1) w24 < x7 o14 k28 k29 n14 w23)) (rE 108 [vS o14 k28 k29] w23 λv9 w29=>∃ o20 k41 k42,v9 = vS o20 k41 k42/\R (vU [vS o20 k41 k42,iI 0]) w29)))):ay Tryz.prog 58 [(.agg #[(.slice a b c),(.slice d e f),(.slice g i j),(.int .i64 k),(.slice l m n)])] w R:=rv Tryz.func58 sC (by kernel_rfl) h
abbrev F7:FuncId:=104
def BK:bh:={ rngs:=[],loops:=[(8,[(51,(.one (.int .i64)))]),(13,[(67,(.one (.int .i64)))]),(16,[(75,(.one (.int .i64)))]),(22,[(95,(.one (.int .i64)))])],joins:=[],blocks:=[] }
theorem BL {a:Wr} {b c:Nat} {d:Wr} {e f:Nat} {g:Wr} {i j:Nat} {k:Int} {l:Wr} {m n:Nat} {w:Ws} {R:Value->WP} (h:new w (oC [vS a b c,vS d e f,vS g i j,iI k,vS l m n] 27) λk1 w1=>∃ o1 k2 k3 o2 k4 k5 o3 k6 k7 n1 o4 k8 k9,rA w1 (aM k1) 5 [vS o1 k2 k3,vS o2 k4 k5,vS o3 k6 k7,iI n1,vS o4 k8 k9]/\rE 26 [vG [vS o1 k2 k3,vS o2 k4 k5,vS o3 k6 k7,iI n1,vS o4 k8 k9]] w1 λv1 w2=>∃ o5 k10 k11 n2 n3 n4,v1 = vU [vG [vS o5 k10 k11,iI n2,iI n3],iI n4]/\new w2 (oC [vS none 0 0,iI 0,iI 0] 45) λk12 w3=>cG w3 (aM k12) [vS o5 k10 k11,iI n2,iI n3] λw4=>br (n4 != 0) (R (vU [vP none,iI n4]) w4) (∃ o6 k13 k14 o7 k15 k16 o8 k17 k18 n5 o9 k19 k20,rA w4 (aM k1) 5 [vS o6 k13 k14,vS o7 k15 k16,vS o8 k17 k18,iI n5,vS o9 k19 k20]/\∃ o10 k21 k22 n6 n7,rA w4 (aM k12) 3 [vS o10 k21 k22,iI n6,iI n7]/\new w4 (Obj.map (Array.mk []) 0) λk23 w5=>new w5 (Obj.map (Array.mk []) 0) λk24 w6=>new w6 (Obj.map (Array.mk []) 0) λk25 w7=>new w7 (oC [vS o6 k13 k14,vS o7 k15 k16,vS o8 k17 k18,iI n5,vS o9 k19 k20,vS o10 k21 k22,iI n6,iI n7,vS none 0 0,Value.map (some k23),Value.map (some k24),vS none 0 0,Value.map (some k25)] 182) λk26 w8=>∃ o11 k27 k28 o12 k29 k30 o13 k31 k32 n8 o14 k33 k34,rA w8 (aM k1) 5 [vS o11 k27 k28,vS o12 k29 k30,vS o13 k31 k32,iI n8,vS o14 k33 k34]/\rE 163 [vG [vS o11 k27 k28,vS o12 k29 k30,vS o13 k31 k32,iI n8,vS o14 k33 k34]] w8 λv2 w9=>∃ o15 k35 k36 n9,v2 = vU [vS o15 k35 k36,iI n9]/\st1 w9 (Addr.add (aM k26) 8) (vS o15 k35 k36) λw10=>∃ o16 k37 k38 o17 k39 k40 o18 k41 k42 n10 o19 k43 k44,rA w10 (aM k1) 5 [vS o16 k37 k38,vS o17 k39 k40,vS o18 k41 k42,iI n10,vS o19 k43 k44]/\rE 164 [vG [vS o16 k37 k38,vS o17 k39 k40,vS o18 k41 k42,iI n10,vS o19 k43 k44]] w10 λv3 w11=>∃ o20 k45 k46 n11,v3 = vU [vS o20 k45 k46,iI n11]/\st1 w11 (Addr.add (aM k26) 11) (vS o20 k45 k46) λw12=>∃ o21 k47 k48,cL w12 (Addr.add (aM k26) 8) (vS o21 k47 k48)/\∃ (x1:lP [(51,aD)]),∃ (x2:lN [(51,aD)]),x1 0 w12/\∀ (I1:Nat->Value) (n12:Int) (w13:Ws),x1 n12 w13->br (decide (n12 < (k47:Int))) (idx o21 k47 n12 2 λa1=>∃ n13 n14,rA w13 a1 2 [iI n13,iI n14]/\new w13 (oC [iI 0,iI 0] 184) λk49 w14=>cG w14 (aM k49) [iI n13,iI n14] λw15=>∀ w16,drawn w15 w16->∃ (I2:WP),I2 w16/\∃ o22,(∀ w17,I2 w17->cL w17 (Addr.add (aM k26) 9) (Value.map o22))/\∃ n15 n16,(∀ w18,I2 w18->rA w18 (aM k49) 2 [iI n15,iI n16])/\aw (n12 + 1)/\aU Proofs.Tryz.prog (Instr.mapUpdate 180 (Value.map o22) (vG [iI n15,iI n16]) (iI (n12 + 1))) w16 λ(x3:Unit) (w19:Ws)=>aw (n12 + 1)/\x1 (n12 + 1) w19/\x2 (n12 + 1) w19 < x2 n12 w13) (∃ o23 k50 k51,cL w13 (aM k12) (vS o23 k50 k51)/\∃ (x4:lP [(67,aD)]),∃ (x5:lN [(67,aD)]),x4 0 w13/\∀ (I3:Nat->Value) (n17:Int) (w20:Ws),x4 n17 w20->br (decide (n17 < (k50:Int))) (idx o23 k50 n17 2 λa2=>∃ o24 k52 k53 o25 k54 k55,rA w20 a2 2 [vS o24 k52 k53,vS o25 k54 k55]/\new w20 (oC [vS none 0 0,vS none 0 0] 54) λk56 w21=>cG w21 (aM k56) [vS o24 k52 k53,vS o25 k54 k55] λw22=>∃ o26 k57 k58,cL w22 (Addr.add (aM k56) 1) (vS o26 k57 k58)/\∃ (x6:lP [(75,aD)]),∃ (x7:lN [(75,aD)]),x6 0 w22/\∀ (I4:Nat->Value) (n18:Int) (w23:Ws),x6 n18 w23->br (decide (n18 < (k57:Int))) (idx o26 k57 n18 2 λa3=>∃ n19 n20,rA w23 a3 2 [iI n19,iI n20]/\new w23 (oC [iI 0,iI 0] 56) λk59 w24=>cG w24 (aM k59) [iI n19,iI n20] λw25=>∀ w26,drawn w25 w26->∃ (I5:WP),I5 w26/\∃ o27,(∀ w27,I5 w27->cL w27 (Addr.add (aM k26) 10) (Value.map o27))/\∃ n21,(∀ w28,I5 w28->cL w28 (aM k59) (iI n21))/\∃ n22,(∀ w29,I5 w29->cL w29 (Addr.add (aM k59) 1) (iI n22))/\aw (n22 + 1)/\aU Proofs.Tryz.prog (Instr.mapUpdate 180 (Value.map o27) (vG [iI n17,iI n21]) (iI (n22 + 1))) w26 λ(x8:Unit) (w30:Ws)=>aw (n18 + 1)/\x6 (n18 + 1) w30/\x7 (n18 + 1) w30 < x7 n18 w23) (aw (n17 + 1)/\x4 (n17 + 1) w23/\x5 (n17 + 1) w23 < x5 n17 w20)) (∃ o28 k60 k61,cL w20 (Addr.add (aM k1) 4) (vS o28 k60 k61)/\∃ (x9:lP [(95,aD)]),∃ (x10:lN [(95,aD)]),x9 0 w20/\∀ (I6:Nat->Value) (n23:Int) (w31:Ws),x9 n23 w31->br (decide (n23 < (k60:Int))) (idx o28 k60 n23 3 λa4=>∃ n24 o29 k62 k63 n25,rA w31 a4 3 [iI n24,vS o29 k62 k63,iI n25]/\new w31 (oC [iI 0,vS none 0 0,iI 0] 81) λk64 w32=>cG w32 (aM k64) [iI n24,vS o29 k62 k63,iI n25] λw33=>br (decide (0 < n23)) (∀ w34,drawn w33 w34->∃ (I7:WP),I7 w34/\∃ o30,(∀ w35,I7 w35->cL w35 (Addr.add (aM k26) 12) (Value.map o30))/\∃ n26,(∀ w36,I7 w36->cL w36 (aM k64) (iI n26))/\∃ o31,(∀ w37,I7 w37->cL w37 (Addr.add (aM k26) 12) (Value.map o31))/\∃ n27,(∀ w38,I7 w38->cL w38 (aM k64) (iI n27))/\(aU Proofs.Tryz.prog (Instr.lookup 160 (Value.map o31) (iI n27) false) w34 λv4 w39=>∃ o32 k65 k66,v4 = vS o32 k65 k66/\I7 w39/\new w39 (oC [iI n23] 3) λk67 w40=>I7 w40/\rS (jT 24 (Array.mk [vS o32 k65 k66,vS (some (aM k67)) 1 1])) w40 λv5 w41=>∃ o33 k68 k69,v5 = vS o33 k68 k69/\I7 w41/\aU Proofs.Tryz.prog (Instr.mapUpdate 160 (Value.map o30) (iI n26) (vS o33 k68 k69)) w41 λ(x11:Unit) (w42:Ws)=>aw (n23 + 1)/\x9 (n23 + 1) w42/\x10 (n23 + 1) w42 < x10 n23 w31)/\new w34 (oC [iI n23] 3) λk70 w43=>I7 w43/\aU Proofs.Tryz.prog (Instr.lookup 160 (Value.map o31) (iI n27) false) w43 λv6 w44=>∃ o34 k71 k72,v6 = vS o34 k71 k72/\I7 w44/\rS (jT 24 (Array.mk [vS o34 k71 k72,vS (some (aM k70)) 1 1])) w44 λv7 w45=>∃ o35 k73 k74,v7 = vS o35 k73 k74/\I7 w45/\aU Proofs.Tryz.prog (Instr.mapUpdate 160 (Value.map o30) (iI n26) (vS o35 k73 k74)) w45 λ(x12:Unit) (w46:Ws)=>aw (n23 + 1)/\x9 (n23 + 1) w46/\x10 (n23 + 1) w46 < x10 n23 w31) (aw (n23 + 1)/\x9 (n23 + 1) w33/\x10 (n23 + 1) w33 < x10 n23 w31)) (R (vU [vP (some (aM k26)),iI 0]) w31))))):ay Tryz.prog 104 [(.agg #[(.slice a b c),(.slice d e f),(.slice g i j),(.int .i64 k),(.slice l m n)])] w R:=rv Tryz.func104 BK (by kernel_rfl) h
abbrev qD:FuncId:=105
def om:bh:={ rngs:=[],loops:=[(2,[(1,(.one (.int .i64))),(13,(.one (.int .i64)))])],joins:=[],blocks:=[] }
theorem oq {a:Wr} {b:Int} {c:Wr} {d e:Nat} {f:FuncId} {g:List Value} {w:Ws} {R:Value->WP} (h:∃ (x1:lP [(1,aD),(13,aD)]),∃ (x2:lN [(1,aD),(13,aD)]),x1 b 0 w/\∀ (I1:Nat->Value) (n1 n2:Int) (w1:Ws),x1 n1 n2 w1->br (decide (n2 < (d:Int))) (idx c d n2 1 λa1=>∃ n3,cL w1 a1 (iI n3)/\uI (Proofs.YtndaepmjkbmjmaaGreatDoor.Fn f) (rE f (iI n1 :: iI n2 :: g) w1 λv1 w2=>v1 = vU []/\nn a λa2=>∃ o1,cL w2 (Addr.add a2 10) (Value.map o1)/\aU Proofs.Tryz.prog (Instr.lookup 180 (Value.map o1) (vG [iI n1,iI n3]) false) w2 λv2 w3=>∃ n4,v2 = iI n4/\aw (n4 - 1)/\aw (n2 + 1)/\x1 (n4 - 1) (n2 + 1) w3/\x2 (n4 - 1) (n2 + 1) w3 < x2 n1 n2 w1)) (R (iI n1) w1)):ay Tryz.prog 105 [(.pointer a),(.int .i64 b),(.slice c d e),(.func (.func f) #[] ⟨g⟩)] w R:=rv Tryz.func105 om (by kernel_rfl) h
def ot:bh:={ rngs:=[],loops:=[],joins:=[],blocks:=[] }
theorem ou {a b:Int} {w:Ws} {R:Value->WP} (h:R (vU []) w):ay Tryz.prog 106 [(.int .i64 a),(.int .i64 b)] w R:=rv Tryz.func106 ot (by kernel_rfl) h
abbrev kZ:FuncId:=159
def xc:bh:={ rngs:=[],loops:=[],joins:=[],blocks:=[] }
theorem xd {a:Wr} {b c:Nat} {d:Wr} {e f:Nat} {g:Wr} {i j:Nat} {k:Int} {l:Wr} {m n:Nat} {w:Ws} {R:Value->WP} (h:new w (oC [vS a b c,vS d e f,vS g i j,iI k,vS l m n] 27) λk1 w1=>∃ o1 k2 k3 o2 k4 k5 o3 k6 k7 n1 o4 k8 k9,rA w1 (aM k1) 5 [vS o1 k2 k3,vS o2 k4 k5,vS o3 k6 k7,iI n1,vS o4 k8 k9]/\rE 104 [vG [vS o1 k2 k3,vS o2 k4 k5,vS o3 k6 k7,iI n1,vS o4 k8 k9]] w1 λv1 w2=>∃ o5 n2,v1 = vU [vP o5,iI n2]/\new w2 (oC [vP none] 175) λk10 w3=>st1 w3 (aM k10) (vP o5) λw4=>br (n2 != 0) (R (vU [vS none 0 0,iI n2]) w4) (∃ o6,cL w4 (aM k10) (vP o6)/\rE 203 [vP o6,Value.func (Fn.func 204) (Array.mk []) (Array.mk [vP (some (aM k10)),vP (some (aM k1))])] w4 λv2 w5=>∃ o7 k11 k12,v2 = vS o7 k11 k12/\R (vU [vS o7 k11 k12,iI 0]) w5)):ay Tryz.prog 159 [(.agg #[(.slice a b c),(.slice d e f),(.slice g i j),(.int .i64 k),(.slice l m n)])] w R:=rv Tryz.func159 xc (by kernel_rfl) h
abbrev iE:FuncId:=161
def sE:bh:={ rngs:=[],loops:=[],joins:=[],blocks:=[] }
theorem sF {a:Wr} {b c:Nat} {d:Wr} {e f:Nat} {g:Wr} {i j:Nat} {k:Int} {l:Wr} {m n:Nat} {w:Ws} {R:Value->WP} (h:new w (oC [vS a b c,vS d e f,vS g i j,iI k,vS l m n] 27) λk1 w1=>∃ o1 k2 k3 o2 k4 k5 o3 k6 k7 n1 o4 k8 k9,rA w1 (aM k1) 5 [vS o1 k2 k3,vS o2 k4 k5,vS o3 k6 k7,iI n1,vS o4 k8 k9]/\rE 104 [vG [vS o1 k2 k3,vS o2 k4 k5,vS o3 k6 k7,iI n1,vS o4 k8 k9]] w1 λv1 w2=>∃ o5 n2,v1 = vU [vP o5,iI n2]/\new w2 (oC [vP none] 175) λk10 w3=>st1 w3 (aM k10) (vP o5) λw4=>br (n2 != 0) (R (vU [vS none 0 0,iI n2]) w4) (∃ o6,cL w4 (aM k10) (vP o6)/\rE 203 [vP o6,Value.func (Fn.func 205) (Array.mk []) (Array.mk [vP (some (aM k10)),vP (some (aM k1))])] w4 λv2 w5=>∃ o7 k11 k12,v2 = vS o7 k11 k12/\R (vU [vS o7 k11 k12,iI 0]) w5)):ay Tryz.prog 161 [(.agg #[(.slice a b c),(.slice d e f),(.slice g i j),(.int .i64 k),(.slice l m n)])] w R:=rv Tryz.func161 sE (by kernel_rfl) h
abbrev sG:FuncId:=203
def pq:bh:={ rngs:=[],loops:=[(4,[(18,(.one (.int .i64)))])],joins:=[],blocks:=[] }
theorem py {a:Wr} {b:FuncId} {c:List Value} {w:Ws} {R:Value->WP} (h:nn a λa1=>∃ o1 k1 k2,cL w (Addr.add a1 8) (vS o1 k1 k2)/\Dc (k1:Int) (k1:Int) 24/\new w (Obj.cells (Array.mk (lD (Int.toNat (k1:Int)) [vS none 0 0])) 24) λk3 w1=>new w1 (oC [vS none 0 0] 71) λk4 w2=>st1 w2 (aM k4) (vS (some (aM k3)) (Int.toNat (k1:Int)) (Int.toNat (k1:Int))) λw3=>uI (Proofs.YtndaepmjkbmjmaaGreatDoor.Fn b) (rE b (Value.func (Fn.func 239) (Array.mk []) (Array.mk [vP (some (aM k4))]) :: c) w3 λv1 w4=>v1 = vU []/\∃ o2 k5 k6,cL w4 (aM k4) (vS o2 k5 k6)/\∃ (x1:lP [(18,aD)]),∃ (x2:lN [(18,aD)]),x1 0 w4/\∀ (I1:Nat->Value) (n1:Int) (w5:Ws),x1 n1 w5->br (decide (n1 < (k5:Int))) (∃ o3 k7 k8,cL w5 (aM k4) (vS o3 k7 k8)/\idx o3 k7 n1 1 λa2=>∃ o4 k9 k10,cL w5 a2 (vS o4 k9 k10)/\rE 53 [vS o4 k9 k10] w5 λv2 w6=>v2 = vU []/\∀ w7,drawn w6 w7->∃ (I2:WP),I2 w7/\∃ o5 k11 k12,(∀ w8,I2 w8->cL w8 (aM k4) (vS o5 k11 k12))/\∃ o6 k13 k14,(∀ w9,I2 w9->cL w9 (aM k4) (vS o6 k13 k14))/\idx o6 k13 n1 1 λa3=>∃ o7 k15 k16,(∀ w10,I2 w10->cL w10 a3 (vS o7 k15 k16))/\rE 240 [vS o7 k15 k16] w7 λv3 w11=>∃ o8 k17 k18,v3 = vS o8 k17 k18/\I2 w11/\rE 107 [vS o8 k17 k18] w11 λv4 w12=>∃ o9 k19 k20,v4 = vS o9 k19 k20/\I2 w12/\idx o5 k11 n1 1 λa4=>st1 w12 a4 (vS o9 k19 k20) λw13=>aw (n1 + 1)/\x1 (n1 + 1) w13/\x2 (n1 + 1) w13 < x2 n1 w5) (∃ o10 k21 k22,cL w5 (aM k4) (vS o10 k21 k22)/\R (vS o10 k21 k22) w5))):ay Tryz.prog 203 [(.pointer a),(.func (.func b) #[] ⟨c⟩)] w R:=rv Tryz.func203 pq (by kernel_rfl) h
abbrev vF:FuncId:=204
def sI:bh:={ rngs:=[],loops:=[(1,[(14,(.one (.int .i64)))]),(5,[(36,(.one (.int .i64)))])],joins:=[],blocks:=[] }
theorem sJ {a:FuncId} {b:List Value} {c d:Addr} {w:Ws} {R:Value->WP} (h:∃ o1,cL w c (vP o1)/\nn o1 λa1=>∃ o2 k1 k2,cL w (Addr.add a1 8) (vS o2 k1 k2)/\∃ (x1:lP [(14,aD)]),∃ (x2:lN [(14,aD)]),x1 0 w/\∀ (I1:Nat->Value) (n1:Int) (w1:Ws),x1 n1 w1->br (decide (n1 < (k1:Int))) (idx o2 k1 n1 2 λa2=>∃ n2 n3,rA w1 a2 2 [iI n2,iI n3]/\new w1 (oC [iI 0,iI 0] 184) λk3 w2=>cG w2 (aM k3) [iI n2,iI n3] λw3=>∀ w4,drawn w3 w4->∃ (I2:WP),I2 w4/\∃ o3,(∀ w5,I2 w5->cL w5 c (vP o3))/\nn o3 λa3=>∃ o4,(∀ w6,I2 w6->cL w6 (Addr.add a3 10) (Value.map o4))/\∃ n4 n5,(∀ w7,I2 w7->rA w7 (aM k3) 2 [iI n4,iI n5])/\aU Proofs.Tryz.prog (Instr.lookup 180 (Value.map o4) (vG [iI n4,iI n5]) false) w4 λv1 w8=>∃ n6,v1 = iI n6/\I2 w8/\aw (n6 - 1)/\∃ o5,cL w8 c (vP o5)/\nn o5 λa4=>∃ o6 k4 k5,cL w8 (Addr.add a4 5) (vS o6 k4 k5)/\idx o6 k4 (n6 - 1) 2 λa5=>∃ o7 k6 k7,cL w8 (Addr.add a5 1) (vS o7 k6 k7)/\∃ (x3:lP [(36,aD)]),∃ (x4:lN [(36,aD)]),x3 0 w8/\∀ (I3:Nat->Value) (n7:Int) (w9:Ws),x3 n7 w9->br (decide (n7 < (k6:Int))) (idx o7 k6 n7 2 λa6=>∃ n8 n9,rA w9 a6 2 [iI n8,iI n9]/\new w9 (oC [iI 0,iI 0] 56) λk8 w10=>cG w10 (aM k8) [iI n8,iI n9] λw11=>∀ w12,drawn w11 w12->∃ (I4:WP),I4 w12/\∃ n10,(∀ w13,I4 w13->cL w13 (aM k8) (iI n10))/\∃ o8 k9 k10,(∀ w14,I4 w14->cL w14 d (vS o8 k9 k10))/\br (decide ((k9:Int)<=n10)) (∃ o9,(∀ w15,I4 w15->cL w15 c (vP o9))/\nn o9 λa7=>∃ o10 k11 k12,(∀ w16,I4 w16->cL w16 (Addr.add a7 11) (vS o10 k11 k12))/\∃ n11,(∀ w17,I4 w17->cL w17 (aM k8) (iI n11))/\∃ o11 k13 k14,(∀ w18,I4 w18->cL w18 d (vS o11 k13 k14))/\aw (n11 - (k13:Int))/\idx o10 k11 (n11 - (k13:Int)) 1 λa8=>∃ b1,(∀ w19,I4 w19->cL w19 a8 (vB b1))/\br b1 (∀ w20,drawn w12 w20->∃ (I5:WP),I5 w20/\∃ o12,(∀ w21,I5 w21->cL w21 c (vP o12))/\nn o12 λa9=>∃ o13,(∀ w22,I5 w22->cL w22 (Addr.add a9 9) (Value.map o13))/\∃ n12,(∀ w23,I5 w23->cL w23 (aM k8) (iI n12))/\aU Proofs.Tryz.prog (Instr.lookup 180 (Value.map o13) (vG [iI (n6 - 1),iI n12]) false) w20 λv2 w24=>∃ n13,v2 = iI n13/\I5 w24/\aw (n13 - 1)/\uI (Proofs.YtndaepmjkbmjmaaGreatDoor.Fn a) (rE a (iI n1 :: iI (n13 - 1) :: b) w24 λv3 w25=>v3 = vU []/\aw (n7 + 1)/\x3 (n7 + 1) w25/\x4 (n7 + 1) w25 < x4 n7 w9)) (aw (n7 + 1)/\x3 (n7 + 1) w12/\x4 (n7 + 1) w12 < x4 n7 w9)) (aw (n7 + 1)/\x3 (n7 + 1) w12/\x4 (n7 + 1) w12 < x4 n7 w9)) (aw (n1 + 1)/\x1 (n1 + 1) w9/\x2 (n1 + 1) w9 < x2 n1 w1)) (R (vU []) w1)):ay Tryz.prog 204 [(.func (.func a) #[] ⟨b⟩),(.pointer (some c)),(.pointer (some d))] w R:=rv Tryz.func204 sI (by kernel_rfl) h
abbrev qE:FuncId:=205
def ox:bh:={ rngs:=[],loops:=[(2,[(14,(.one (.int .i64)))]),(5,[(27,(.one (.int .i64)))])],joins:=[],blocks:=[] }
theorem oy {a:FuncId} {b:List Value} {c d:Addr} {w:Ws} {R:Value->WP} (h:new w (oC [Value.func (Fn.func a) (Array.mk []) (Array.mk b)] 186) λk1 w1=>∃ o1,cL w1 c (vP o1)/\nn o1 λa1=>∃ o2 k2 k3,cL w1 (Addr.add a1 8) (vS o2 k2 k3)/\∃ (x1:lP [(14,aD)]),∃ (x2:lN [(14,aD)]),x1 0 w1/\∀ (I1:Nat->Value) (n1:Int) (w2:Ws),x1 n1 w2->br (decide (n1 < (k2:Int))) (idx o2 k2 n1 2 λa2=>∃ n2 n3,rA w2 a2 2 [iI n2,iI n3]/\new w2 (oC [iI 0] 3) λk4 w3=>new w3 (oC [iI 0,iI 0] 184) λk5 w4=>st1 w4 (aM k4) (iI n1) λw5=>cG w5 (aM k5) [iI n2,iI n3] λw6=>∀ w7,drawn w6 w7->∃ (I2:WP),I2 w7/\∃ o3,(∀ w8,I2 w8->cL w8 c (vP o3))/\nn o3 λa3=>∃ o4,(∀ w9,I2 w9->cL w9 (Addr.add a3 12) (Value.map o4))/\∃ n4,(∀ w10,I2 w10->cL w10 (Addr.add (aM k5) 1) (iI n4))/\aU Proofs.Tryz.prog (Instr.lookup 160 (Value.map o4) (iI n4) false) w7 λv1 w11=>∃ o5 k6 k7,v1 = vS o5 k6 k7/\I2 w11/\∃ (x3:lP [(27,aD)]),∃ (x4:lN [(27,aD)]),x3 0 w11/\∀ (I3:Nat->Value) (n5:Int) (w12:Ws),x3 n5 w12->br (decide (n5 < (k6:Int))) (idx o5 k6 n5 1 λa4=>∃ n6,cL w12 a4 (iI n6)/\∃ o6 k8 k9,cL w12 (Addr.add d 4) (vS o6 k8 k9)/\idx o6 k8 n6 3 λa5=>∃ o7 k10 k11,cL w12 (Addr.add a5 1) (vS o7 k10 k11)/\new w12 (oC [vS none 0 0] 24) λk12 w13=>st1 w13 (aM k12) (vS o7 k10 k11) λw14=>∃ o8,cL w14 c (vP o8)/\∃ n7,cL w14 (aM k5) (iI n7)/\∃ o9 k13 k14,cL w14 (aM k12) (vS o9 k13 k14)/\rE 105 [vP o8,iI n7,vS o9 k13 k14,Value.func (Fn.func 206) (Array.mk []) (Array.mk [vP (some c),vP (some (aM k12)),vP (some (aM k1)),vP (some (aM k4))])] w14 λv2 w15=>∃ n8,v2 = iI n8/\aw (n5 + 1)/\x3 (n5 + 1) w15/\x4 (n5 + 1) w15 < x4 n5 w12) (aw (n1 + 1)/\x1 (n1 + 1) w12/\x2 (n1 + 1) w12 < x2 n1 w2)) (R (vU []) w2)):ay Tryz.prog 205 [(.func (.func a) #[] ⟨b⟩),(.pointer (some c)),(.pointer (some d))] w R:=rv Tryz.func205 ox (by kernel_rfl) h
abbrev nF:FuncId:=206
def lO:bh:={ rngs:=[],loops:=[],joins:=[],blocks:=[] }
theorem lQ {a b:Int} {c d e f:Addr} {w:Ws} {R:Value->WP} (h:∀ w1,drawn w w1->∃ (I1:WP),I1 w1/\∃ o1,(∀ w2,I1 w2->cL w2 c (vP o1))/\nn o1 λa1=>∃ o2,(∀ w3,I1 w3->cL w3 (Addr.add a1 9) (Value.map o2))/\∃ o3 k1 k2,(∀ w4,I1 w4->cL w4 d (vS o3 k1 k2))/\idx o3 k1 b 1 λa2=>∃ n1,(∀ w5,I1 w5->cL w5 a2 (iI n1))/\aU Proofs.Tryz.prog (Instr.lookup 180 (Value.map o2) (vG [iI a,iI n1]) false) w1 λv1 w6=>∃ n2,v1 = iI n2/\I1 w6/\∀ w7,drawn w6 w7->∃ (I2:WP),I2 w7/\br (decide (0 < n2)) (∃ o4,(∀ w8,I2 w8->cL w8 c (vP o4))/\∃ o5 k3 k4,(∀ w9,I2 w9->cL w9 d (vS o5 k3 k4))/\aw (b + 1)/\lV o5 k3 k4 (some (b + 1)) none none 1 λ(o6:Wr) (k5 k6:Nat)=>rE 207 [vP o4,vS o6 k5 k6] w7 λv2 w10=>∃ b1,v2 = vB b1/\I2 w10/\br b1 (∃ g1 x1,cL w10 e (Value.func (Fn.func g1) (Array.mk []) (Array.mk x1))/\aw (n2 - 1)/\∃ n3,cL w10 f (iI n3)/\uI (Proofs.YtndaepmjkbmjmaaGreatDoor.Fn g1) (rE g1 (iI (n2 - 1) :: iI n3 :: x1) w10 λv3 w11=>v3 = vU []/\R (vU []) w11)) (R (vU []) w10)) (R (vU []) w7)):ay Tryz.prog 206 [(.int .i64 a),(.int .i64 b),(.pointer (some c)),(.pointer (some d)),(.pointer (some e)),(.pointer (some f))] w R:=rv Tryz.func206 lO (by kernel_rfl) h
abbrev nG:FuncId:=207
def lR:bh:={ rngs:=[],loops:=[],joins:=[],blocks:=[] }
theorem lT {a b:Wr} {c d:Nat} {w:Ws} {R:Value->WP} (h:new w (oC [vP a] 175) λk1 w1=>rE 209 [vS b c d,Value.func (Fn.func 241) (Array.mk []) (Array.mk [vP (some (aM k1))])] w1 λv1 w2=>∃ b1,v1 = vB b1/\R (vB !b1) w2):ay Tryz.prog 207 [(.pointer a),(.slice b c d)] w R:=rv Tryz.func207 lR (by kernel_rfl) h
abbrev a_:FuncId:=239
def mA:bh:={ rngs:=[],loops:=[],joins:=[],blocks:=[] }
theorem mB {a b:Int} {c:Addr} {w:Ws} {R:Value->WP} (h:∀ w1,drawn w w1->∃ (I1:WP),I1 w1/\∃ o1 k1 k2,(∀ w2,I1 w2->cL w2 c (vS o1 k1 k2))/\∃ o2 k3 k4,(∀ w3,I1 w3->cL w3 c (vS o2 k3 k4))/\idx o2 k3 a 1 λa1=>∃ o3 k5 k6,(∀ w4,I1 w4->cL w4 a1 (vS o3 k5 k6))/\new w1 (oC [iI b] 3) λk7 w5=>I1 w5/\rS (jT 24 (Array.mk [vS o3 k5 k6,vS (some (aM k7)) 1 1])) w5 λv1 w6=>∃ o4 k8 k9,v1 = vS o4 k8 k9/\I1 w6/\idx o1 k1 a 1 λa2=>st1 w6 a2 (vS o4 k8 k9) λw7=>R (vU []) w7):ay Tryz.prog 239 [(.int .i64 a),(.int .i64 b),(.pointer (some c))] w R:=rv Tryz.func239 mA (by kernel_rfl) h
abbrev fj:FuncId:=241
def jP:bh:={ rngs:=[],loops:=[],joins:=[],blocks:=[] }
theorem jQ {a:Int} {b:Addr} {w:Ws} {R:Value->WP} (h:∀ w1,drawn w w1->∃ (I1:WP),I1 w1/\∃ o1,(∀ w2,I1 w2->cL w2 b (vP o1))/\nn o1 λa1=>∃ o2 k1 k2,(∀ w3,I1 w3->cL w3 a1 (vS o2 k1 k2))/\br (decide (a < (k1:Int))) (R (vB true) w1) (∃ o3,(∀ w4,I1 w4->cL w4 b (vP o3))/\nn o3 λa2=>∃ o4 k3 k4,(∀ w5,I1 w5->cL w5 (Addr.add a2 11) (vS o4 k3 k4))/\∃ o5,(∀ w6,I1 w6->cL w6 b (vP o5))/\nn o5 λa3=>∃ o6 k5 k6,(∀ w7,I1 w7->cL w7 a3 (vS o6 k5 k6))/\aw (a - (k5:Int))/\idx o4 k3 (a - (k5:Int)) 1 λa4=>∃ b1,(∀ w8,I1 w8->cL w8 a4 (vB b1))/\R (vB !b1) w1)):ay Tryz.prog 241 [(.int .i64 a),(.pointer (some b))] w R:=rv Tryz.func241 jP (by kernel_rfl) h
end Go.Proofs.YtndaepmjkbmjmaaGreatDoor
namespace Go.V
theorem Ed:∀ (l:List Int) (a b:Int),dd (l ++ [a,b]) = if a = b then dd (l ++ [a]) else dd (l ++ [a]) ++ [b]
 | [],a,b=>by
  by_cases h:a = b
  ·subst h; simp [dd]
  ·simp [dd,h]
 | [x],a,b=>by
  have:=Ed [] a b
  simp only [Ve] at this
  by_cases h:a = b
  ·subst h; simp [dd]
  ·by_cases h2:x = a
   ·subst h2; simp [dd,h]
   ·simp [dd,h,h2]
 | x :: y :: l,a,b=>by
  have ih:=Ed (y :: l) a b
  have e1:dd (x :: y :: l ++ [a,b]) = if x = y then dd (y :: l ++ [a,b]) else x :: dd (y :: l ++ [a,b]):=rfl
  have e2:dd (x :: y :: l ++ [a]) = if x = y then dd (y :: l ++ [a]) else x :: dd (y :: l ++ [a]):=rfl
  rw [e1,e2,ih]
  by_cases h:a = b <;> by_cases h2:x = y <;> simp [h,h2]
theorem zi {xs:List Int} {m:Nat} {a b:Int} (ha:xs[m]? = some a) (hb:xs[m + 1]? = some b):dd (xs.take (m + 2)) = if a = b then dd (xs.take (m + 1)) else dd (xs.take (m + 1)) ++ [b]:=by
 have e1:xs.take (m + 1) = xs.take m ++ [a]:=by rw [UI,ha]; rfl
 have e2:xs.take (m + 2) = xs.take m ++ [a,b]:=by rw [UI,hb,e1]; simp
 rw [e2,e1,Ed]
theorem Np {xs:List Int} {n:Nat} (h:n<=1):dd (xs.take n) = xs.take n:=by
 match n,h with
 | 0,_=>simp [dd]
 | 1,_=>cases xs <;> simp [dd]
end Go.V
namespace Go.Proofs.YtndaepmjkbmjmaaGreatDoor
open Go.V Go.Sort Go.Shelf
variable {w:Ws} {L:List au} {a:Wr} {l c:Nat} {xs:List Int}
theorem H0 (h:St w (own 1 a l c (iv xs) :: L)) (hb:l < 4611686018427387904) :
  ay Tryz.prog lM [.slice a l c] w λv w'=>∃ a' c',v = .slice a' (dd xs).length c'/\St w' (own 1 a' (dd xs).length c' (iv (dd xs)) :: L):=by
 have hln:=ir h
 rw [iW] at hln
 have hlc:=dj h
 have hl:xs.length = l:=by omega
 refine kq (aa (λh1=>?_) λh1=>?_)
 ·have h1:l < 2:=by have:=Uz h1; omega
  have e:dd xs = xs:=by have:=Np (xs:=xs) (n:=l) (by omega); rwa [UX (by omega)] at this
  rw [e,hl]; exact ⟨a,c,rfl,h⟩
 have h1:2<=l:=by have:=Uy h1; omega
 refine ⟨λz w'=>∃ n:Nat,z = ((n + 1:Nat):Int)/\n + 1<=l/\dd (xs.take (n + 1)) = xs.take (n + 1)/\St w' (own 1 a l c (iv xs) :: L),λz _=>l - z.toNat,⟨0,rfl,by omega,Np (US _),h⟩,?_⟩
 clear h
 rintro _ z w1 ⟨n,rfl,hn,hS,h⟩
 refine aa (λh2=>?_) λh2=>?_
 rotate_left
 ·have h2:l = n + 1:=by have:=Uy h2; omega
  have e:dd xs = xs:=by rwa [UX (by omega)] at hS
  rw [e,hl]; exact ⟨a,c,rfl,h⟩
 have h2:n + 1 < l:=by have:=Uz h2; omega
 intro w2 hd
 have h:=h.eq (aE hd)
 have hr:aX (hp w2) xs a l:=dO hl (ee 0 h.l)
 obtain ⟨x,ad,hx,rfl,cx⟩:=hr.dM h2
 obtain ⟨z,ad2,hz,e2,cz⟩:=hr.dM (by omega:n < l)
 cases e2
 have e1:((n + 1:Nat):Int) - 1 = (n:Int):=by omega
 rw [e1]
 refine ⟨λu=>Gr w2 u,Gr.refl _,aB rfl h2 ⟨x,λu s=>cx u s,⟨by omega,by omega⟩,aB rfl (by omega) ⟨z,λu s=>cz u s,aa (λh3=>?_) λh3=>?_⟩⟩⟩
 rotate_left
 ·have h3:x≠z:=by simpa using h3
  refine ⟨⟨by omega,by omega⟩,⟨n + 1,by simp,h2,?_,h⟩,bK h2⟩
  rw [zi hz hx,UE (Ne.symm h3),hS,UI (i:=n + 1),hx]; rfl
 have h3:x = z:=by simpa using h3
 subst h3
 refine cO (by omega) hlc ?_
 refine ⟨λz y w'=>∃ (k t:Nat) (us:List Int),z = (k:Int)/\y = ((t + 1:Nat):Int)/\n + 1<=k/\k<=n + 1 + t/\n + 1 + t + 1<=l/\us.length = l/\us.drop k = xs.drop k/\us.take k = dd (xs.take (n + 1 + t + 1))/\St w' (own 1 (some ad) l c (iv us) :: L),λ_ y _=>l - y.toNat,
  ⟨n + 1,0,xs,rfl,rfl,US _,US _,by omega,hl,rfl,?_,h⟩,?_⟩
 ·rw [show n + 1 + 0 + 1 = n + 2 by omega,zi hz hx,UJ rfl,hS]
 clear h hr cx cz
 rintro _ _ _ w3 ⟨k,t,us,rfl,rfl,hk1,hk2,ht,hul,hud,hut,h⟩
 have hul2:(iv us).length = l:=by rw [iW,hul]
 refine aa (λh3=>?_) λh3=>?_
 rotate_left
 ·have h3:l = n + 1 + t + 1:=by have:=Uy h3; omega
  rw [<- h3,UX (show xs.length<=l by omega)] at hut
  have hkl:(dd xs).length = k:=by rw [<- hut,U0]; omega
  have hc:=Cr (ty:=0) (c2:=c - k) aL (rfl:ah Ty Ms = .slice _) (rfl:Ty cT = some _) rfl rfl (λv hv=>by rcases UR.1 hv with rfl | hv; rfl; cases hv) (by show 0 < 1; decide) h (show k<=l by omega)
  refine cO (by omega) hlc (hc.mono ?_)
  rintro _ w4 ⟨vs,hv,h⟩
  refine l9 (by omega) ?_
  have h:=za h (k:=k) (by omega)
  have e:vs.take (k * 1) = iv (dd xs):=hv.trans (by rw [<- hut]; show (iv us).take (k * 1) = _; rw [VA]; unfold iv; rw [List.map_take])
  rw [hkl]
  exact ⟨_,_,rfl,by rw [<- e]; exact h⟩
 have h3:t + 1 < l - (n + 1):=by have:=Uz h3; omega
 intro w4 hd
 have h:=h.eq (aE hd)
 have hr:=(dO hul (ee 0 h.l):aX (hp w4) us (some ad) l).drop (k:=n + 1) (m:=c) (by omega) hlc
 have same:∀ j,k<=j->us[j]? = xs[j]?:=λj hj=>by
  have:=congrArg (λl=>l[j - k]?) hud
  simp only [Vb] at this
  rwa [show k + (j - k) = j by omega] at this
 obtain ⟨x2,ad3,hx2,e3,cx⟩:=hr.dM h3
 obtain ⟨z2,ad4,hz2,e4,cz⟩:=hr.dM (by omega:t < l - (n + 1))
 rw [e3] at e4
 cases e4
 rw [Vb,same _ (by omega)] at hx2 hz2
 have e1:((t + 1:Nat):Int) - 1 = (t:Int):=by omega
 have hx3:xs[n + 1 + t + 1]? = some x2:=by rw [<- hx2]; congr 1
 have hz3:xs[n + 1 + t]? = some z2:=by rw [<- hz2]
 rw [e1]
 refine ⟨λu=>Gr w4 u,Gr.refl _,aB e3 h3 ⟨x2,λu s=>cx u s,⟨by omega,by omega⟩,aB e3 (by omega) ⟨z2,λu s=>cz u s,aa (λh4=>?_) λh4=>?_⟩⟩⟩
 rotate_left
 ·have h4:x2 = z2:=by simpa using h4
  subst h4
  refine ⟨⟨by omega,by omega⟩,⟨k,t + 1,us,rfl,by simp,hk1,by omega,by omega,hul,hud,?_,h⟩,bK (by omega)⟩
  rw [hut,show n + 1 + (t + 1) + 1 = n + 1 + t + 2 by omega,zi hz3 hx3,UJ rfl]
 have h4:x2≠z2:=by simpa using h4
 refine aB e3 h3 ⟨x2,cx _ (Gr.refl _),aB rfl (by omega) ?_⟩
 refine j4 h rfl (by rw [hul2]; omega) λw5 h=>?_
 rw [zb] at h
 refine ⟨⟨by omega,by omega⟩,⟨by omega,by omega⟩,⟨k + 1,t + 1,us.set k x2,by simp,by simp,by omega,by omega,by omega,by rw [Vj,hul],?_,?_,h⟩,bK (by omega)⟩
 ·rw [List.drop_set_of_lt (by omega),<- List.drop_drop (i:=1),hud,List.drop_drop]
 ·have hku:k < us.length:=by omega
  rw [show n + 1 + (t + 1) + 1 = n + 1 + t + 2 by omega,zi hz3 hx3,UE (Ne.symm h4),<- hut,UI,List.getElem?_set_self hku,List.take_set_of_le (US _)]
  rfl
end Go.Proofs.YtndaepmjkbmjmaaGreatDoor
namespace Go.V
open MapKept
section
variable {κ : Type} [DecidableEq κ] [MVal κ] {P:Program} {w:Ws} {L:List au} {Ty:TypeId->Option cB}
theorem rU (k:κ) (u v:Value):∀ m:List (κ × Value),bA k v (bA k u m) = bA k v m
 | []=>by simp [bA]
 | (a,x) :: m=>by
  unfold bA
  by_cases h:k = a
  ·subst h; simp [bA]
  ·have e:bA k u ((a,x) :: m) = (a,x) :: bA k u m:=by show (if k = a then _ else _) = _; rw [UE h]
   rw [e,UE h]
   show (if k = a then _ else (a,x) :: bA k v (bA k u m)) = _
   rw [UE h,rU k u v m]
theorem QP {k:κ} {u:Value}:∀ {m:List (κ × Value)} {j:Nat},assoc k m = some u->(m[j]?).map (·.1) = some k->(∀ v,bA k v m = m.set j (k,v))->m[j]? = some (k,u)
 | [],j,h,_,_=>by cases h
 | (a,x) :: m,0,h,hk,hp=>by
  simp at hk; subst hk
  simp [assoc] at h; subst h
  rfl
 | (a,x) :: m,j + 1,h,hk,hp=>by
  by_cases e:k = a
  ·subst e
   have h1:=hp (.bool true)
   have h2:=hp (.bool false)
   simp [bA] at h1 h2
   have h3:=h1.1.trans h2.1.symm
   cases h3
  ·have e1:assoc k ((a,x) :: m) = assoc k m:=by show (if k = a then _ else _) = _; rw [UE e]
   rw [e1] at h
   rw [Wg] at hk ⊢
   refine QP h hk λv=>?_
   have h1:=hp v
   simpa [bA,e] using h1
def RR (b:Nat) (m:List (κ × Value)) (k:κ) (n:Int):au:=λh=>∃ es clock i,h b = some (.map es clock)/\tp es clock m/\i < m.length/\(∀ u,bA k u m = m.set i (k,u))/\(m[i]?).map (·.1) = some k/\(es[i]?).map (λe=>(e.born:Int)) = some n
theorem Ee {b:Nat} {m:List (κ × Value)} {k:κ} {n:Int}:St w (RR b m k n :: L)↔∃ es clock i,tp es clock m/\i < m.length/\(∀ u,bA k u m = m.set i (k,u))/\(m[i]?).map (·.1) = some k/\(es[i]?).map (λe=>(e.born:Int)) = some n/\St w (blk b (.map es clock) :: L) :=
 ⟨λ⟨h1,h2,d,s1,s2,⟨es,cl,i,ha,q1,q2,q3,q4,q5⟩,hl⟩=>⟨es,cl,i,q1,q2,q3,q4,q5,h1,h2,d,s1,s2,ha,hl⟩,λ⟨es,cl,i,q1,q2,q3,q4,q5,h1,h2,d,s1,s2,ha,hl⟩=>⟨h1,h2,d,s1,s2,⟨es,cl,i,ha,q1,q2,q3,q4,q5⟩,hl⟩⟩
theorem H2 {b:Nat} {es:Array MapEntry} {cl:Nat} (hg:w.heap[b]? = some (.map es cl)) (o:Array MapEntry × Nat):Ev w { w with heap:=w.heap.setIfInBounds b (.map o.1 o.2) }:=by
 refine ⟨rfl,rfl,rfl,by simp,?_,?_⟩ <;>
 ·intro x d hx
  rw [VJ]; exact hx
  intro e; subst e; rw [hg] at hx; cases hx
theorem map_take (hT:di P Ty) {t kt et:TypeId} {i:cB} {z:Value} (hk:ah Ty t = .map kt et) (hkt:qi P kt κ) (hi:Ty et = some i) (hz:i.zero = some z) {b:Nat} {m:List (κ × Value)} (h:St w (mapA b m :: L)) (k:κ) :
  aU P (Instr.mapEntry t (.map (some b)) (MVal.val k)) w λv w'=>∃ n:Int,v = .tuple #[(assoc k m).getD z,.int .i64 n]/\St w' (RR b (bA k ((assoc k m).getD z) m) k n :: L):=by
 obtain ⟨d,hd,hd'⟩:=cD hT hk (by simp)
 rw [vd hd'] at hd
 obtain ⟨es,cl,⟨he,hnd,hlt⟩,h⟩:=je.1 h
 obtain ⟨r,hf,q2,q3,q4⟩:=hkt.find w k es.toList m he
 obtain ⟨info,d2,ha⟩:=mP hT hi
 have hzz:(zeroValue et).run P w = .ok z w:=ji ha.inf (by rw [<- ha.zero,hz])
 have hg:=h.get
 have hc:=λe=>hkt.check w e k
 have hlen:es.size = m.length:=by have:=congrArg List.length he; simpa using this
 cases r with
 | none =>
  have e0:assoc k m = none:=by rw [<- q2]; rfl
  rw [e0]
  refine ⟨_,_,?_,H2 hg (es.push { key:=MVal.val k,val:=z,born:=cl },cl + 1),cl,rfl,Ee.2 ⟨_,_,m.length,?_,?_,?_,?_,?_,h.setObj _⟩⟩
  ·unfold Instr.mapEntry
   simp only [Sem.run_bind,aK hd,Result.andThen_ok,run_getObj_map w b es cl hg,hc,hf,hzz]
   rw [run_setObj_map _ hg]
   rfl
  ·refine ⟨by rw [q4 rfl]; simp [he],?_,?_⟩
   ·rw [Array.toList_push,U1,Vg]
    refine ⟨hnd,by simp,λa ha b hb e=>?_⟩
    obtain ⟨x,hx,rfl⟩:=UU.1 ha
    have:=hlt x hx
    simp at hb; omega
   ·intro e he'
    rw [Array.toList_push,UF,U2] at he'
    rcases he' with he' | rfl
    ·have:=hlt e he'; omega
    ·exact Nat.lt_succ_self _
  ·show _ < (bA k z m).length
   rw [q4 rfl]; simp
  ·intro u
   show bA k u (bA k z m) = (bA k z m).set _ _
   rw [rU,q4 rfl u,q4 rfl z]
   simp
  ·show ((bA k z m)[m.length]?).map _ = _
   rw [q4 rfl]; simp
  ·rw [<- hlen]; simp
 | some x =>
  obtain ⟨j,u⟩:=x
  obtain ⟨p2,p3,p4⟩:=q3 j u rfl
  have hj:j < es.size:=by omega
  have e0:assoc k m = some u:=by rw [<- q2]; rfl
  have hmj:m[j]? = some (k,u):=QP e0 p3 p4
  have hput:bA k u m = m:=by
   rw [p4 u]
   exact qo hmj
  have hkey:(es[j]?).map (λe=>(e.key,e.val)) = some (MVal.val k,u):=by
   have h1:=congrArg (λl=>l[j]?) he
   simp only [UD,hmj,VM] at h1
   rw [<- h1]; simp
  obtain ⟨e,hej,hek⟩:=Wj.1 hkey
  have hek1:e.key = MVal.val k:=congrArg Prod.fst hek
  have hk1:((es[j]?).map (·.key)).getD (MVal.val k) = MVal.val k:=by rw [hej]; exact hek1
  have hmod:(es.modify j λe=>{ e with key:=MVal.val k }) = es:=by
   apply Array.ext_getElem?
   intro i
   rw [Vv]
   split
   ·rename_i hji; subst hji
    rw [hej,<- hek1]; rfl
   ·rfl
  rw [e0]
  refine ⟨_,_,?_,H2 hg (es,cl),(e.born:Int),rfl,Ee.2 ⟨_,_,j,?_,?_,?_,?_,?_,h.setObj _⟩⟩
  ·unfold Instr.mapEntry
   simp only [Sem.run_bind,aK hd,Result.andThen_ok,run_getObj_map w b es cl hg,hc,hf,hk1,Instr.keyThatStays,hkt.bits,if_true,Sem.run_pure,hmod]
   rw [run_setObj_map _ hg]
   simp [hej,goInt]
  ·show tp _ _ (bA k u m)
   rw [hput]; exact ⟨he,hnd,hlt⟩
  ·show _ < (bA k u m).length
   rw [hput]; exact p2
  ·intro v
   show bA k v (bA k u m) = (bA k u m).set _ _
   rw [hput,p4 v]
  ·show ((bA k u m)[j]?).map _ = _
   rw [hput,hmj]; rfl
  ·rw [hej]; rfl
theorem F8 {t:TypeId} {b:Nat} {m:List (κ × Value)} {k:κ} {n:Int} (h:St w (RR b m k n :: L)) (x:Value) :
  aU P (Instr.entryStore t (.map (some b)) (.int .i64 n) x) w λ_ w'=>St w' (mapA b (bA k x m) :: L):=by
 obtain ⟨es,cl,i,⟨he,hnd,hlt⟩,hi,hput,hm,hb,h⟩:=Ee.1 h
 have hg:=h.get
 have hlen:es.size = m.length:=by have:=congrArg List.length he; simpa using this
 obtain ⟨e,hei,heb⟩:=Wj.1 hb
 have hidx:es.findIdx? (λe=>(e.born:Int) == n) = some i:=by
  rw [Array.findIdx?_eq_some_iff_getElem]
  refine ⟨by omega,?_,λj hj=>?_⟩
  ·have:=(Vd.1 hei).2
   rw [this,heb]; simp
  ·intro hne
   have hne:(es[j].born:Int) = n:=by simpa using hne
   have h1:(es.toList.map (·.born))[j]? = some es[j].born:=by simp [show j < es.size by omega]
   have h2:(es.toList.map (·.born))[i]? = some e.born:=by rw [UD,Va,hei]; rfl
   have e3:es[j].born = e.born:=by omega
   rw [e3] at h1
   have:=hnd
   have h4:=(List.getElem?_inj (i:=j) (j:=i) (by simp; omega) hnd).1 (by rw [h1,h2])
   omega
 refine ⟨(),_,?_,H2 hg (es.modify i λe=>{ e with val:=x },cl),je.2 ⟨_,_,?_,h.setObj _⟩⟩
 ·unfold Instr.entryStore
  simp only [Sem.run_bind,run_getObj_map w b es cl hg,Result.andThen_ok]
  show ((asInt (.int .i64 n)).run P w).andThen _ = _
  have ha:(asInt (.int .i64 n)).run P w = .ok n w:=rfl
  rw [ha,Result.andThen_ok]
  simp only [hidx]
  exact run_setObj_map _ hg
 ·refine ⟨?_,?_,?_⟩
  rotate_left
  ·have:(es.modify i λe=>{ e with val:=x }).toList.map (·.born) = es.toList.map (·.born):=by
    apply Vq
    intro i
    simp only [UD,Va,Vv]
    split
    ·cases es[i]? <;> rfl
    ·rfl
   rw [this]; exact hnd
  ·intro e he'
   obtain ⟨i,hi⟩:=Vf he'
   rw [Va,Vv] at hi
   split at hi
   ·cases hx:es[i]? with
    | none=>rw [hx] at hi; cases hi
    | some x=>rw [hx] at hi; cases hi; exact hlt x (by rw [<- Va] at hx; exact UC hx)
   ·rw [<- Va] at hi; exact hlt e (UC hi)
  rw [hput x]
  apply Vq
  intro j
  have h1:=congrArg (λl=>l[j]?) he
  simp only [UD,Va] at h1
  simp only [UD,Va,Vv,VC]
  by_cases hij:i = j
  ·subst hij
   rw [hei] at h1 ⊢
   cases hmi:m[i]? with
   | none=>rw [hmi] at hm; cases hm
   | some y =>
    rw [hmi] at h1 hm
    simp only [VM,Option.some.injEq,Prod.mk.injEq] at h1 hm
    simp [hi,h1.1,hm]
  ·simp [hij,h1]
end
theorem av.part {h:Hp} {b:Nat} {vs:List Value} (r:av h ⟨b,0,none⟩ vs) (i n:Nat):av h ((⟨b,0,none⟩ : Addr).add (cR i n)) ((vs.drop (i * n)).take n):=λj v hj=>by
 rw [VK] at hj
 split at hj
 ·rw [Vb] at hj
  rw [add_add,aF]
  exact r _ v hj
 ·cases hj
def RS (g:ae) (e:Int) (nn:List Bool):Prop:=(¬ l8 g/\e = 1/\nn = [])\/(l8 g/\e = 0/\uf g nn)
end Go.V
namespace Go.Proofs.YtndaepmjkbmjmaaGreatDoor
section
variable {w:Ws} {L:List au} {g:ae} {x:GA} {a a2:Wr} {l l2 c c2:Nat} {bs:List Bool} {row:List Int}
theorem F9 (hg:gR (hp w) g x) (hb:iK g) (ht:dG (hp w)):ay Tryz.prog nD [.agg ⟨x.cells⟩] w λv w'=>∃ (o:Wr) (n c:Nat) (e:Int) (nn:List Bool),v = .tuple #[.slice o n c,.int .i64 e]/\nn.length = n/\RS g e nn/\St w' (own 1 o n c (bv nn) :: all w):=by
 refine (HX hg hb ht).mono ?_
 rintro _ w' (⟨h1,rfl,h2⟩ | ⟨h1,k,nl,nn,h2,h3,rfl,h4⟩)
 ·exact ⟨_,_,_,_,[],rfl,rfl,.inl ⟨h1,rfl,rfl⟩,az 1 (bY h2)⟩
 ·refine ⟨_,_,_,_,nn,rfl,h3.1,.inr ⟨h1,rfl,h3⟩,?_⟩
  have e:bv (nl ++ nn) = bv nl ++ (bv nn ++ ([] ++ [])):=by simp [bv]
  rw [e] at h4
  have:=dx (pre:=bv nl) (vs:=bv nn) (cs:=[]) (post:=[]) (l:=g.N) (c:=g.N) (sz:=1) h4 (by rw [Hm,h3.1,VA]) (by rw [U3,Hm,h3.1,VA]) (US _)
  rw [Hm,h2] at this
  exact this
end
end Go.Proofs.YtndaepmjkbmjmaaGreatDoor
namespace Go.V
def Ef (g:ae) (ss:List SQ) (m:List (aj × Value)) (i:Nat):Prop:=∀ t:aj,assoc t m = if t∈(bG g ss).take i then some (.int .i64 (((bG g ss).idxOf t:Int) + 1)) else none
def KS (ss:List SQ) (m:List (aj × Value)) (i:Nat) (es:List aN):Prop:=∀ k:aj,assoc k m =
 if k.st < 0 then none else if k.st.toNat < i then (lC ss k.st.toNat k.sym).map (λj=>Value.int .i64 (j + 1)) else if k.st.toNat = i then (es.find? λe=>decide (e.sym = k.sym)).map (λe=>Value.int .i64 (e.to + 1)) else none
section
variable {g:ae} {ss:List SQ} {m:List (aj × Value)} {i:Nat}
theorem Ef.start:Ef g ss [] 0:=λt=>by simp [assoc]
theorem Ef.step (hA:dh g ss) (h:Ef g ss m i) {t:aj} (ht:(bG g ss)[i]? = some t):Ef g ss (bA t (.int .i64 ((i:Int) + 1)) m) (i + 1):=λu=>by
 rw [dy,h u,UI,ht]
 by_cases e:u = t
 ·subst e
  rw [UJ rfl,UJ (by simp),Nn (Nl hA) ht]
 ·rw [UE e]; simp [e]
theorem Ef.all (h:Ef g ss m (bG g ss).length) (t:aj):(assoc t m).getD (.int .i64 0) = .int .i64 (ug g ss t):=by
 rw [h t,UZ]
 unfold ug
 split <;> rfl
theorem KS.start:KS ss [] 0 []:=λk=>by simp [assoc]
theorem KS.step {es:List aN} (h:KS ss m i es) {e:aN} (hn:e.sym∉es.map (·.sym)):KS ss (bA ⟨(i:Int),e.sym⟩ (.int .i64 (e.to + 1)) m) i (es ++ [e]):=λk=>by
 rw [dy,h k,Cz hn]
 by_cases hk:k = ⟨(i:Int),e.sym⟩
 ·subst hk
  simp
 ·rw [UE hk]
  split
  ·rfl
  ·split
   ·rfl
   ·split
    ·have:k.sym≠e.sym:=λh=>hk (by cases k; simp at *; omega)
     rw [UE this]
    ·rfl
theorem KS.next {q:SQ} (hq:ss[i]? = some q) (h:KS ss m i q.2.2):KS ss m (i + 1) []:=λk=>by
 rw [h k]
 split
 ·rfl
 ·by_cases h1:k.st.toNat < i
  ·rw [UJ h1,UJ (by omega)]
  ·rw [UE h1]
   by_cases h2:k.st.toNat = i
   ·rw [UJ h2,UJ (by omega),h2,nC hq,Option.map_map]; rfl
   ·rw [UE h2,UE (by omega)]; simp
theorem KS.all (h:KS ss m ss.length []) (k:aj):(assoc k m).getD (.int .i64 0) = .int .i64 (RQ ss k):=by
 rw [h k]
 unfold RQ
 by_cases h0:k.st < 0
 ·rw [UJ h0,UJ h0]; rfl
 ·rw [UE h0,UE h0]
  split
  ·cases lC ss k.st.toNat k.sym <;> rfl
  ·have:lC ss k.st.toNat k.sym = none:=by unfold lC; rw [UW (by omega)]
   rw [this]; simp
end
abbrev S7 (x:GA) (o:Wr) (n c:Nat) (a int:Int) (ol:Wr) (nl cl ka kt:Nat) (on:Wr) (nn cn kp:Nat):List Value:=x.cells ++ [.slice o n c,.int .i64 a,.int .i64 int,.slice ol nl cl,.map (some ka),.map (some kt),.slice on nn cn,.map (some kp)]
structure Nq (h:Hp) (g:ae) (ss:List SQ) (nn:List Bool) (k:Nat):Prop where
 ex:∃ (x:GA) (o:Wr) (c:Nat) (a int:Int) (ol:Wr) (cl ka kt:Nat) (on:Wr) (cn kp:Nat) (ma mt:List (aj × Value)) (mp:List (Int × Value)),
  av h (aM k) (S7 x o ss.length c a int ol (bG g ss).length cl ka kt on g.N cn kp)/\gR h g x/\FQ h ss o/\aX h (bG g ss) ol (bG g ss).length/\mapA ka ma h/\Ef g ss ma (bG g ss).length/\mapA kt mt h/\KS ss mt ss.length []/\aX h nn on g.N/\mapA kp mp h /\
  ∀ s:Int,∃ (a:Wr) (c:Nat),(assoc s mp).getD (.slice none 0 0) = .slice a (Bj g g.prods.length s).length c/\aX h ((Bj g g.prods.length s).map Int.ofNat) a (Bj g g.prods.length s).length
theorem Nq.mono {h h' : Hp} {g:ae} {ss:List SQ} {nn:List Bool} {k:Nat} (s:sub h h') (r:Nq h g ss nn k):Nq h' g ss nn k:=by
 obtain ⟨x,o,c,a,int,ol,cl,ka,kt,on,cn,kp,ma,mt,mp,h1,h2,h3,h4,h5,h6,h7,h8,h9,h10,h11⟩:=r.ex
 exact ⟨x,o,c,a,int,ol,cl,ka,kt,on,cn,kp,ma,mt,mp,h1.mono s,h2.mono s,h3.mono s,h4.mono s,dB s h5,h6,dB s h7,h8,h9.mono s,dB s h10,λz=>by obtain ⟨a,c,e,r⟩:=h11 z; exact ⟨a,c,e,r.mono s⟩⟩
end Go.V
namespace Go.Proofs.YtndaepmjkbmjmaaGreatDoor
variable {w:Ws} {L:List au} {g:ae} {x:GA}
theorem H4 (hg:gR (hp w) g x) (hb:iK g) (ht:dG (hp w)):ay Tryz.prog F7 [.agg ⟨x.cells⟩] w λv w'=>∃ (ss:List SQ) (ask int f:Int) (p:Wr),v = .tuple #[.pointer p,.int .i64 f]/\rK g ss ask int f/\Gr w w'/\(f = 0->∃ (k:Nat) (nn:List Bool),p = some (aM k)/\uf g nn/\Nq (hp w') g ss nn k)/\(f≠0->p = none):=by
 refine BL (cQ hg λk1 w1 gw hg B=>?_)
 refine ⟨_,_,_,_,_,_,_,_,_,_,_,_,_,B.row (sub.refl _),(nA hg hb).mono ?_⟩
 rintro _ w2 ⟨o,c,ss,ask,int,f,rfl,hR,h⟩
 have g12:Gr w1 w2:=bj 3 h.l
 have hs:=zd h.l
 clear h
 refine ⟨_,_,_,_,_,_,rfl,af (St.all w2) λk12 w3 h=>aI h rfl (by simp [aH]) λw4 h=>aa (λh1=>?_) λh1=>?_⟩
 ·have h1:f≠0:=by simpa using h1
  exact ⟨ss,ask,int,f,none,rfl,hR,gw.trans (g12.trans h.aR),λh=>absurd h h1,λ_=>rfl⟩
 have h1:f = 0:=by simpa using h1
 subst h1
 obtain ⟨hc,hA⟩:=hR.FW rfl
 have hkl:=hA.BI hc
 have h256:=hA.dn.2.1
 have hTn:=vx (g:=g) (λq hq=>(hkl q hq).2) ss.length
 have g24:Gr w2 w4:=h.aR
 have r12:av (hp w4) (aM k12) [.slice o ss.length c,.int .i64 ask,.int .i64 int]:=ag 0 h.l
 clear h
 have g14:=g12.trans g24
 have hg4:=hg.mono g14
 have ht4:dG (hp w4):=fp.mono (gw.trans g14) ht
 have hs:=hs.mono g24
 have B4:∀ {u:Ws},sub (hp w4) (hp u)->V.rowAt u ⟨k1,0,none⟩ 0 5 = some x.cells:=λs=>B.row (sub.trans g14 s)
 have pl:=hg.p.1
 have hgw:=hg
 obtain ⟨_,_,_,b4,_,_,_⟩:=id hb
 refine ⟨_,_,_,_,_,_,_,_,_,_,_,_,_,B4 (sub.refl _),_,_,_,_,_,r12.at (sub.refl _) rfl,?_⟩
 refine lY (St.all w4) λka w5 h=>?_
 have h:=dz (κ:=aj) h
 refine lY h λkt w6 h=>?_
 have h:=dz (κ:=aj) h
 refine lY h λkp w7 h=>?_
 have h:=dz (κ:=Int) h
 refine af (vs:=S7 x o ss.length c ask int none 0 0 ka kt none 0 0 kp) h λkm w8 h=>?_
 have g48:Gr w4 w8:=bj 4 h.l
 refine ⟨_,_,_,_,_,_,_,_,_,_,_,_,_,B4 g48,(M6 (hg4.mono g48) hb).mono ?_⟩
 rintro _ w9 ⟨ss2,ask2,int2,f2,ol,cl,rfl,hR2,h2⟩
 obtain ⟨_,hes,_,_,rfl,_⟩:=hR.one hR2
 rw [<- qB hes] at h2 ⊢
 have h:=St.u6 h2 h.l
 clear h2
 have rL:aX (hp w9) (bG g ss) ol (bG g ss).length:=ze rfl (ee 0 h.l)
 have h:St w9 (aS km (S7 x o ss.length c ask int none 0 0 ka kt none 0 0 kp) :: own 2 ol (bG g ss).length cl (Cx (bG g ss)) :: mapA kp ([] : List (Int × Value)) :: mapA kt ([] : List (aj × Value)) :: mapA ka ([] : List (aj × Value)) :: all w4):=h.pick 2 [1,0]
 refine ⟨_,_,_,_,rfl,bC h (show 8 < 13 by decide) λw10 ha=>?_⟩
 have h:St w10 (aS km (S7 x o ss.length c ask int ol (bG g ss).length cl ka kt none 0 0 kp) :: own 2 ol (bG g ss).length cl (Cx (bG g ss)) :: mapA kp ([] : List (Int × Value)) :: mapA kt ([] : List (aj × Value)) :: mapA ka ([] : List (aj × Value)) :: all w4):=ha
 clear ha
 have g410:Gr w4 w10:=bj 5 h.l
 refine ⟨_,_,_,_,_,_,_,_,_,_,_,_,_,B4 g410,(F9 (hg4.mono g410) hb (fp.mono g410 ht4)).mono ?_⟩
 rintro _ w11 ⟨on,n1,cn,e1,nn,rfl,hnl,hNR,h2⟩
 have h:=St.u6 h2 h.l
 clear h2
 have hnn:uf g nn:=by
  rcases hNR with ⟨h1,_⟩ | ⟨_,_,h1⟩
  ·exact absurd (.inr hc) h1
  ·exact h1
 have hnN:n1 = g.N:=by rw [<- hnl]; exact hnn.1
 subst hnN
 refine ⟨_,_,_,_,rfl,bC (h.pick 2 [1,0]) (show 11 < 13 by decide) λw12 ha=>?_⟩
 obtain ⟨C,hC⟩ : ∃ C,C = S7 x o ss.length c ask int ol (bG g ss).length cl ka kt on g.N cn kp:=⟨_,rfl⟩
 have h:St w12 (aS km C :: own 1 on g.N cn (bv nn) :: own 2 ol (bG g ss).length cl (Cx (bG g ss)) :: mapA kp ([] : List (Int × Value)) :: mapA kt ([] : List (aj × Value)) :: mapA ka ([] : List (aj × Value)) :: all w4):=by rw [hC]; exact ha
 clear ha
 have c8:C[8]? = some (.slice ol (bG g ss).length cl):=by rw [hC]; rfl
 have c9:C[9]? = some (.map (some ka)):=by rw [hC]; rfl
 have c10:C[10]? = some (.map (some kt)):=by rw [hC]; rfl
 have c12:C[12]? = some (.map (some kp)):=by rw [hC]; rfl
 have hTL:(bG g ss).length<=ss.length * 130:=hTn
 refine ⟨_,_,_,(ag 0 h.l).cell (sub.refl _) (j:=8) c8,λz w'=>∃ (i:Nat) (ma:List (aj × Value)),z = i/\i<=(bG g ss).length/\Ef g ss ma i/\St w' (mapA ka ma :: aS km C :: own 1 on g.N cn (bv nn) :: own 2 ol (bG g ss).length cl (Cx (bG g ss)) :: mapA kp ([] : List (Int × Value)) :: mapA kt ([] : List (aj × Value)) :: all w4),λz _=>(bG g ss).length - z.toNat,
  ⟨0,[],rfl,UM _,.start,h.pick 6 [5,0,1,2,3,4]⟩,?_⟩
 clear h
 rintro _ _ w13 ⟨i,ma,rfl,hi,hN,h⟩
 refine aa (λh1=>?_) λh1=>?_
 ·have h1:i < (bG g ss).length:=by have:=Uz h1; omega
  have rT:aX (hp w13) (bG g ss) ol (bG g ss).length:=ze rfl (ee 3 h.l)
  obtain ⟨t,tad,ht,hta,rt⟩:=qA rT h1
  refine ak hta h1 ⟨_,_,rt.at (sub.refl _) rfl,af h λk49 w14 h=>aI h rfl (by simp [aH]) λw15 h=>?_⟩
  intro w16 hd
  have h:=h.eq (aE hd)
  have r49:av (hp w16) (aM k49) [.int .i64 t.st,.int .i64 t.sym]:=ag 0 h.l
  have rk:av (hp w16) (aM km) C:=ag 2 h.l
  refine ⟨λu=>Gr w16 u,Gr.refl _,_,λu s=>rk.cell s (j:=9) c9,_,_,λu s=>r49.at s rfl,⟨by omega,by omega⟩,(l7 (κ:=aj) aL (rfl:ah Ty _ = .map _ _) dW (h.pick 2 [1]) t _).mono ?_⟩
  rintro _ w19 h
  exact ⟨⟨by omega,by omega⟩,⟨i + 1,_,by simp,h1,hN.step hA ht,h⟩,bK h1⟩
 have h1:i = (bG g ss).length:=by have:=Uy h1; omega
 subst h1
 have s13:sub (hp w4) (hp w13):=bj 6 h.l
 refine ⟨_,_,_,r12.cell0 s13,λz w'=>∃ (i:Nat) (mt:List (aj × Value)),z = i/\i<=ss.length/\KS ss mt i []/\St w' (mapA kt mt :: mapA ka ma :: aS km C :: own 1 on g.N cn (bv nn) :: own 2 ol (bG g ss).length cl (Cx (bG g ss)) :: mapA kp ([] : List (Int × Value)) :: all w4),λz _=>ss.length - z.toNat,
  ⟨0,[],rfl,UM _,.start,h.pick 6 [5,0,1,2,3,4]⟩,?_⟩
 clear h s13
 rintro _ _ w20 ⟨i,mt,rfl,hi,hW,h⟩
 have s20:sub (hp w4) (hp w20):=bj 6 h.l
 refine aa (λh1=>?_) λh1=>?_
 ·have h1:i < ss.length:=by have:=Uz h1; omega
  obtain ⟨q,hq⟩ : ∃ q,ss[i]? = some q:=⟨_,UB h1⟩
  obtain ⟨ad,eo,rs,_,re⟩:=hs i q hq
  have hql:=(hkl q (UC hq)).2
  have hnd:=wV hA hq
  refine ak eo h1 ⟨_,_,_,_,_,_,rs.at s20 rfl,af h λk56 w21 h=>aI h rfl (by simp [aH]) λw22 h=>?_⟩
  have r56:av (hp w22) (aM k56) (KM q):=ag 0 h.l
  refine ⟨_,_,_,r56.cell (sub.refl _) (j:=1) rfl,λz w'=>∃ (k:Nat) (mt:List (aj × Value)),z = k/\k<=q.2.2.length/\KS ss mt i (q.2.2.take k)/\St w' (mapA kt mt :: mapA ka ma :: aS km C :: own 1 on g.N cn (bv nn) :: own 2 ol (bG g ss).length cl (Cx (bG g ss)) :: mapA kp ([] : List (Int × Value)) :: all w4),λz _=>q.2.2.length - z.toNat,
   ⟨0,mt,rfl,UM _,hW,h.pick 7 [1,2,3,4,5,6]⟩,?_⟩
  clear h hW
  rintro _ _ w23 ⟨k,mt,rfl,hk,hW,h⟩
  have s23:sub (hp w4) (hp w23):=bj 6 h.l
  refine aa (λh2=>?_) λh2=>?_
  rotate_left
  ·have h2:k = q.2.2.length:=by have:=Uy h2; omega
   subst h2
   rw [UZ] at hW
   exact ⟨⟨by omega,by omega⟩,⟨i + 1,mt,by simp,h1,hW.next hq,h⟩,bK h1⟩
  have h2:k < q.2.2.length:=by have:=Uz h2; omega
  obtain ⟨e,ead,he,hea,red⟩:=kR re h2
  obtain ⟨_,_,j,r',hj,hj1,hr',_⟩:=kS hc hA hq he
  have hjl:=(UA.1 hr').1
  refine ak hea h2 ⟨_,_,red.at s23 rfl,af h λk34 w11 h=>aI h rfl (by simp [aH]) λw12 h=>?_⟩
  intro w26 hd
  have h:=h.eq (aE hd)
  have r34:av (hp w26) (aM k34) [.int .i64 e.sym,.int .i64 e.to]:=ag 0 h.l
  have rk:av (hp w26) (aM km) C:=ag 3 h.l
  refine ⟨λu=>Gr w26 u,Gr.refl _,_,λu s=>rk.cell s (j:=10) c10,_,λu s=>r34.cell0 s,_,λu s=>r34.cell s (j:=1) rfl,⟨by omega,by omega⟩,(l7 (κ:=aj) aL (rfl:ah Ty _ = .map _ _) dW (h.pick 2 [1]) ⟨(i:Int),e.sym⟩ _).mono ?_⟩
  rintro _ w30 h
  have ht:q.2.2.take (k + 1) = q.2.2.take k ++ [e]:=by rw [UI,he]; rfl
  have hn:e.sym∉(q.2.2.take k).map (·.sym):=λhm=>by
   have e1:q.2.2.map (·.sym) = (q.2.2.take k).map (·.sym) ++ e.sym :: (q.2.2.drop (k + 1)).map (·.sym):=by
    rw [<- Vh,<- U1]
    congr 1
    have:=UY (k + 1) q.2.2
    rw [ht] at this
    simpa using this.symm
   rw [e1,Vg] at hnd
   exact hnd.2.2 _ hm _ (by simp) rfl
  have hW:=hW.step hn
  rw [<- ht] at hW
  exact ⟨⟨by omega,by omega⟩,⟨k + 1,_,by simp,h2,hW,h⟩,bK h2⟩
 have h1:i = ss.length:=by have:=Uy h1; omega
 subst h1
 have h:=h.pick 6 [5,0,1,2,3,4]
 refine ⟨_,_,_,B.c4 (sub.trans g14 s20),λz w'=>∃ (j:Nat) (ps:List (Int × Lq Int)),z = j/\j<=x.pl/\(∀ s,gq s ps = (Bj g j s).map Int.ofNat)/\St w' (aS km C :: mapA kp (mV ps) :: aT (mO 1 iv ps) :: mapA kt mt :: mapA ka ma :: own 1 on g.N cn (bv nn) :: own 2 ol (bG g ss).length cl (Cx (bG g ss)) :: all w4),λz _=>x.pl - z.toNat,
  ⟨0,[],rfl,UM _,λs=>rfl,?_⟩,?_⟩
 ·have h:=(St.flat (M:=[])).2 h
  exact h.pick 7 [4,1,0,2,3,5,6]
 clear h
 rintro _ _ w31 ⟨j,ps,rfl,hj,hps,h⟩
 have s31:sub (hp w4) (hp w31):=bj 7 h.l
 refine aa (λh1=>?_) λh1=>?_
 rotate_left
 ·have h1:j = x.pl:=by have:=Uy h1; omega
  subst h1
  rw [<- pl] at hps
  refine ⟨ss,ask,int,0,some (aM km),rfl,hR,gw.trans (g14.trans s31),λ_=>⟨km,nn,rfl,hnn,x,o,c,ask,int,ol,cl,ka,kt,on,cn,kp,ma,mt,mV ps,by rw [<- hC]; exact ag 0 h.l,hg4.mono s31,hs.mono s31,ze rfl (ee 6 h.l),?_,hN,?_,hW,Hl hnl (ee 5 h.l),?_,λs=>?_⟩,λh=>absurd rfl h⟩
  ·obtain ⟨hm,sm,hA2⟩:=OM 4 h.l; exact dB sm hA2
  ·obtain ⟨hm,sm,hA2⟩:=OM 3 h.l; exact dB sm hA2
  ·obtain ⟨hm,sm,hA2⟩:=OM 1 h.l; exact dB sm hA2
  have e:=hps s
  cases hq:cW s ps with
  | none =>
   have e0:gq s ps = []:=by unfold gq; rw [hq]
   rw [e0] at e
   have e1:Bj g g.prods.length s = []:=List.map_eq_nil_iff.1 e.symm
   rw [gA,hq,e1]
   exact ⟨none,0,rfl,aX.nil⟩
  | some q =>
   have e0:gq s ps = q.2:=by unfold gq; rw [hq]
   rw [e0] at e
   obtain ⟨hq1,sq,ho⟩:=Jj (aQ (aQ h.l)) hq
   have hl:q.2.length = (Bj g g.prods.length s).length:=by rw [e,UH]
   refine ⟨q.1.1,q.1.2,by rw [gA,hq]; show cF q = _; unfold cF; rw [hl],?_⟩
   rw [<- e,<- hl]
   exact (dO rfl (cE ho)).mono sq
 have h1:j < x.pl:=by have:=Uz h1; omega
 obtain ⟨p,ad,vs,hp1,hpa,hp2,ra,rl,rc,rfl,hrc,hp3⟩:=hgw.p.get h1
 refine ak hpa h1 ⟨_,_,_,_,_,hp2.at (sub.trans g14 s31) rfl,af h λk64 w32 h=>aI h rfl (by simp [aH]) λw33 h=>aa (λh3=>?_) λh3=>?_⟩
 rotate_left
 ·have h3:¬0 < j:=by have:=Uy h3; omega
  exact ⟨⟨by omega,by omega⟩,⟨j + 1,ps,by simp,h1,λs=>by rw [Ay hp1,UE (λh=>h3 h.2),U3]; exact hps s,h.pick 8 [1,2,3,4,5,6,7]⟩,bK h1⟩
 have h3:0 < j:=by have:=Uz h3; omega
 intro w34 hd
 have h:=h.eq (aE hd)
 have cm:∀ {u:Ws} {L' : List au},St u (aS km C :: L')->u.cell? ((aM km).add 12) = some (.map (some kp)):=λh=>(ag 0 h.l).cell (sub.refl _) (j:=12) c12
 have cp:∀ {u:Ws} {L' : List au},St u (aS k64 [.int .i64 p.left,.slice ra rl rc,.int .i64 p.level] :: L')->u.cell? (aM k64) = some (.int .i64 p.left):=λh=>(ag 0 h.l).cell0 (sub.refl _)
 refine ⟨λu=>u.cell? ((aM km).add 12) = some (.map (some kp))/\u.cell? (aM k64) = some (.int .i64 p.left),⟨cm (h.pick 2 [1]),cp h⟩,_,λu hu=>hu.1,_,λu hu=>hu.2,_,λu hu=>hu.1,_,λu hu=>hu.2,?_,?_⟩
 ·refine (bU (κ:=Int) aL (rfl:ah Ty _ = .map _ _) bp rfl rfl (h.pick 3 [2]) p.left).mono ?_
  rintro _ _ ⟨rfl,rfl⟩
  obtain ⟨q,M,e1,e2,hq,back⟩:=ob rfl (h.pick 4 [3,0,1,2]) p.left
  have hql:q.2.length<=j:=by rw [e2,hps,UH]; exact zg _ _ _
  refine ⟨_,_,_,e1,⟨cm (hq.pick 4 [3]),cp (hq.pick 3 [2])⟩,af hq λk19 w13 h=>⟨⟨cm (h.pick 5 [4]),cp (h.pick 4 [3])⟩,?_⟩⟩
  refine (aW (us:=iv q.2) aL (rfl:ah Ty _ = .slice _) (rfl:ah Ty _ = .slice _) rfl rfl rfl h rfl (by simp [aH]) (by show (q.2.length + 1) * 8<=_; omega) (by omega)).mono ?_
  rintro _ w14 ⟨o,c',rfl,h⟩
  refine ⟨_,_,_,rfl,⟨cm (h.pick 5 [4]),cp (h.pick 4 [3])⟩,(cN (κ:=Int) aL (rfl:ah Ty _ = .map _ _) bp (h.pick 6 [5,0,2,4]) p.left _).mono ?_⟩
  rintro _ w15 h
  have h:=tX back (q.2 ++ [(j:Int)]) (by simp) (by simp [iv]) h
  exact ⟨⟨by omega,by omega⟩,⟨j + 1,_,by simp,h1,λs=>by rw [js,Ay hp1,e2,hps]; by_cases e:s = p.left <;> simp [e,hps,h3],h.pick 3 [2,0,1]⟩,bK h1⟩
 ·refine af h λk22 w16 h=>⟨⟨cm (h.pick 3 [2]),cp (h.pick 2 [1])⟩,(bU (κ:=Int) aL (rfl:ah Ty _ = .map _ _) bp rfl rfl (h.pick 4 [3]) p.left).mono ?_⟩
  rintro _ _ ⟨rfl,rfl⟩
  obtain ⟨q,M,e1,e2,hq,back⟩:=ob rfl (h.pick 5 [4,0,1,2,3]) p.left
  have hql:q.2.length<=j:=by rw [e2,hps,UH]; exact zg _ _ _
  refine ⟨_,_,_,e1,⟨cm (hq.pick 5 [4]),cp (hq.pick 4 [3])⟩,?_⟩
  refine (aW (us:=iv q.2) aL (rfl:ah Ty _ = .slice _) (rfl:ah Ty _ = .slice _) rfl rfl rfl (hq.pick 3 [2,0,1]) rfl (by simp [aH]) (by show (q.2.length + 1) * 8<=_; omega) (by omega)).mono ?_
  rintro _ w14 ⟨o,c',rfl,h⟩
  refine ⟨_,_,_,rfl,⟨cm (h.pick 5 [4]),cp (h.pick 4 [3])⟩,(cN (κ:=Int) aL (rfl:ah Ty _ = .map _ _) bp (h.pick 6 [5,0,2,4]) p.left _).mono ?_⟩
  rintro _ w15 h
  have h:=tX back (q.2 ++ [(j:Int)]) (by simp) (by simp [iv]) h
  exact ⟨⟨by omega,by omega⟩,⟨j + 1,_,by simp,h1,λs=>by rw [js,Ay hp1,e2,hps]; by_cases e:s = p.left <;> simp [e,hps,h3],h.pick 3 [2,0,1]⟩,bK h1⟩
end Go.Proofs.YtndaepmjkbmjmaaGreatDoor
namespace Go.V
def bQ (n:Nat) (P:Nat->Int->Prop) (B k:Nat) (L:List au) (w:Ws):Prop:=∃ (o:Wr) (c:Nat) (es:List (Lq Int)),es.length = n/\(∀ i q,es[i]? = some q->(∀ z,z∈q.2↔P i z)/\q.2.length<=B)/\St w (aS k [.slice o n c] :: own 1 o n c (es.map cF) :: aT (es.map (b_ 1 iv)) :: L)
theorem bQ.iff {n B k:Nat} {P Q:Nat->Int->Prop} {L:List au} {w:Ws} (h:bQ n P B k L w) (hpq:∀ i z,i < n->(P i z↔Q i z)):bQ n Q B k L w:=by
 obtain ⟨o,c,es,h1,h2,h3⟩:=h
 refine ⟨o,c,es,h1,λi q hq=>⟨λz=>?_,(h2 i q hq).2⟩,h3⟩
 rw [(h2 i q hq).1 z,hpq i z (by rw [<- h1]; exact (UA.1 hq).1)]
theorem bQ.gr {n B k:Nat} {P:Nat->Int->Prop} {L:List au} {w w' : Ws} (h:bQ n P B k L w) (g:Gr w w'):bQ n P B k L w':=by
 obtain ⟨o,c,es,h1,h2,h3⟩:=h
 exact ⟨o,c,es,h1,h2,h3.gr g⟩
theorem bQ.gw {n B k:Nat} {P:Nat->Int->Prop} {w0 w:Ws} (h:bQ n P B k (all w0) w):Gr w0 w:=by
 obtain ⟨o,c,es,h1,h2,h3⟩:=h
 exact bj 3 h3.l
def Nr (n:Nat) (P:Nat->Int->Prop) (ds:List (Lq Int)):Prop:=ds.length = n/\∀ i q,ds[i]? = some q->jO q.2/\∀ z,z∈q.2↔P i z
end Go.V
namespace Go.Proofs.YtndaepmjkbmjmaaGreatDoor
variable {w:Ws} {L:List au} {g:ae} {x:GA}
theorem Ns {n a B k:Nat} {b:Int} {P:Nat->Int->Prop} (h:bQ n P B k L w) (ha:a < n) (hB:(B + 1) * 8<=140737488355328):ay Tryz.prog a_ [.int .i64 (a:Int),.int .i64 b,.pointer (some (aM k))] w λv w'=>v = .tuple (Array.mk [])/\bQ n (λi z=>P i z\/i = a/\z = b) (B + 1) k L w':=by
 refine mB ?_
 intro w1 hd
 have h:=h.gr (Gr.drawn hd)
 obtain ⟨o,c,es,hes,hrow,h⟩:=h
 obtain ⟨q,hq⟩ : ∃ q,es[a]? = some q:=⟨_,UB (by omega)⟩
 have hqB:=(hrow a q hq).2
 have hA:(es.map (b_ 1 iv))[a]? = some (b_ 1 iv q):=by rw [UD,hq]; rfl
 have hV:(es.map cF)[a]? = some (cF q):=by rw [UD,hq]; rfl
 have h:=St.out (h.pick 3 [2,0,1]) hA
 have h:St w1 (own 1 q.1.1 q.2.length q.1.2 (iv q.2) :: aT ((es.map (b_ 1 iv)).eraseIdx a) :: aS k [.slice o n c] :: own 1 o n c (es.map cF) :: L):=h
 obtain ⟨ad,rfl,hco⟩:=bX (h.pick 4 [3]) hV
 refine ⟨λu=>u.cell? (aM k) = some (.slice (some ad) n c)/\u.cell? (ad.add a) = some (cF q),⟨(ag 2 h.l).cell0 (sub.refl _),hco⟩,_,_,_,λu hu=>hu.1,_,_,_,λu hu=>hu.1,aB rfl ha ⟨_,_,_,λu hu=>hu.2,af h λk7 w5 h=>?_⟩⟩
 have cc:∀ {u:Ws} {L' : List au},St u (own 1 (some ad) n c (es.map cF) :: L')->u.cell? (ad.add a) = some (cF q):=λh=>by
  obtain ⟨ad',e,hc⟩:=bX h hV
  cases e; exact hc
 refine ⟨⟨(ag 3 h.l).cell0 (sub.refl _),cc (h.pick 5 [4])⟩,?_⟩
 refine (aW (us:=iv q.2) aL (rfl:ah Ty _ = .slice _) (rfl:ah Ty _ = .slice _) rfl rfl rfl h rfl (by simp [aH]) (by show (q.2.length + 1) * 8<=_; omega) (by omega)).mono ?_
 rintro _ w6 ⟨o',c',rfl,h⟩
 refine ⟨_,_,_,rfl,⟨(ag 3 h.l).cell0 (sub.refl _),cc (h.pick 5 [4])⟩,aB rfl ha (j4 (h.pick 5 [4,0,2,3]) rfl (by rw [UH]; omega) λw7 h=>?_)⟩
 refine ⟨rfl,some ad,c,es.set a ((o',c'),q.2 ++ [b]),by rw [Vj]; exact hes,λi r hr=>?_,?_⟩
 ·by_cases e:a = i
  ·subst e
   rw [List.getElem?_set_self (by omega)] at hr
   cases hr
   refine ⟨λz=>?_,by simp; omega⟩
   show z∈q.2 ++ [b]↔_
   rw [UF,(hrow a q hq).1 z,U2]
   simp
  ·rw [List.getElem?_set_ne e] at hr
   obtain ⟨r1,r2⟩:=hrow i r hr
   refine ⟨λz=>?_,by omega⟩
   rw [r1 z]
   exact ⟨.inl,λh=>h.resolve_right λh=>e h.1.symm⟩
 ·have e1:(.slice o' (q.2.length + 1) c' : Value) = cF (((o',c'),q.2 ++ [b]):Lq Int):=by simp [cF]
  have e2:own 1 o' (q.2.length + 1) c' (iv q.2 ++ [.int .i64 b]) = b_ 1 iv (((o',c'),q.2 ++ [b]):Lq Int):=by simp [b_,iv]
  have h:St w7 (own 1 (some ad) n c ((es.map cF).set a (.slice o' (q.2.length + 1) c')) :: own 1 o' (q.2.length + 1) c' (iv q.2 ++ [.int .i64 b]) :: aT ((es.map (b_ 1 iv)).eraseIdx a) :: aS k [.slice (some ad) n c] :: L):=h
  rw [e1,<- VL] at h
  have h:=St.back (B:=own 1 o' (q.2.length + 1) c' (iv q.2 ++ [.int .i64 b])) (h.pick 4 [1,2,0,3]) hA
  rw [e2,<- VL] at h
  exact h.pick 3 [2,1,0]
theorem Jv {n k:Nat} {ss:List SQ} {nn:List Bool} {fg:FuncId} {fc:List Value} {P:Nat->Int->Prop} (hw:Nq (hp w) g ss nn k) (hn:(bG g ss).length = n) (hn2:n<=33280) (hF:Fn fg = true)
  (hE:∀ (k4:Nat) (w0:Ws),bQ n (λ_ _=>False) 0 k4 (all w) w0->ay Tryz.prog fg (.func (.func a_) (Array.mk []) (Array.mk [.pointer (some (aM k4))]) :: fc) w0 λv w'=>v = .tuple (Array.mk [])/\∃ B,B<=4611686018427387/\bQ n P B k4 (all w) w') :
  ay Tryz.prog sG [.pointer (some (aM k)),.func (.func fg) (Array.mk []) (Array.mk fc)] w λv w'=>∃ (o:Wr) (c:Nat) (ds:List (Lq Int)),v = .slice o n c/\Nr n P ds/\St w' (own 1 o n c (ds.map cF) :: aT (ds.map (b_ 1 iv)) :: all w):=by
 obtain ⟨x,o,c,a,int,ol,cl,ka,kt,on,cn,kp,ma,mt,mp,rk,hg,hs,rT,_,_,_,_,_,_,_⟩:=hw.ex
 rw [hn] at rk
 refine py ⟨_,_,_,rk.cell (sub.refl _) (j:=8) rfl,⟨by omega,rfl,by omega⟩,?_⟩
 rw [U9]
 have e0:lD n [(Value.slice none 0 0:Value)] = (List.replicate n (((none,0),[]):Lq Int)).map cF:=by rw [jr]; simp [cF]
 rw [e0]
 refine af (St.all w) λk3 w1 h=>af h λk4 w2 h=>bC h (by simp) λw3 h=>bz.2 ⟨hF,?_⟩
 have h:St w3 (aS k4 [.slice (some (aM k3)) n n] :: aS k3 ((List.replicate n (((none,0),[]):Lq Int)).map cF) :: all w):=h
 have h:St w3 (own 1 (some (aM k3)) n n ((List.replicate n (((none,0),[]):Lq Int)).map cF) :: aS k4 [.slice (some (aM k3)) n n] :: all w):=dR (cs:=[]) (show St w3 (aS k3 ((List.replicate n (((none,0),[]):Lq Int)).map cF ++ []) :: aS k4 [.slice (some (aM k3)) n n] :: all w) by rw [U3]; exact h.pick 2 [1,0]) (by simp) (by simp) (US _)
 have h:=Aa (A:=b_ 1 iv ((none,0),[])) (λw L h=>az 1 h) n h
 rw [<- List.map_replicate] at h
 have hR0:bQ n (λ_ _=>False) 0 k4 (all w) w3:=by
  refine ⟨_,_,List.replicate n (((none,0),[]):Lq Int),by simp,λi q hq=>?_,h.pick 3 [2,1,0]⟩
  rw [Wf] at hq
  split at hq
  ·cases hq; simp
  ·cases hq
 clear h
 refine (hE k4 w3 hR0).mono ?_
 rintro _ w4 ⟨rfl,B,hB,o4,c4,es,hes,hrow,h⟩
 refine ⟨rfl,_,_,_,(ag 0 h.l).cell0 (sub.refl _),λz w'=>∃ (i:Nat) (es:List (Lq Int)),z = i/\i<=n/\es.length = n/\(∀ j q,es[j]? = some q->(∀ z,z∈q.2↔P j z)/\q.2.length<=B/\(j < i->jO q.2))/\St w' (aS k4 [.slice o4 n c4] :: own 1 o4 n c4 (es.map cF) :: aT (es.map (b_ 1 iv)) :: all w),λz _=>n - z.toNat,
  ⟨0,es,rfl,UM _,hes,λj q hq=>⟨(hrow j q hq).1,(hrow j q hq).2,λh=>absurd h (by omega)⟩,h⟩,?_⟩
 clear h hrow hes
 rintro _ _ w5 ⟨i,es,rfl,hi,hes,hrow,h⟩
 refine aa (λh1=>?_) λh1=>?_
 rotate_left
 ·have h1:i = n:=by have:=Uy h1; omega
  refine ⟨_,_,_,(ag 0 h.l).cell0 (sub.refl _),o4,c4,es,rfl,⟨hes,λj q hq=>?_⟩,h.pick 3 [1,2]⟩
  obtain ⟨q1,q2,q3⟩:=hrow j q hq
  exact ⟨q3 (by have:=(UA.1 hq).1; omega),q1⟩
 have h1:i < n:=by have:=Uz h1; omega
 obtain ⟨q,hq⟩ : ∃ q,es[i]? = some q:=⟨_,UB (by omega)⟩
 obtain ⟨hqP,hqB,_⟩:=hrow i q hq
 have hA:(es.map (b_ 1 iv))[i]? = some (b_ 1 iv q):=by rw [UD,hq]; rfl
 have hV:(es.map cF)[i]? = some (cF q):=by rw [UD,hq]; rfl
 have h:=St.out (h.pick 3 [2,0,1]) hA
 have h:St w5 (own 1 q.1.1 q.2.length q.1.2 (iv q.2) :: aT ((es.map (b_ 1 iv)).eraseIdx i) :: aS k4 [.slice o4 n c4] :: own 1 o4 n c4 (es.map cF) :: all w):=h
 obtain ⟨ad,rfl,hco⟩:=bX (h.pick 4 [3]) hV
 have cc:∀ {u:Ws} {L' : List au},St u (own 1 (some ad) n c4 (es.map cF) :: L')->u.cell? (ad.add i) = some (cF q):=λh=>by
  obtain ⟨ad',e,hc⟩:=bX h hV
  cases e; exact hc
 refine ⟨_,_,_,(ag 2 h.l).cell0 (sub.refl _),aB rfl h1 ⟨_,_,_,hco,(Jf h (by omega)).mono ?_⟩⟩
 rintro _ w6 ⟨rfl,h⟩
 refine ⟨rfl,?_⟩
 intro w7 hd
 have h:=h.eq (aE hd)
 generalize hso:(q.2.mergeSort λx y=>decide (x<=y)) = so at h
 have hsm:∀ z,z∈so↔z∈q.2:=λz=>by rw [<- hso]; exact List.mem_mergeSort
 have hsr:so.Pairwise (·<=·):=by
  have:=List.pairwise_mergeSort (le:=λx y:Int=>decide (x<=y)) (λa b c h1 h2=>by simp at *; omega) (λa b=>by simp; omega) q.2
  rw [hso] at this
  exact this.imp λh=>Uz h
 have hsl:so.length = q.2.length:=by rw [<- hso]; exact List.length_mergeSort _
 refine ⟨λu=>u.cell? (aM k4) = some (.slice (some ad) n c4)/\u.cell? (ad.add i) = some (cF q),⟨(ag 2 h.l).cell0 (sub.refl _),cc (h.pick 4 [3])⟩,_,_,_,λu hu=>hu.1,_,_,_,λu hu=>hu.1,aB rfl h1 ⟨_,_,_,λu hu=>hu.2,(H0 h (by omega)).mono ?_⟩⟩
 rintro _ w11 ⟨a',c',rfl,h⟩
 refine ⟨_,_,_,rfl,⟨(ag 2 h.l).cell0 (sub.refl _),cc (h.pick 4 [3])⟩,dq (fh (dj h) ?_)⟩
 have h:=ff h
 refine ⟨_,_,_,rfl,⟨(ag 2 h.l).cell0 (sub.refl _),cc (h.pick 4 [3])⟩,aB rfl h1 (j4 (h.pick 4 [3,0,1,2]) rfl (by rw [UH]; omega) λw13 h=>?_)⟩
 have hdl:=HY so
 refine ⟨⟨by omega,by omega⟩,⟨i + 1,es.set i ((eJ a' 0 (dd so).length 1,(dd so).length),dd so),by simp,h1,by rw [Vj]; exact hes,λj r hr=>?_,?_⟩,bK h1⟩
 ·by_cases e:i = j
  ·subst e
   rw [List.getElem?_set_self (by omega)] at hr
   cases hr
   refine ⟨λz=>?_,by show (dd so).length<=B; omega,λ_=>Ec hsr⟩
   show z∈dd so↔_
   rw [Eb,hsm,hqP z]
  ·rw [List.getElem?_set_ne e] at hr
   obtain ⟨r1,r2,r3⟩:=hrow j r hr
   exact ⟨r1,r2,λh=>r3 (by omega)⟩
 ·have e1:(.slice (eJ a' 0 (dd so).length 1) (dd so).length (dd so).length:Value) = cF (((eJ a' 0 (dd so).length 1,(dd so).length),dd so):Lq Int):=rfl
  have h:St w13 (own 1 (some ad) n c4 ((es.map cF).set i (.slice (eJ a' 0 (dd so).length 1) (dd so).length (dd so).length)) :: own 1 (eJ a' 0 (dd so).length 1) (dd so).length (dd so).length (iv (dd so)) :: aT ((es.map (b_ 1 iv)).eraseIdx i) :: aS k4 [.slice (some ad) n c4] :: all w):=h
  rw [e1,<- VL] at h
  have h:=St.back (B:=own 1 (eJ a' 0 (dd so).length 1) (dd so).length (dd so).length (iv (dd so))) (h.pick 4 [1,2,0,3]) hA
  rw [show own 1 (eJ a' 0 (dd so).length 1) (dd so).length (dd so).length (iv (dd so)) = b_ 1 iv (((eJ a' 0 (dd so).length 1,(dd so).length),dd so):Lq Int) from rfl,<- VL] at h
  exact h.pick 3 [2,1,0]
end Go.Proofs.YtndaepmjkbmjmaaGreatDoor
namespace Go.V
section
variable {g:ae} {ss:List SQ} {nn:List Bool}
theorem Jw {s:Int} (h:xb g nn s = true):(g.T:Int)<=s:=by
 unfold xb at h
 rw [UT] at h
 exact Uz h.1
def Lt (g:ae) (nn:List Bool) (ss:List SQ) (j0:Nat) (es:List aN) (z:Int):Prop:=∃ e∈es,xb g nn e.sym = true/\ug g ss ⟨(j0:Int),e.sym⟩ = z + 1
theorem Lt.snoc {j0:Nat} {es:List aN} {e:aN} {z:Int}:Lt g nn ss j0 (es ++ [e]) z↔Lt g nn ss j0 es z\/(xb g nn e.sym = true/\ug g ss ⟨(j0:Int),e.sym⟩ = z + 1):=by
 unfold Lt
 constructor
 ·rintro ⟨e',he',h⟩
  rw [UF,U2] at he'
  rcases he' with he' | rfl
  ·exact .inl ⟨e',he',h⟩
  ·exact .inr h
 ·rintro (⟨e',he',h⟩ | h)
  ·exact ⟨e',by simp [he'],h⟩
  ·exact ⟨e,by simp,h⟩
theorem Lt.all (hc:aq g) (hA:dh g ss) {i j0:Nat} {t:aj} {r:SQ} (ht:(bG g ss)[i]? = some t) (hnx:lC ss t.st.toNat t.sym = some (j0:Int)) (hr:ss[j0]? = some r) (z:Int):Lt g nn ss j0 r.2.2 z↔z∈cd (bG g ss).length (jX g nn ss i):=by
 rw [ju]
 constructor
 ·rintro ⟨e,he,h1,h2⟩
  have hpos:0 < ug g ss ⟨(j0:Int),e.sym⟩:=by
   obtain ⟨k,hk⟩:=Vf he
   have:=Nb hr hk (Jw h1)
   rw [zh hA this]; omega
  obtain ⟨u,hu,hu2⟩:=vD hA hpos
  refine ⟨u,by omega,(UA.1 hu2).1,?_⟩
  unfold jX
  rw [ht,hu2]
  simp [hnx,h1]
 ·rintro ⟨u,rfl,hu,h⟩
  unfold jX at h
  rw [ht,UB hu] at h
  simp only [UT,UO] at h
  obtain ⟨h1,h2⟩:=h
  have hu2:(bG g ss)[u]? = some (bG g ss)[u]:=UB hu
  obtain ⟨i',q',k',e',hi',hq',he',hge,hte⟩:=jg (UC hu2)
  have e1:(i' : Int) = j0:=by
   rw [hnx] at h1
   have:=Option.some.inj h1
   rw [hte] at this
   exact this.symm
  have e1:i' = j0:=by omega
  subst e1
  rw [hr] at hq'; cases hq'
  refine ⟨e',UC he',by rw [hte] at h2; exact h2,?_⟩
  rw [<- hte,zh hA hu2]
end
end Go.V
namespace Go.Proofs.YtndaepmjkbmjmaaGreatDoor
variable {w:Ws} {L:List au} {g:ae} {x:GA} {ss:List SQ} {nn:List Bool}
theorem RT {t:aj} {j0:Nat} (h0:0<=t.st) (h:lC ss t.st.toNat t.sym = some (j0:Int)):RQ ss t = (j0:Int) + 1:=by
 unfold RQ; rw [UE (by omega),h]
theorem KT {n kw kc k1 k4:Nat} {w0:Ws} (hw:Nq (hp w) g ss nn kw) (hcl:aq g) (hA:dh g ss) (hnn:uf g nn) (hkc:av (hp w) (aM kc) [.pointer (some (aM kw))]) (B:GB (hp w) k1 x) (hTl:g.T = x.tl) (hn:(bG g ss).length = n) (hn2:n<=33280)
  (hR:bQ n (λ_ _=>False) 0 k4 (all w) w0) :
  ay Tryz.prog vF [.func (.func a_) (Array.mk []) (Array.mk [.pointer (some (aM k4))]),.pointer (some (aM kc)),.pointer (some (aM k1))] w0 λv w'=>v = .tuple (Array.mk [])/\∃ B,B<=4611686018427387/\bQ n (λi z=>z∈cd n (jX g nn ss i)) B k4 (all w) w':=by
 obtain ⟨x',o,c,a,int,ol,cl,ka,kt,on,cn,kp,ma,mt,mp,rk,hg,hs,rT,hma,hN,hmt,hTo,rN,_,_⟩:=hw.ex
 rw [hn] at rk rT
 have hkl:=hA.BI hcl
 obtain ⟨sT,sN,sP,_,_,_⟩:=hcl.gB
 have h256:=hA.dn.2.1
 have g0:Gr w w0:=hR.gw
 refine sJ ⟨_,hkc.cell0 g0,_,_,_,rk.cell g0 (j:=8) rfl,λz w'=>∃ (i B:Nat),z = i/\i<=n/\B<=i * 130/\bQ n (λj z=>j < i/\z∈cd n (jX g nn ss j)) B k4 (all w) w',λz _=>n - z.toNat,
  ⟨0,0,rfl,UM _,UM _,hR.iff λj z _=>⟨λh=>h.elim,λh=>absurd h.1 (by omega)⟩⟩,?_⟩
 clear hR
 rintro _ _ w1 ⟨i,B0,rfl,hi,hB0,hR⟩
 have g1:Gr w w1:=hR.gw
 refine aa (λh1=>?_) λh1=>?_
 rotate_left
 ·have h1:i = n:=by have:=Uy h1; omega
  subst h1
  exact ⟨rfl,B0,by omega,hR.iff λj z hj=>⟨λh=>h.2,λh=>⟨hj,h⟩⟩⟩
 have h1:i < n:=by have:=Uz h1; omega
 obtain ⟨t,tad,ht,hta,rt⟩:=qA rT h1
 obtain ⟨i0,q0,k0,e0,hi0,hq0,he0,hge,hte⟩:=jg (UC ht)
 have hnx:lC ss t.st.toNat t.sym = some e0.to:=by rw [hte]; exact An hA hq0 he0
 obtain ⟨hto1,hto2⟩:=vy hcl hA hnx
 obtain ⟨j0,hj0⟩ : ∃ j0:Nat,e0.to = j0:=⟨e0.to.toNat,by omega⟩
 rw [hj0] at hnx hto2
 have hto:j0 < ss.length:=by omega
 obtain ⟨r,hr⟩ : ∃ r,ss[j0]? = some r:=⟨_,UB hto⟩
 have hrl:=(hkl r (UC hr)).2
 have hst0:0<=t.st:=by rw [hte]; exact Vs _
 have hk:RQ ss t = (j0:Int) + 1:=RT hst0 hnx
 obtain ⟨o9,c9,es,hes,hrow,h⟩:=hR
 refine ak hta h1 ⟨_,_,rt.at g1 rfl,af h λk3 w2 h=>aI h rfl (by simp [aH]) λw3 h=>?_⟩
 intro w4 hd
 have h:=h.eq (aE hd)
 have g4:Gr w w4:=bj 4 h.l
 have r3:av (hp w4) (aM k3) [.int .i64 t.st,.int .i64 t.sym]:=ag 0 h.l
 refine ⟨λu=>Gr w4 u,Gr.refl _,_,λu s=>hkc.cell0 (sub.trans g4 s),_,λu s=>rk.cell (sub.trans g4 s) (j:=10) rfl,_,_,λu s=>r3.at s rfl,(df (κ:=aj) hmt g4 aL (rfl:ah Ty _ = .map _ _) dW rfl rfl t).mono ?_⟩
 rintro _ w8 ⟨rfl,e8⟩
 rw [e8,hTo.all,hk]
 obtain ⟨sad,eo,rs,_,re⟩:=hs j0 r hr
 have e9:((j0:Int) + 1) - 1 = (j0:Int):=by omega
 refine ⟨_,rfl,Gr.refl _,⟨by omega,by omega⟩,_,hkc.cell0 g4,_,_,_,rk.cell g4 (j:=5) rfl,?_⟩
 rw [e9]
 have hR:bQ n (λj z=>j < i/\z∈cd n (jX g nn ss j)) B0 k4 (all w) w4:=⟨o9,c9,es,hes,hrow,h.pick 4 [1,2,3]⟩
 clear h hrow
 refine ak eo hto ⟨_,_,_,rs.cell g4 (j:=1) rfl,λz w'=>∃ (k B1:Nat),z = k/\k<=r.2.2.length/\B1<=B0 + k/\bQ n (λj z=>j < i/\z∈cd n (jX g nn ss j)\/j = i/\Lt g nn ss j0 (r.2.2.take k) z) B1 k4 (all w) w',λz _=>r.2.2.length - z.toNat,
  ⟨0,B0,rfl,UM _,US _,hR.iff λj z _=>⟨.inl,λh=>h.elim id λh=>by obtain ⟨_,e,he,_⟩:=h; simp at he⟩⟩,?_⟩
 clear hR
 rintro _ _ w9 ⟨k,B1,rfl,hk2,hB1,hR⟩
 have g9:Gr w w9:=hR.gw
 refine aa (λh2=>?_) λh2=>?_
 rotate_left
 ·have h2:k = r.2.2.length:=by have:=Uy h2; omega
  rw [h2,UZ] at hR
  refine ⟨⟨by omega,by omega⟩,⟨i + 1,B1,by simp,h1,by omega,hR.iff λj z _=>?_⟩,bK h1⟩
  rw [Lt.all hcl hA ht hnx hr,hn]
  constructor
  ·rintro (⟨h1,h2⟩ | ⟨rfl,h2⟩)
   ·exact ⟨by omega,h2⟩
   ·exact ⟨by omega,h2⟩
  ·rintro ⟨h1,h2⟩
   by_cases e:j = i
   ·exact .inr ⟨e,by rw [e] at h2; exact h2⟩
   ·exact .inl ⟨by omega,h2⟩
 have h2:k < r.2.2.length:=by have:=Uz h2; omega
 obtain ⟨e,ead,he,hea,red⟩:=kR re h2
 have htk:r.2.2.take (k + 1) = r.2.2.take k ++ [e]:=by rw [UI,he]; rfl
 obtain ⟨hs1,hs2,_⟩:=kS hcl hA hr he
 obtain ⟨o10,c10,es10,hes10,hrow10,h⟩:=hR
 refine ak hea h2 ⟨_,_,red.at g9 rfl,af h λk8 w10 h=>aI h rfl (by simp [aH]) λw11 h=>?_⟩
 intro w12 hd2
 have h:=h.eq (aE hd2)
 have g12:Gr w w12:=bj 4 h.l
 have r8:av (hp w12) (aM k8) [.int .i64 e.sym,.int .i64 e.to]:=ag 0 h.l
 have hR:bQ n (λj z=>j < i/\z∈cd n (jX g nn ss j)\/j = i/\Lt g nn ss j0 (r.2.2.take k) z) B1 k4 (all w) w12:=⟨o10,c10,es10,hes10,hrow10,h.pick 4 [1,2,3]⟩
 have skip:xb g nn e.sym≠true->aw ((k:Int) + 1)/\(∃ (k' B1' : Nat),(k:Int) + 1 = k'/\k'<=r.2.2.length/\B1'<=B0 + k'/\bQ n (λj z=>j < i/\z∈cd n (jX g nn ss j)\/j = i/\Lt g nn ss j0 (r.2.2.take k') z) B1' k4 (all w) w12)/\r.2.2.length - ((k:Int) + 1).toNat < r.2.2.length - (k:Int).toNat:=λhv=>by
  refine ⟨⟨by omega,by omega⟩,⟨k + 1,B1,by simp,h2,by omega,hR.iff λj z _=>?_⟩,bK h2⟩
  rw [htk,Lt.snoc]
  simp [hv]
 refine ⟨λu=>Gr w12 u,Gr.refl _,_,λu s=>r8.cell0 s,_,_,_,λu s=>B.c0 (sub.trans g12 s),aa (λh3=>?_) λh3=>skip λhv=>?_⟩
 rotate_left
 ·have:=Jw hv
  have:=Uy h3
  omega
 have h3:(g.T:Int)<=e.sym:=by rw [hTl]; exact Uz h3
 obtain ⟨m,hm⟩ : ∃ m:Nat,e.sym - (x.tl:Int) = m:=⟨(e.sym - (x.tl:Int)).toNat,by omega⟩
 have hmN:m < g.N:=by omega
 have hvan:xb g nn e.sym = cj nn m:=by
  unfold xb
  rw [U4 h3,Bool.true_and,show e.sym.toNat - g.T = m by omega]
 obtain ⟨bb,hbb⟩ : ∃ bb,nn[m]? = some bb:=⟨_,UB (by rw [hnn.1]; exact hmN)⟩
 have hfn:cj nn m = bb:=by unfold cj; rw [UN,hbb]; rfl
 obtain ⟨bb',bad,hb1,hba,hb2⟩:=rN.dM hmN
 rw [hbb] at hb1; cases hb1
 refine ⟨_,λu s=>hkc.cell0 (sub.trans g12 s),_,_,_,λu s=>rk.cell (sub.trans g12 s) (j:=11) rfl,_,λu s=>r8.cell0 s,_,_,_,λu s=>B.c0 (sub.trans g12 s),⟨by omega,by omega⟩,?_⟩
 rw [hm]
 refine aB hba hmN ⟨bb,λu s=>hb2 _ (sub.trans g12 s),aa (λh4=>?_) λh4=>skip (by rw [hvan,hfn,h4]; simp)⟩
 subst h4
 have hat:=Nb hr he h3
 obtain ⟨u0,hu0,hu1⟩:=vD hA (t:=⟨(j0:Int),e.sym⟩) (by rw [zh hA hat]; omega)
 have hul:u0 < n:=by rw [<- hn]; exact (UA.1 hu1).1
 intro w20 hd3
 have h:=h.eq (aE hd3)
 have g20:Gr w w20:=bj 4 h.l
 have r8:av (hp w20) (aM k8) [.int .i64 e.sym,.int .i64 e.to]:=ag 0 h.l
 have hR:=hR.gr (Gr.drawn hd3)
 refine ⟨λu=>Gr w20 u,Gr.refl _,_,λu s=>hkc.cell0 (sub.trans g20 s),_,λu s=>rk.cell (sub.trans g20 s) (j:=9) rfl,_,λu s=>r8.cell0 s,(df (κ:=aj) hma g20 aL (rfl:ah Ty _ = .map _ _) dW rfl rfl ⟨(j0:Int),e.sym⟩).mono ?_⟩
 rintro _ w24 ⟨rfl,e24⟩
 rw [e24,hN.all,hu0]
 have e25:((u0:Int) + 1) - 1 = (u0:Int):=by omega
 refine ⟨_,rfl,Gr.refl _,⟨by omega,by omega⟩,bz.2 ⟨rfl,?_⟩⟩
 rw [e25]
 refine (Ns (a:=i) hR h1 (by omega)).mono ?_
 rintro _ w25 ⟨rfl,hR⟩
 refine ⟨rfl,⟨by omega,by omega⟩,⟨k + 1,B1 + 1,by simp,h2,by omega,hR.iff λj z _=>?_⟩,bK h2⟩
 rw [htk,Lt.snoc,hu0]
 constructor
 ·rintro ((h | h) | ⟨rfl,rfl⟩)
  ·exact .inl h
  ·exact .inr ⟨h.1,.inl h.2⟩
  ·exact .inr ⟨rfl,.inr ⟨by rw [hvan,hfn],rfl⟩⟩
 ·rintro (h | ⟨rfl,h | h⟩)
  ·exact .inl (.inl h)
  ·exact .inl (.inr ⟨rfl,h⟩)
  ·exact .inr ⟨rfl,by omega⟩
end Go.Proofs.YtndaepmjkbmjmaaGreatDoor
namespace Go.V
theorem Nr.list {n:Nat} {f:Nat->Nat->Bool} {ds:List (Lq Int)} (h:Nr n (λi z=>z∈cd n (f i)) ds):ds.map (·.2) = (List.range n).map λi=>cd n (f i):=by
 obtain ⟨h1,h2⟩:=h
 apply Vq
 intro i
 rw [UD,UD]
 by_cases hi:i < n
 ·have hd:ds[i]? = some ds[i]:=UB (by omega)
  rw [hd,VN hi]
  obtain ⟨r1,r2⟩:=h2 i _ hd
  exact congrArg some (zf r1 (nE n (f i)) r2)
 ·rw [UW (by omega),UW (by simp; omega)]; rfl
theorem bQ.has {n B k:Nat} {P:Nat->Int->Prop} {h0 h1:Hp} {w:Ws} (h:bQ n P B k [V.has h1] w) (s:sub h0 h1):bQ n P B k [V.has h0] w:=by
 obtain ⟨o,c,es,h2,h3,h4⟩:=h
 exact ⟨o,c,es,h2,h3,xY (L:=[_,_,_]) (M:=[V.has h1]) (N:=[V.has h0]) (λh hs=>bY (sub.trans s (kC hs))) h4⟩
theorem bQ.TT {n B k:Nat} {P:Nat->Int->Prop} {L:List au} {w:Ws} (h:bQ n P B k L w):∃ h0,aG L h0/\sub h0 (hp w)/\bQ n P B k [V.has h0] w:=by
 obtain ⟨o,c,es,q1,q2,h1,h2,d1,s1,s2,ha,h3,h4,d2,s3,s4,hb,h5,h6,d3,s5,s6,hc,hl⟩:=h
 exact ⟨h6,hl,s6.trans (s4.trans s2),o,c,es,q1,q2,h1,h2,d1,s1,s2,ha,h3,h4,d2,s3,s4,hb,h5,h6,d3,s5,s6,hc,bY (sub.refl _)⟩
theorem bQ.sb {n B k:Nat} {P:Nat->Int->Prop} {h0:Hp} {w:Ws} (h:bQ n P B k [V.has h0] w):sub h0 (hp w):=by
 obtain ⟨o,c,es,h1,h2,h3⟩:=h
 exact bj 3 h3.l
section
variable {g:ae} {ss:List SQ}
theorem CG (hc:aq g) (hA:dh g ss) {i m:Nat} {q:SQ} {p:aO} (hq:ss[i]? = some q) (hp:g.prods[m]? = some p) (hy:BE g q.1.2 ⟨(m:Int),0⟩):p.right.length<=256:=by
 obtain ⟨j,r,_,e2,e3⟩:=t_ hc hA hp p.right.length 0 (by omega) i q hq (by simpa using hy)
 obtain ⟨_,_,_,hP2,_,_⟩:=hc.gB
 have hd:=(l_ (g:=g) (by omega) j).dots j _ (Ak hA e2).1
 have hj:=(UA.1 e2).1
 have h256:=hA.dn.2.1
 have:=e3.dot (d:=j) hd (Vs _)
 simp at this
 omega
theorem F_ (hc:aq g) (hA:dh g ss) {i:Nat} {t:aj} (ht:(bG g ss)[i]? = some t) {m:Nat} {p:aO} (hp:g.prods[m]? = some p) (hl:p.left = t.sym):∃ (i0:Nat) (q:SQ),t.st = i0/\ss[i0]? = some q/\BE g q.1.2 ⟨(m:Int),0⟩:=by
 obtain ⟨i0,q0,k0,e0,hi0,hq0,he0,hge,hte⟩:=jg (UC ht)
 obtain ⟨_,_,j,r,_,_,hr,hrk,hne⟩:=kS hc hA hq0 he0
 obtain ⟨x,hx⟩:=List.exists_mem_of_ne_nil _ hne
 obtain ⟨y,h1,h2,_⟩:=kP.1 hx
 refine ⟨i0,q0,by rw [hte],hq0,.step h1 (by rw [h2]; omega) hp ?_⟩
 rw [hl,h2,hte]
theorem Nt (hc:aq g) (hA:dh g ss) {q:Int} {row:List Int} {k:Nat} {s:Int} (h0:0<=q) (h1:q < ss.length) (hs:row[k]? = some s):RQ ss ⟨cX ss q (row.take k),s⟩ - 1 = cX ss q (row.take (k + 1)):=by
 have hn:∀ i s j,lC ss i s = some j->0<=j/\j < ss.length:=λi s j h=>vy hc hA h
 rw [cJ hs,F1 hn _ _ _ h0 h1]
 unfold RQ
 rcases As hn (row.take k) q h0 h1 with e | ⟨e1,e2⟩
 ·rw [e,UJ (by show (-1:Int) < 0; omega),UJ rfl]; rfl
 ·rw [UE (by show ¬cX ss q (row.take k) < 0; omega),UE (by omega),rP]
  show (match lC ss (cX ss q (row.take k)).toNat s with | some j=>j + 1 | none=>0) - 1 = _
  cases lC ss (cX ss q (row.take k)).toNat s with
  | none=>rfl
  | some j=>show j + 1 - 1 = j; omega
end
end Go.V
namespace Go.Proofs.YtndaepmjkbmjmaaGreatDoor
variable {w:Ws} {L:List au} {g:ae} {x:GA} {ss:List SQ} {nn:List Bool}
theorem qF (hc:aq g) (hA:dh g ss):(bG g ss).length<=33280:=by
 have hk:∀ q∈ss,q.2.2.length<=130:=λq hq=>(hA.BI hc q hq).2
 have h1:=vx (g:=g) hk ss.length
 have h2:=hA.dn.2.1
 show (rM g ss ss.length).length<=_
 omega
theorem PZ (hg:gR (hp w) g x) (hb:iK g) (ht:dG (hp w)):ay Tryz.prog kZ [.agg ⟨x.cells⟩] w λv w'=>∃ (ss:List SQ) (ask int f:Int) (nn:List Bool) (o:Wr) (c:Nat) (ds:List (Lq Int)),v = .tuple #[.slice o ds.length c,.int .i64 f]/\rK g ss ask int f/\(f = 0->uf g nn)/\ds.map (·.2) = Ax g nn ss/\St w' (own 1 o ds.length c (ds.map cF) :: aT (ds.map (b_ 1 iv)) :: all w):=by
 refine xd (cQ hg λk1 w1 gw hg B=>?_)
 refine ⟨_,_,_,_,_,_,_,_,_,_,_,_,_,B.row (sub.refl _),(H4 hg hb (fp.mono gw ht)).mono ?_⟩
 rintro _ w2 ⟨ss,ask,int,f,p,rfl,hR,g2,h0,hn⟩
 refine ⟨_,_,rfl,af (St.all w2) λk10 w3 h=>bC h (by simp) λw4 h=>?_⟩
 have g24:Gr w2 w4:=h.aR
 have r10:av (hp w4) (aM k10) [.pointer p]:=ag 0 h.l
 clear h
 have g14:=g2.trans g24
 refine aa (λh1=>?_) λh1=>?_
 ·have h1:f≠0:=by simpa using h1
  have hz:ss = []:=by rcases hR with ⟨_,e,_⟩ | ⟨_,_,e,_⟩ | ⟨_,_,_,_,e⟩ <;> first | exact e | exact absurd e h1
  subst hz
  exact ⟨[],ask,int,f,[],none,0,[],rfl,hR,λh=>absurd h h1,rfl,az 1 ((St.flat (M:=[])).2 (St.here (gw.trans g14)))⟩
 have h1:f = 0:=by simpa using h1
 subst h1
 obtain ⟨hc,hA⟩:=hR.FW rfl
 obtain ⟨k,nn,rfl,hnn,hw⟩:=h0 rfl
 have hw:=hw.mono g24
 have B4:GB (hp w4) k1 x:=⟨λs=>B.c0 (sub.trans g14 s),λs=>B.c1 (sub.trans g14 s),λs=>B.c2 (sub.trans g14 s),λs=>B.c3 (sub.trans g14 s),λs=>B.c4 (sub.trans g14 s),λs=>B.row (sub.trans g14 s)⟩
 have hnl:=qF hc hA
 refine ⟨_,r10.cell0 (sub.refl _),(Jv (P:=λi z=>z∈cd (bG g ss).length (jX g nn ss i)) hw rfl hnl rfl λk4 w0 hR0=>KT hw hc hA hnn r10 B4 hg.t.1 rfl hnl hR0).mono ?_⟩
 rintro _ w5 ⟨o,c,ds,rfl,hds,h⟩
 have hdl:=hds.1
 refine ⟨_,_,_,rfl,ss,ask,int,0,nn,o,c,ds,by rw [hdl],hR,λ_=>hnn,hds.list,?_⟩
 rw [hdl]
 exact St.IV h (bY (gw.trans g14))
theorem P0 {kw k1:Nat} {s:Int} (hw:Nq (hp w) g ss nn kw) (hnn:uf g nn) (hc:aq g) (r1:av (hp w) (aM k1) [.pointer (some (aM kw))]) (hs0:0<=s) (hs1:s < g.T + g.N):ay Tryz.prog fj [.int .i64 s,.pointer (some (aM k1))] w λv w'=>v = .bool (!xb g nn s)/\Gr w w':=by
 obtain ⟨x',o,c,a,int,ol,cl,ka,kt,on,cn,kp,ma,mt,mp,rk,hg,hs,rT,hma,hN,hmt,hTo,rN,_,_⟩:=hw.ex
 obtain ⟨sT,sN,sP,_,_,_⟩:=hc.gB
 have hTl:g.T = x'.tl:=hg.t.1
 refine jQ ?_
 intro w1 hd
 have g1:Gr w w1:=Gr.drawn hd
 refine ⟨λu=>Gr w1 u,Gr.refl _,_,λu s=>r1.cell0 (sub.trans g1 s),_,_,_,λu s=>rk.cell0 (sub.trans g1 s),aa (λh3=>⟨?_,g1⟩) λh3=>?_⟩
 ·have h3:¬(g.T:Int)<=s:=by have:=Uz h3; omega
  unfold xb
  rw [U5 h3]; rfl
 have h3:(g.T:Int)<=s:=by have:=Uy h3; omega
 obtain ⟨m,hm⟩ : ∃ m:Nat,s - (x'.tl:Int) = m:=⟨(s - (x'.tl:Int)).toNat,by omega⟩
 have hmN:m < g.N:=by omega
 obtain ⟨bb,bad,hb1,hba,hb2⟩:=rN.dM hmN
 refine ⟨_,λu s=>r1.cell0 (sub.trans g1 s),_,_,_,λu s=>rk.cell (sub.trans g1 s) (j:=11) rfl,_,λu s=>r1.cell0 (sub.trans g1 s),_,_,_,λu s=>rk.cell0 (sub.trans g1 s),⟨by omega,by omega⟩,?_⟩
 rw [hm]
 refine aB hba hmN ⟨bb,λu s=>hb2 _ (sub.trans g1 s),?_,g1⟩
 unfold xb
 rw [U4 h3,Bool.true_and,show s.toNat - g.T = m by omega]
 have hfn:cj nn m = bb:=IW hb1
 rw [hfn]
theorem H5 {kw l c:Nat} {a:Wr} {row:List Int} (hw:Nq (hp w) g ss nn kw) (hnn:uf g nn) (hc:aq g) (hr:aX (hp w) row a l) (hl:l<=4611686018427387904) (hrow:∀ s∈row,0<=s/\s < g.T + g.N):ay Tryz.prog nG [.pointer (some (aM kw)),.slice a l c] w λv w'=>v = .bool (BJ g nn row)/\Gr w w':=by
 refine lT (af (St.all w) λk1 w1 h=>?_)
 have g1:Gr w w1:=h.aR
 have r1:av (hp w1) (aM k1) [.pointer (some (aM kw))]:=ag 0 h.l
 clear h
 have hr:=hr.mono g1
 have hw:=hw.mono g1
 refine db ?_
 have key:ay Tryz.prog eF [.slice a l c,.func (.func fj) #[] #[.pointer (some (aM k1))]] w1 λv w'=>(∃ n:Int,v = .int .i64 n/\(decide (0<=n) = !BJ g nn row))/\Gr w1 w':=by
  refine dH ?_
  refine ⟨λn w'=>∃ j:Nat,n = j/\j<=l/\BJ g nn (row.take j) = true/\Gr w1 w',λn _=>l - n.toNat,⟨0,rfl,by omega,rfl,Gr.refl _⟩,?_⟩
  rintro _ n w2 ⟨j,rfl,hj,ha,g2⟩
  refine aa (λh1=>?_) λh1=>?_
  ·have h1:j < l:=by have:=Uz h1; omega
   obtain ⟨y,ad,hy1,hya,hy2⟩:=hr.dM h1
   have hym:=UC hy1
   refine aB hya h1 ⟨y,hy2 _ g2,bz.2 ⟨rfl,(P0 (hw.mono g2) hnn hc (r1.mono g2) (hrow y hym).1 (hrow y hym).2).mono ?_⟩⟩
   rintro _ w3 ⟨rfl,g3⟩
   refine ⟨_,rfl,aa (λh2=>⟨⟨_,rfl,?_⟩,g2.trans g3⟩) λh2=>⟨⟨by omega,by omega⟩,⟨j + 1,by simp,by omega,?_,g2.trans g3⟩,bK h1⟩⟩
   ·have hv:xb g nn y = false:=by simpa using h2
    have:BJ g nn row = false:=by
     unfold BJ
     refine Bool.eq_false_iff.2 λh=>?_
     have:=V3.1 h y hym
     rw [hv] at this; cases this
    rw [this]; simp
   ·unfold BJ at ha ⊢
    rw [cJ hy1,Wh,ha]
    simpa using h2
  ·have h1:j = l:=by have:=Uy h1; omega
   subst h1
   rw [UX (by have:=hr.1; omega)] at ha
   exact ⟨⟨_,rfl,by rw [ha]; rfl⟩,g2⟩
 refine key.mono ?_
 rintro _ w2 ⟨⟨n,rfl,hn⟩,g2⟩
 refine ⟨n,rfl,_,rfl,?_,g1.trans g2⟩
 rw [hn,Bool.not_not]
theorem Jy {J:Nat->Ws->Prop} {H:Hp} {kw l c:Nat} {a:Wr} {row:List Int} {q:Int} {fg:FuncId} {fc:List Value} (hw:Nq H g ss nn kw) (hc:aq g) (hA:dh g ss) (hr:aX H row a l) (hl:l<=4611686018427387904) (h0:0<=q) (h1:q < ss.length) (hF:Fn fg = true)
  (hJ0:J 0 w) (hJs:∀ k u,J k u->sub H (hp u)) (hst:∀ (k:Nat) (u:Ws) (s:Int),row[k]? = some s->J k u->ay Tryz.prog fg (.int .i64 (cX ss q (row.take k)) :: .int .i64 (k:Int) :: fc) u λv u'=>v = .tuple (Array.mk [])/\J (k + 1) u') :
  ay Tryz.prog qD [.pointer (some (aM kw)),.int .i64 q,.slice a l c,.func (.func fg) (Array.mk []) (Array.mk fc)] w λv w'=>v = .int .i64 (cX ss q row)/\J l w':=by
 obtain ⟨x',o,c',a',int,ol,cl,ka,kt,on,cn,kp,ma,mt,mp,rk,hg,hs,rT,hma,hN,hmt,hTo,rN,_,_⟩:=hw.ex
 have hrl:=hr.1
 have h256:=hA.dn.2.1
 have hn:∀ i s j,lC ss i s = some j->0<=j/\j < ss.length:=λi s j h=>vy hc hA h
 refine oq ⟨λst z w'=>∃ k:Nat,z = k/\k<=l/\st = cX ss q (row.take k)/\J k w',λ_ z _=>l - z.toNat,⟨0,rfl,UM _,rfl,hJ0⟩,?_⟩
 rintro _ _ _ w1 ⟨k,rfl,hk,rfl,hJ⟩
 refine aa (λh2=>?_) λh2=>?_
 rotate_left
 ·have h2:k = l:=by have:=Uy h2; omega
  subst h2
  exact ⟨by rw [UX (by omega)],hJ⟩
 have h2:k < l:=by have:=Uz h2; omega
 have s1:=hJs _ _ hJ
 obtain ⟨y,ad,hy1,hya,hy2⟩:=hr.dM h2
 refine aB hya h2 ⟨y,hy2 _ s1,bz.2 ⟨hF,(hst k w1 y hy1 hJ).mono ?_⟩⟩
 rintro _ w2 ⟨rfl,hJ⟩
 have s2:=hJs _ _ hJ
 refine ⟨rfl,_,rk.cell s2 (j:=10) rfl,(df (κ:=aj) hmt s2 aL (rfl:ah Ty _ = .map _ _) dW rfl rfl ⟨cX ss q (row.take k),y⟩).mono ?_⟩
 rintro _ w3 ⟨rfl,rfl⟩
 rw [hTo.all]
 have e:=Nt hc hA h0 h1 hy1
 have hw2:=As hn (row.take (k + 1)) q h0 h1
 refine ⟨_,rfl,⟨by omega,by omega⟩,⟨by omega,by omega⟩,⟨k + 1,by simp,h2,e,hJ⟩,bK h2⟩
end Go.Proofs.YtndaepmjkbmjmaaGreatDoor
namespace Go.V
section
variable {g:ae} {ss:List SQ} {nn:List Bool}
def Ga (g:ae) (nn:List Bool) (ss:List SQ) (t:aj) (p:aO) (k j:Nat):Prop:=∃ (k' : Nat) (s:Int),k' < k/\p.right[k']? = some s/\ug g ss ⟨cX ss t.st (p.right.take k'),s⟩ = (j:Int) + 1/\BJ g nn (p.right.drop (k' + 1)) = true
def vH (g:ae) (nn:List Bool) (ss:List SQ) (t:aj) (ms:List Nat) (j:Nat):Prop:=∃ m∈ms,∃ p,g.prods[m]? = some p/\Ga g nn ss t p p.right.length j
theorem Ga.succ {t:aj} {p:aO} {k j:Nat} {s:Int} (hs:p.right[k]? = some s):Ga g nn ss t p (k + 1) j↔Ga g nn ss t p k j\/(ug g ss ⟨cX ss t.st (p.right.take k),s⟩ = (j:Int) + 1/\BJ g nn (p.right.drop (k + 1)) = true):=by
 unfold Ga
 constructor
 ·rintro ⟨k',s',h1,h2,h3⟩
  by_cases e:k' = k
  ·subst e; rw [hs] at h2; cases h2; exact .inr h3
  ·exact .inl ⟨k',s',by omega,h2,h3⟩
 ·rintro (⟨k',s',h1,h2⟩ | h)
  ·exact ⟨k',s',by omega,h2⟩
  ·exact ⟨k,s,by omega,hs,h⟩
theorem vH.snoc {t:aj} {ms:List Nat} {m j:Nat} {p:aO} (hp:g.prods[m]? = some p):vH g nn ss t (ms ++ [m]) j↔vH g nn ss t ms j\/Ga g nn ss t p p.right.length j:=by
 unfold vH
 constructor
 ·rintro ⟨m',h1,p',h2,h3⟩
  rw [UF,U2] at h1
  rcases h1 with h1 | rfl
  ·exact .inl ⟨m',h1,p',h2,h3⟩
  ·rw [hp] at h2; cases h2; exact .inr h3
 ·rintro (⟨m',h1,h⟩ | h)
  ·exact ⟨m',by simp [h1],h⟩
  ·exact ⟨m,by simp,p,hp,h⟩
theorem Gb (hA:dh g ss) {t:aj} {j:Nat}:ug g ss t = (j:Int) + 1↔(bG g ss)[j]? = some t:=by
 constructor
 ·intro h
  obtain ⟨u,hu,hu2⟩:=vD hA (t:=t) (by omega)
  have:u = j:=by omega
  subst this; exact hu2
 ·exact zh hA
theorem vH.iff (hA:dh g ss) {i j:Nat} {t:aj} (ht:(bG g ss)[i]? = some t):vH g nn ss t (Bj g g.prods.length t.sym) j↔Aw g nn ss j i = true:=by
 unfold Aw
 rw [ht]
 simp only [V4,U8,UT,UO]
 constructor
 ·rintro ⟨m,hm,p,hp,k,s,hk,hs,hn,hv⟩
  obtain ⟨h0,p',hp',hl⟩:=rQ.1 hm
  rw [hp] at hp'; cases hp'
  refine ⟨m,(UA.1 hp).1,by omega,?_⟩
  rw [hp]
  simp only [UT,UO,V4,U8]
  refine ⟨hl,k,hk,?_,hv⟩
  rw [(Gb hA).1 hn,UN,hs]; rfl
 ·rintro ⟨m,hm,h0,h⟩
  cases hp:g.prods[m]? with
  | none=>rw [hp] at h; cases h
  | some p =>
   rw [hp] at h
   simp only [UT,UO,V4,U8] at h
   obtain ⟨hl,k,hk,hn,hv⟩:=h
   have hs:p.right[k]? = some p.right[k]:=UB hk
   refine ⟨m,rQ.2 ⟨by omega,p,hp,hl⟩,p,hp,k,_,hk,hs,?_,hv⟩
   rw [Gb hA,hn,UN,hs]; rfl
def xf (g:ae) (nn:List Bool) (ss:List SQ) (i:Nat) (j:Nat) (z:Int):Prop:=∃ (i' : Nat) (t:aj),i' < i/\z = i'/\(bG g ss)[i']? = some t/\vH g nn ss t (Bj g g.prods.length t.sym) j
theorem xf.succ {i j:Nat} {z:Int} {t:aj} (ht:(bG g ss)[i]? = some t):xf g nn ss (i + 1) j z↔xf g nn ss i j z\/(z = i/\vH g nn ss t (Bj g g.prods.length t.sym) j):=by
 unfold xf
 constructor
 ·rintro ⟨i',t',h1,h2,h3,h4⟩
  by_cases e:i' = i
  ·subst e; rw [ht] at h3; cases h3; exact .inr ⟨h2,h4⟩
  ·exact .inl ⟨i',t',by omega,h2,h3,h4⟩
 ·rintro (⟨i',t',h1,h2⟩ | ⟨h1,h2⟩)
  ·exact ⟨i',t',by omega,h2⟩
  ·exact ⟨i,t,by omega,h1,ht,h2⟩
theorem xf.all (hA:dh g ss) {j:Nat} {z:Int}:xf g nn ss (bG g ss).length j z↔z∈cd (bG g ss).length (Aw g nn ss j):=by
 rw [ju]
 constructor
 ·rintro ⟨i,t,h1,h2,h3,h4⟩
  exact ⟨i,h2,h1,(vH.iff hA h3).1 h4⟩
 ·rintro ⟨i,h2,h1,h4⟩
  have h3:(bG g ss)[i]? = some (bG g ss)[i]:=UB h1
  exact ⟨i,_,h1,h2,h3,(vH.iff hA h3).2 h4⟩
end
end Go.V
namespace Go.Proofs.YtndaepmjkbmjmaaGreatDoor
variable {w:Ws} {L:List au} {g:ae} {x:GA} {ss:List SQ} {nn:List Bool}
theorem Nu {H:Hp} {n kw kc kr ke ki k4 i k rl rc B:Nat} {ra:Wr} {row:List Int} {st s:Int} {P:Nat->Int->Prop} (hw:Nq H g ss nn kw) (hnn:uf g nn) (hc:aq g) (hA:dh g ss) (r1:av H (aM kc) [.pointer (some (aM kw))]) (r2:av H (aM kr) [.slice ra rl rc]) (r3:av H (aM ke) [.func (.func a_) (Array.mk []) (Array.mk [.pointer (some (aM k4))])]) (r4:av H (aM ki) [.int .i64 (i:Int)])
  (hr:aX H row ra rl) (hlc:rl<=rc) (hl:rl<=4611686018427387904) (hrow:∀ s∈row,0<=s/\s < g.T + g.N) (hs:row[k]? = some s) (hn:(bG g ss).length = n) (hn2:n<=33280) (hB:B<=4611686018427) (hR:bQ n P B k4 [has H] w) :
  ay Tryz.prog nF [.int .i64 st,.int .i64 (k:Int),.pointer (some (aM kc)),.pointer (some (aM kr)),.pointer (some (aM ke)),.pointer (some (aM ki))] w λv w'=>v = .tuple (Array.mk [])/\∃ B',B'<=B + 1/\bQ n (λj z=>P j z\/z = i/\ug g ss ⟨st,s⟩ = (j:Int) + 1/\BJ g nn (row.drop (k + 1)) = true) B' k4 [has H] w':=by
 obtain ⟨x',o,c',a',int,ol,cl,ka,kt,on,cn,kp,ma,mt,mp,rk,hg,hss,rT,hma,hN,hmt,hTo,rN,_,_⟩:=hw.ex
 have hkl:k < rl:=by have:=hr.1; have:=(UA.1 hs).1; omega
 have s0:=hR.sb
 refine lQ ?_
 intro w1 hd
 have hR:=hR.gr (Gr.drawn hd)
 have s1:=hR.sb
 obtain ⟨y,ad,hy1,hya,hy2⟩:=hr.dM hkl
 rw [hs] at hy1; cases hy1
 refine ⟨λu=>Gr w1 u,Gr.refl _,_,λu g=>r1.cell0 (sub.trans s1 g),_,λu g=>rk.cell (sub.trans s1 g) (j:=9) rfl,_,_,_,λu g=>r2.cell0 (sub.trans s1 g),aB hya hkl ⟨s,λu g=>hy2 _ (sub.trans s1 g),(df (κ:=aj) hma s1 aL (rfl:ah Ty _ = .map _ _) dW rfl rfl ⟨st,s⟩).mono ?_⟩⟩
 rintro _ w6 ⟨rfl,e6⟩
 rw [hN.all]
 refine ⟨_,rfl,by rw [e6]; exact Gr.refl _,?_⟩
 intro w7 hd2
 have hR:=hR.gr (by rw [<- e6]; exact Gr.drawn hd2:Gr w1 w7)
 have s7:=hR.sb
 refine ⟨λu=>Gr w7 u,Gr.refl _,aa (λh1=>?_) λh1=>?_⟩
 rotate_left
 ·refine ⟨rfl,B,by omega,hR.iff λj z _=>⟨.inl,λh=>h.elim id λh=>?_⟩⟩
  have:=Uy h1
  omega
 have h1:=Uz h1
 obtain ⟨u0,hu0,hu1⟩:=vD hA h1
 have hul:u0 < n:=by rw [<- hn]; exact (UA.1 hu1).1
 have ek:(k:Int) + 1 = ((k + 1:Nat):Int):=by omega
 refine ⟨_,λu g=>r1.cell0 (sub.trans s7 g),_,_,_,λu g=>r2.cell0 (sub.trans s7 g),⟨by omega,by omega⟩,?_⟩
 rw [ek]
 refine cO (by omega) hlc ((H5 (hw.mono s7) hnn hc ((hr.drop (k:=k + 1) (m:=rc) (by omega) hlc).mono s7) (by omega) λs hs=>hrow s (VR hs)).mono ?_)
 rintro _ w10 ⟨rfl,g10⟩
 have hR:=hR.gr g10
 have s10:=hR.sb
 refine ⟨_,rfl,g10,aa (λh2=>?_) λh2=>?_⟩
 rotate_left
 ·exact ⟨rfl,B,by omega,hR.iff λj z _=>⟨.inl,λh=>h.elim id λh=>by rw [h.2.2] at h2; cases h2⟩⟩
 have eu:ug g ss ⟨st,s⟩ - 1 = (u0:Int):=by omega
 refine ⟨_,_,r3.cell0 s10,⟨by omega,by omega⟩,_,r4.cell0 s10,bz.2 ⟨rfl,?_⟩⟩
 rw [eu]
 refine (Ns (a:=u0) hR hul (by omega)).mono ?_
 rintro _ w11 ⟨rfl,hR⟩
 refine ⟨rfl,rfl,B + 1,by omega,hR.iff λj z _=>?_⟩
 constructor
 ·rintro (h | ⟨rfl,rfl⟩)
  ·exact .inl h
  ·exact .inr ⟨rfl,hu0,h2⟩
 ·rintro (h | ⟨rfl,h,_⟩)
  ·exact .inl h
  ·exact .inr ⟨by omega,rfl⟩
theorem P1 {n kw kc k1 k4:Nat} {w0:Ws} (hw:Nq (hp w) g ss nn kw) (hc:aq g) (hA:dh g ss) (hnn:uf g nn) (hkc:av (hp w) (aM kc) [.pointer (some (aM kw))]) (B:GB (hp w) k1 x) (hgx:gR (hp w) g x) (hn:(bG g ss).length = n) (hn2:n<=33280)
  (hR:bQ n (λ_ _=>False) 0 k4 (all w) w0) :
  ay Tryz.prog qE [.func (.func a_) (Array.mk []) (Array.mk [.pointer (some (aM k4))]),.pointer (some (aM kc)),.pointer (some (aM k1))] w0 λv w'=>v = .tuple (Array.mk [])/\∃ B,B<=4611686018427387/\bQ n (λj z=>z∈cd n (Aw g nn ss j)) B k4 (all w) w':=by
 obtain ⟨x',o,c,a,int,ol,cl,ka,kt,on,cn,kp,ma,mt,mp,rk,hg,hs,rT,hma,hN,hmt,hTo,rN,hmp,hby⟩:=hw.ex
 rw [hn] at rk rT
 have hkl:=hA.BI hc
 obtain ⟨sT,sN,sP,_,_,_⟩:=hc.gB
 have h256:=hA.dn.2.1
 have pl:=hgx.p.1
 refine oy ?_
 obtain ⟨oo,co,es,q1,q2,h⟩:=hR
 refine af h λke w1 h=>?_
 have hR:bQ n (λ_ _=>False) 0 k4 (aS ke [.func (.func a_) (Array.mk []) (Array.mk [.pointer (some (aM k4))])] :: all w) w1:=⟨oo,co,es,q1,q2,h.pick 4 [1,2,3,0]⟩
 clear h q1 q2
 obtain ⟨he,hel,_,hR⟩:=hR.TT
 have rE:av he (aM ke) [.func (.func a_) (Array.mk []) (Array.mk [.pointer (some (aM k4))])]:=ag 0 hel
 have swe:sub (hp w) he:=bj 1 hel
 have s1:=sub.trans swe hR.sb
 refine ⟨_,hkc.cell0 s1,_,_,_,rk.cell s1 (j:=8) rfl,λz w'=>∃ (i B:Nat),z = i/\i<=n/\B<=i * 30000/\bQ n (xf g nn ss i) B k4 [has he] w',λz _=>n - z.toNat,
  ⟨0,0,rfl,UM _,UM _,hR.iff λj z _=>⟨λh=>h.elim,λh=>by obtain ⟨_,_,h,_⟩:=h; omega⟩⟩,?_⟩
 clear hR s1
 rintro _ _ w2 ⟨i,B0,rfl,hi,hB0,hR⟩
 have s2:=sub.trans swe hR.sb
 refine aa (λh1=>?_) λh1=>?_
 rotate_left
 ·have h1:i = n:=by have:=Uy h1; omega
  subst h1
  refine ⟨rfl,B0,by omega,(hR.has swe).iff λj z _=>?_⟩
  rw [<- hn]; exact xf.all hA
 have h1:i < n:=by have:=Uz h1; omega
 obtain ⟨t,tad,ht,hta,rt⟩:=qA rT h1
 obtain ⟨i0,q0,k0,e0,hi0,hq0,he0,hge,hte⟩:=jg (UC ht)
 have hst0:0<=t.st:=by rw [hte]; exact Vs _
 have hst1:t.st < ss.length:=by rw [hte]; show (i0:Int) < _; omega
 obtain ⟨oo,co,es,q1,q2,h⟩:=hR
 refine ak hta h1 ⟨_,_,rt.at s2 rfl,af h λki w3 h=>af h λk5 w4 h=>bC (h.pick 2 [1,0]) (by simp) λw5 h=>aI (h.pick 2 [1,0]) rfl (by simp [aH]) λw6 h=>?_⟩
 have h:St w6 (aS k5 [.int .i64 t.st,.int .i64 t.sym] :: aS ki [.int .i64 (i:Int)] :: aS k4 [.slice oo n co] :: own 1 oo n co (es.map cF) :: aT (es.map (b_ 1 iv)) :: [has he]):=h
 have hR:bQ n (xf g nn ss i) B0 k4 (aS k5 [.int .i64 t.st,.int .i64 t.sym] :: aS ki [.int .i64 (i:Int)] :: [has he]) w6:=⟨oo,co,es,q1,q2,h.pick 5 [2,3,4,0,1]⟩
 clear h q1 q2
 intro w7 hd
 have hR:=hR.gr (Gr.drawn hd)
 obtain ⟨hi0,hil,_,hR⟩:=hR.TT
 have r5:av hi0 (aM k5) [.int .i64 t.st,.int .i64 t.sym]:=ag 0 hil
 have rI:av hi0 (aM ki) [.int .i64 (i:Int)]:=ag 1 hil
 have sei:sub he hi0:=bj 2 hil
 have s7:=hR.sb
 have sw7:=sub.trans swe (sub.trans sei s7)
 refine ⟨λu=>Gr w7 u,Gr.refl _,_,λu g=>hkc.cell0 (sub.trans sw7 g),_,λu g=>rk.cell (sub.trans sw7 g) (j:=12) rfl,_,λu g=>r5.cell (sub.trans s7 g) (j:=1) rfl,(df (κ:=Int) hmp sw7 aL (rfl:ah Ty _ = .map _ _) (qi.zY bp) rfl rfl t.sym).mono ?_⟩
 rintro _ w11 ⟨rfl,e11⟩
 obtain ⟨ba,bc,hb1,hb2⟩:=hby t.sym
 rw [hb1]
 generalize hbs:Bj g g.prods.length t.sym = bys at *
 have hbl:bys.length<=97:=by rw [<- hbs]; exact U7 (zg _ _ _) sP
 refine ⟨_,_,_,rfl,by rw [e11]; exact Gr.refl _,λz w'=>∃ (m B:Nat),z = m/\m<=bys.length/\B<=B0 + m * 300/\bQ n (λj z=>xf g nn ss i j z\/z = i/\vH g nn ss t (bys.take m) j) B k4 [has hi0] w',λz _=>bys.length - z.toNat,
  ⟨0,B0,rfl,UM _,by omega,by rw [e11]; exact hR.iff λj z _=>⟨.inl,λh=>h.elim id λh=>by obtain ⟨_,m,hm,_⟩:=h; simp at hm⟩⟩,?_⟩
 clear hR e11 hd s7 sw7
 rintro _ _ w12 ⟨m,B1,rfl,hm,hB1,hR⟩
 have s12:=hR.sb
 have sw12:=sub.trans swe (sub.trans sei s12)
 refine aa (λh2=>?_) λh2=>?_
 rotate_left
 ·have h2:m = bys.length:=by have:=Uy h2; omega
  rw [h2,UZ] at hR
  refine ⟨⟨by omega,by omega⟩,⟨i + 1,B1,by simp,h1,by omega,(hR.has sei).iff λj z _=>?_⟩,bK h1⟩
  rw [xf.succ ht,hbs]
 have h2:m < bys.length:=by have:=Uz h2; omega
 obtain ⟨pm,hpm⟩ : ∃ pm,bys[m]? = some pm:=⟨_,UB h2⟩
 obtain ⟨_,p,hp,hpl⟩:=rQ.1 (hbs ▸ UC hpm)
 have hpml:pm < x.pl:=by have:=(UA.1 hp).1; omega
 have hpr:=UC hp
 obtain ⟨i0',q',e1',hq',hcl'⟩:=F_ hc hA ht hp hpl
 have hrl:=CG hc hA hq' hp hcl'
 obtain ⟨bv,bad,hbv,hba,hbc⟩:=hb2.dM h2
 rw [UD,hpm] at hbv
 cases hbv
 obtain ⟨p',pad,pvs,hp1,hpa,hp2,ra,rl,rc,rfl,hrc,hp3⟩:=hgx.p.get hpml
 rw [hp] at hp1; cases hp1
 have rl1:=hp3.1
 refine aB hba h2 ⟨_,hbc _ sw12,_,_,_,B.c4 sw12,ak hpa hpml ⟨_,_,_,hp2.cell sw12 (j:=1) rfl,?_⟩⟩
 obtain ⟨oo,co,es,q1,q2,h⟩:=hR
 refine af h λkr w13 h=>bC h (by simp) λw14 h=>?_
 have hR:bQ n (λj z=>xf g nn ss i j z\/z = i/\vH g nn ss t (bys.take m) j) B1 k4 (aS kr [.slice ra rl rc] :: [has hi0]) w14:=⟨oo,co,es,q1,q2,h.pick 4 [1,2,3,0]⟩
 clear h q1 q2
 obtain ⟨hm0,hml,_,hR⟩:=hR.TT
 have rR:av hm0 (aM kr) [.slice ra rl rc]:=ag 0 hml
 have sim:sub hi0 hm0:=bj 1 hml
 have s14:=hR.sb
 have swm:=sub.trans swe (sub.trans sei sim)
 have sw14:=sub.trans swm s14
 have hrow:∀ s∈p.right,0<=s/\s < g.T + g.N:=λs hs=>by have:=hc.sym hpr hs; omega
 refine ⟨_,hkc.cell0 sw14,_,r5.cell0 (sub.trans sim s14),_,_,_,rR.cell0 s14,(Jy (J:=λk u=>∃ B',B'<=B1 + k/\bQ n (λj z=>(xf g nn ss i j z\/z = i/\vH g nn ss t (bys.take m) j)\/z = i/\Ga g nn ss t p k j) B' k4 [has hm0] u) (hw.mono swm) hc hA (hp3.mono swm) (by omega) hst0 hst1 rfl
  ⟨B1,by omega,hR.iff λj z _=>⟨.inl,λh=>h.elim id λh=>by obtain ⟨_,_,_,h,_⟩:=h; omega⟩⟩ (λk u ⟨_,_,h⟩=>h.sb) λk u s hs ⟨B',hB',h⟩=>?_).mono ?_⟩
 ·have hkl:k < p.right.length:=(UA.1 hs).1
  refine (Nu (hw.mono swm) hnn hc hA (hkc.mono swm) rR (rE.mono (sub.trans sei sim)) (rI.mono sim) (hp3.mono swm) hrc (by omega) hrow hs hn hn2 (by omega) h).mono ?_
  rintro _ u' ⟨rfl,B2,hB2,h⟩
  refine ⟨rfl,B2,by omega,h.iff λj z _=>?_⟩
  rw [Ga.succ hs]
  constructor
  ·rintro ((h | h) | h)
   ·exact .inl h
   ·exact .inr ⟨h.1,.inl h.2⟩
   ·exact .inr ⟨h.1,.inr h.2⟩
  ·rintro (h | ⟨h,h2 | h2⟩)
   ·exact .inl (.inl h)
   ·exact .inl (.inr ⟨h,h2⟩)
   ·exact .inr ⟨h,h2⟩
 rintro _ w15 ⟨rfl,B',hB',hR⟩
 have htk:bys.take (m + 1) = bys.take m ++ [pm]:=by rw [UI,hpm]; rfl
 refine ⟨_,rfl,⟨by omega,by omega⟩,⟨m + 1,B',by simp,h2,by omega,(hR.has sim).iff λj z _=>?_⟩,bK h2⟩
 rw [htk,vH.snoc hp,<- rl1]
 constructor
 ·rintro ((h | h) | h)
  ·exact .inl h
  ·exact .inr ⟨h.1,.inl h.2⟩
  ·exact .inr ⟨h.1,.inr h.2⟩
 ·rintro (h | ⟨h,h2 | h2⟩)
  ·exact .inl (.inl h)
  ·exact .inl (.inr ⟨h,h2⟩)
  ·exact .inr ⟨h,h2⟩
end Go.Proofs.YtndaepmjkbmjmaaGreatDoor
namespace Go.V
section
variable {κ α : Type} [DecidableEq κ] {sz:Nat} {f:List α->List Value} {s t:κ}
theorem Nv {q:Lq α}:∀ {ps:List (κ × Lq α)},(ps.map Prod.fst).Nodup->cW s ps = some q->(mO sz f ps).Perm (b_ sz f q :: mO sz f (ps.filter λe=>decide (e.1≠s)))
 | [],_,h=>by cases h
 | (a,u) :: m,hn,h=>by
  rw [Vh,Vy] at hn
  unfold cW at h
  by_cases e:s = a
  ·subst e
   rw [UJ rfl] at h
   cases h
   have e2:((s,q) :: m).filter (λe=>decide (e.1≠s)) = m:=by
    rw [List.filter_cons,UE (by simp)]
    refine List.filter_eq_self.2 λx hx=>?_
    simp only [UO]
    exact λh=>hn.1 (UU.2 ⟨x,hx,h⟩)
   rw [e2]; exact .refl _
  ·rw [UE e] at h
   have e2:((a,u) :: m).filter (λe=>decide (e.1≠s)) = (a,u) :: m.filter λe=>decide (e.1≠s):=by
    rw [List.filter_cons,UJ (by simpa using Ne.symm e)]
   rw [e2]
   exact (List.Perm.cons _ (Nv hn.2 h)).trans (.swap _ _ _)
theorem Gc (h:t≠s) (ps:List (κ × Lq α)):cW t (ps.filter λe=>decide (e.1≠s)) = cW t ps:=by
 induction ps with
 | nil=>rfl
 | cons x m ih =>
  obtain ⟨a,u⟩:=x
  rw [List.filter_cons]
  by_cases e:a = s
  ·subst e
   have e2:cW t ((a,u) :: m) = cW t m:=by show (if t = a then some u else cW t m) = _; rw [UE h]
   rw [UE (by simp),ih,e2]
  ·rw [UJ (by simpa using e)]
   show (if t = a then some u else cW t (m.filter λe=>decide (e.1≠s))) = (if t = a then some u else cW t m)
   rw [ih]
end
section
variable {g:ae} {ss:List SQ}
theorem KU (i:Nat) (f:Nat->Bool):cd (i + 1) f = cd i f ++ if f i = true then [(i:Int)] else []:=by
 unfold cd
 rw [VX,Vi,U1]
 congr 1
 by_cases h:f i = true <;> simp [h]
theorem CH {q m i:Nat} {t:aj} (ht:(bG g ss)[i]? = some t):dS g ss q m i = true↔m∈Bj g g.prods.length t.sym/\∃ p,g.prods[m]? = some p/\cX ss t.st p.right = q:=by
 rw [rQ]
 unfold dS
 rw [ht]
 cases hp:g.prods[m]? with
 | none=>simp
 | some p =>
  simp only [UT,UO,Option.some.injEq]
  constructor
  ·rintro ⟨⟨h1,h2⟩,h3⟩
   exact ⟨⟨by omega,p,rfl,h2⟩,p,rfl,h3⟩
  ·rintro ⟨⟨h1,p',rfl,h2⟩,p'',rfl,h3⟩
   exact ⟨⟨by omega,h2⟩,h3⟩
def Uc (g:ae) (ss:List SQ) (ps:List (aj × Lq Int)) (i:Nat) (t:aj) (ms:List Nat):Prop:=(ps.map Prod.fst).Nodup/\(∀ k,(gq k ps).length<=i + 1)/\∀ q m:Nat,gq ⟨(q:Int),(m:Int)⟩ ps = cd i (dS g ss q m) ++ if m∈ms/\(∃ p,g.prods[m]? = some p/\cX ss t.st p.right = q) then [(i:Int)] else []
abbrev k_:=(Int × Int) × Lq Int
def RU (b:k_):List Value:=[.int .i64 b.1.1,.int .i64 b.1.2,cF b.2]
def eh (bs:List k_):List Value:=bs.flatMap RU
def uE (bs:List k_):List au:=bs.map λb=>b_ 1 iv b.2
def H6 (b:k_):iP:=⟨b.1.1,b.1.2,b.2.2⟩
theorem Jz (bs:List k_):(eh bs).length = bs.length * 3:=kQ (f:=RU) (n:=3) (λ_=>rfl) bs
theorem JA (xs ys:List k_):eh (xs ++ ys) = eh xs ++ eh ys:=U_
theorem xg (g:ae) (ss:List SQ) (q:Nat):∀ j,(eH g ss q j).length<=j
 | 0=>by simp [eH]
 | j + 1=>by
  have:=xg g ss q j
  rw [uh,UG]
  have h2:(qC g ss q j).length<=1:=by unfold qC; split <;> simp
  omega
def Az (g:ae) (ss:List SQ) (q:Nat):List iP:=(List.range q).flatMap λq=>eH g ss q g.prods.length
theorem xh (g:ae) (ss:List SQ) (q:Nat):Az g ss (q + 1) = Az g ss q ++ eH g ss q g.prods.length:=by unfold Az; rw [VX,U_]; simp
theorem vI (g:ae) (ss:List SQ):∀ q,(Az g ss q).length<=q * g.prods.length
 | 0=>by simp [Az]
 | q + 1=>by
  have:=vI g ss q
  have:=xg g ss q g.prods.length
  rw [xh,UG,V0]
  omega
end
end Go.V
namespace Go.Proofs.YtndaepmjkbmjmaaGreatDoor
variable {w:Ws} {L:List au} {g:ae} {x:GA} {ss:List SQ} {nn:List Bool}
theorem H7 (hg:gR (hp w) g x) (hb:iK g) (ht:dG (hp w)):ay Tryz.prog iE [.agg ⟨x.cells⟩] w λv w'=>∃ (ss:List SQ) (ask int f:Int) (nn:List Bool) (o:Wr) (c:Nat) (ds:List (Lq Int)),v = .tuple #[.slice o ds.length c,.int .i64 f]/\rK g ss ask int f/\(f = 0->uf g nn)/\ds.map (·.2) = yN g nn ss/\St w' (own 1 o ds.length c (ds.map cF) :: aT (ds.map (b_ 1 iv)) :: all w):=by
 refine sF (cQ hg λk1 w1 gw hg B=>?_)
 refine ⟨_,_,_,_,_,_,_,_,_,_,_,_,_,B.row (sub.refl _),(H4 hg hb (fp.mono gw ht)).mono ?_⟩
 rintro _ w2 ⟨ss,ask,int,f,p,rfl,hR,g2,h0,hn⟩
 refine ⟨_,_,rfl,af (St.all w2) λk10 w3 h=>bC h (by simp) λw4 h=>?_⟩
 have g24:Gr w2 w4:=h.aR
 have r10:av (hp w4) (aM k10) [.pointer p]:=ag 0 h.l
 clear h
 have g14:=g2.trans g24
 refine aa (λh1=>?_) λh1=>?_
 ·have h1:f≠0:=by simpa using h1
  have hz:ss = []:=by rcases hR with ⟨_,e,_⟩ | ⟨_,_,e,_⟩ | ⟨_,_,_,_,e⟩ <;> first | exact e | exact absurd e h1
  subst hz
  exact ⟨[],ask,int,f,[],none,0,[],rfl,hR,λh=>absurd h h1,rfl,az 1 ((St.flat (M:=[])).2 (St.here (gw.trans g14)))⟩
 have h1:f = 0:=by simpa using h1
 subst h1
 obtain ⟨hc,hA⟩:=hR.FW rfl
 obtain ⟨k,nn,rfl,hnn,hw⟩:=h0 rfl
 have hw:=hw.mono g24
 have B4:GB (hp w4) k1 x:=⟨λs=>B.c0 (sub.trans g14 s),λs=>B.c1 (sub.trans g14 s),λs=>B.c2 (sub.trans g14 s),λs=>B.c3 (sub.trans g14 s),λs=>B.c4 (sub.trans g14 s),λs=>B.row (sub.trans g14 s)⟩
 have hnl:=qF hc hA
 refine ⟨_,r10.cell0 (sub.refl _),(Jv (P:=λi z=>z∈cd (bG g ss).length (Aw g nn ss i)) hw rfl hnl rfl λk4 w0 hR0=>P1 hw hc hA hnn r10 B4 (hg.mono g14) rfl hnl hR0).mono ?_⟩
 rintro _ w5 ⟨o,c,ds,rfl,hds,h⟩
 have hdl:=hds.1
 refine ⟨_,_,_,rfl,ss,ask,int,0,nn,o,c,ds,by rw [hdl],hR,λ_=>hnn,hds.list,?_⟩
 rw [hdl]
 exact St.IV h (bY (gw.trans g14))
theorem H8 (hg:gR (hp w) g x) (hb:iK g) (htb:dG (hp w)):ay Tryz.prog vE [.agg ⟨x.cells⟩] w λv w'=>∃ (ss:List SQ) (ask int f:Int) (o:Wr) (c:Nat) (ds:List k_),v = .tuple #[.slice o ds.length c,.int .i64 f]/\rK g ss ask int f/\ds.map H6 = oh g ss/\St w' (own 3 o ds.length c (eh ds) :: aT (uE ds) :: all w):=by
 refine sD (cQ hg λk1 w1 gw hg B=>?_)
 refine ⟨_,_,_,_,_,_,_,_,_,_,_,_,_,B.row (sub.refl _),(H4 hg hb (fp.mono gw htb)).mono ?_⟩
 rintro _ w2 ⟨ss,ask,int,f,p,rfl,hR,g12,h0,hn⟩
 refine ⟨_,_,rfl,aa (λh1=>?_) λh1=>?_⟩
 ·have h1:f≠0:=by simpa using h1
  have hz:ss = []:=by rcases hR with ⟨_,e,_⟩ | ⟨_,_,e,_⟩ | ⟨_,_,_,_,e⟩ <;> first | exact e | exact absurd e h1
  subst hz
  exact ⟨[],ask,int,f,none,0,[],rfl,hR,rfl,az 3 ((St.flat (M:=[])).2 (St.here (gw.trans g12)))⟩
 have h1:f = 0:=by simpa using h1
 subst h1
 obtain ⟨hc,hA⟩:=hR.FW rfl
 obtain ⟨kw,nn,rfl,hnn,hw⟩:=h0 rfl
 have hnl:=qF hc hA
 obtain ⟨x',o,c,a,int',ol,cl,ka,kt,on,cn,kp,ma,mt,mp,rk,hg',hs,rT,hma,hN,hmt,hTo,rN,hmp,hby⟩:=hw.ex
 have hkl:=hA.BI hc
 obtain ⟨sT,sN,sP,_,_,_⟩:=hc.gB
 have h256:=hA.dn.2.1
 have pl:=hg.p.1
 have hgx:=hg.mono g12
 refine lY (St.all w2) λkb w3 h=>?_
 have h:=dz (κ:=aj) h
 have g23:Gr w2 w3:=bj 1 h.l
 refine ⟨_,_,_,rk.cell g23 (j:=8) rfl,λz w'=>∃ (i:Nat) (ps:List (aj × Lq Int)),z = i/\i<=(bG g ss).length/\Uc g ss ps i ⟨0,0⟩ []/\St w' (mapA kb (mV ps) :: aT (mO 1 iv ps) :: all w2),λz _=>(bG g ss).length - z.toNat,
  ⟨0,[],rfl,UM _,⟨by simp,λk=>UM _,λq m=>by simp [gq,cW,cd]⟩,?_⟩,?_⟩
 ·exact ((St.flat (M:=[])).2 h).swap
 clear h
 rintro _ _ w4 ⟨i,ps,rfl,hi,hBk,h⟩
 have s4:sub (hp w2) (hp w4):=bj 2 h.l
 refine aa (λh1=>?_) λh1=>?_
 ·have h1:i < (bG g ss).length:=by have:=Uz h1; omega
  obtain ⟨t,tad,ht,hta,rt⟩:=qA rT h1
  obtain ⟨i0,q0,k0,e0,hi0,hq0,he0,hge,hte⟩:=jg (UC ht)
  have hst0:0<=t.st:=by rw [hte]; exact Vs _
  have hst1:t.st < ss.length:=by rw [hte]; show (i0:Int) < _; omega
  refine ak hta h1 ⟨_,_,rt.at s4 rfl,af h λk13 w5 h=>aI h rfl (by simp [aH]) λw6 h=>?_⟩
  intro w7 hd
  have h:=h.eq (aE hd)
  have s7:sub (hp w2) (hp w7):=bj 3 h.l
  have r13:av (hp w7) (aM k13) [.int .i64 t.st,.int .i64 t.sym]:=ag 0 h.l
  refine ⟨λu=>Gr w7 u,Gr.refl _,_,λu g=>rk.cell (sub.trans s7 g) (j:=12) rfl,_,λu g=>r13.cell g (j:=1) rfl,(df (κ:=Int) hmp s7 aL (rfl:ah Ty _ = .map _ _) (qi.zY bp) rfl rfl t.sym).mono ?_⟩
  rintro _ w10 ⟨rfl,e10⟩
  obtain ⟨ba,bc,hb1,hb2⟩:=hby t.sym
  rw [hb1]
  have hnd:(Bj g g.prods.length t.sym).Nodup:=by
   unfold Bj ON
   exact (List.nodup_range.filter _).filter _
  have hiff:∀ m,m∈Bj g g.prods.length t.sym↔0 < m/\∃ p,g.prods[m]? = some p/\p.left = t.sym:=λm=>rQ
  have hbb:∀ q m:Nat,dS g ss q m i = true↔m∈Bj g g.prods.length t.sym/\∃ p,g.prods[m]? = some p/\cX ss t.st p.right = q:=λq m=>CH ht
  generalize hbs:Bj g g.prods.length t.sym = bys at *
  have hbl:bys.length<=97:=by rw [<- hbs]; exact U7 (zg _ _ _) sP
  refine ⟨_,_,_,rfl,by rw [e10]; exact Gr.refl _,λz w'=>∃ (M:Nat) (ps:List (aj × Lq Int)),z = M/\M<=bys.length/\Uc g ss ps i t (bys.take M)/\St w' (mapA kb (mV ps) :: aT (mO 1 iv ps) :: aS k13 [.int .i64 t.st,.int .i64 t.sym] :: all w2),λz _=>bys.length - z.toNat,
   ⟨0,ps,rfl,UM _,⟨hBk.1,hBk.2.1,λq m=>by rw [hBk.2.2 q m]; simp⟩,by rw [e10]; exact h.pick 3 [1,2,0]⟩,?_⟩
  clear h hBk e10 hd r13 s7
  rintro _ _ w11 ⟨M,ps,rfl,hM,hBk,h⟩
  have s11:sub (hp w2) (hp w11):=bj 3 h.l
  refine aa (λh2=>?_) λh2=>?_
  rotate_left
  ·have h2:M = bys.length:=by have:=Uy h2; omega
   rw [h2,UZ] at hBk
   refine ⟨⟨by omega,by omega⟩,⟨i + 1,ps,by simp,h1,⟨hBk.1,λk=>by have:=hBk.2.1 k; omega,λq m=>?_⟩,h.pick 3 [0,1]⟩,bK h1⟩
   rw [hBk.2.2 q m,KU]
   by_cases e:dS g ss q m i = true
   ·rw [UJ e,UJ ((hbb q m).1 e)]; simp
   ·rw [UE e,UE (λh=>e ((hbb q m).2 h))]; simp
  have h2:M < bys.length:=by have:=Uz h2; omega
  obtain ⟨pm,hpm⟩ : ∃ pm,bys[M]? = some pm:=⟨_,UB h2⟩
  obtain ⟨_,p,hpq,hpl⟩:=(hiff pm).1 (UC hpm)
  have hpml:pm < x.pl:=by have:=(UA.1 hpq).1; omega
  obtain ⟨i0',q',e1',hq',hcl'⟩:=F_ hc hA ht hpq hpl
  have hrl:=CG hc hA hq' hpq hcl'
  obtain ⟨bv,bad,hbv,hba,hbc⟩:=hb2.dM h2
  rw [UD,hpm] at hbv
  cases hbv
  obtain ⟨p',pad,pvs,hp1,hpa,hp2,ra,rl,rc,rfl,hrc,hp3⟩:=hgx.p.get hpml
  rw [hpq] at hp1; cases hp1
  have rl1:=hp3.1
  obtain ⟨jw,_,hjw,_,_⟩:=t_ hc hA hpq p.right.length 0 (by omega) i0' q' hq' (by simpa using hcl')
  rw [List.drop_zero,<- e1'] at hjw
  refine aB hba h2 ⟨_,hbc _ s11,?_⟩
  intro w12 hd
  have h:=h.eq (aE hd)
  have s12:sub (hp w2) (hp w12):=bj 3 h.l
  have r13:av (hp w12) (aM k13) [.int .i64 t.st,.int .i64 t.sym]:=ag 2 h.l
  refine ⟨λu=>Gr w12 u,Gr.refl _,_,λu g=>r13.cell0 g,_,_,_,λu g=>B.c4 (sub.trans g12 (sub.trans s12 g)),ak hpa hpml ⟨_,_,_,λu g=>hp2.cell (sub.trans s12 g) (j:=1) rfl,(Jy (J:=λk u=>hp u = hp w12) (H:=hp w2) hw hc hA hp3 (by omega) hst0 hst1 rfl rfl (λk u e=>by rw [e]; exact s12) λk u s hs e=>?_).mono ?_⟩⟩
  ·exact ou ⟨rfl,e⟩
  rintro _ w16 ⟨rfl,e16⟩
  have h:=h.eq e16
  refine ⟨_,rfl,Gr.of_eq e16,af h λk20 w17 h=>aI h rfl (by simp [aH]) λw18 h=>?_⟩
  refine ⟨_,_,(ag 0 h.l).at (sub.refl _) rfl,af h λk21 w19 h=>?_⟩
  refine (map_take (κ:=aj) aL (rfl:ah Ty _ = .map _ _) dW rfl rfl (h.pick 3 [2,0,1]) ⟨cX ss t.st p.right,(pm:Int)⟩).mono ?_
  rintro _ w20 ⟨n,rfl,h⟩
  obtain ⟨q,M',e1,e2,hq,back⟩:=ob rfl (h.pick 4 [3,0,1,2]) ⟨cX ss t.st p.right,(pm:Int)⟩
  have hql:q.2.length<=i + 1:=by rw [e2]; exact hBk.2.1 _
  rw [e1] at hq ⊢
  refine ⟨_,_,_,_,rfl,?_⟩
  refine (aW (us:=iv q.2) aL (rfl:ah Ty _ = .slice _) (rfl:ah Ty _ = .slice _) rfl rfl rfl (hq.pick 5 [3,0,1,2,4]) rfl (by simp [aH]) (by show (q.2.length + 1) * 8<=_; omega) (by omega)).mono ?_
  rintro _ w21 ⟨o',c',rfl,h⟩
  refine ⟨_,_,_,rfl,(F8 (h.pick 5 [3,0,2]) _).mono ?_⟩
  rintro _ w22 h
  rw [rU] at h
  have h:=tX back (q.2 ++ [(i:Int)]) (by simp) (by simp [iv]) h
  have htk:bys.take (M + 1) = bys.take M ++ [pm]:=by rw [UI,hpm]; rfl
  have hnot:pm∉bys.take M:=λhm=>by
   obtain ⟨M2,hM2⟩:=Vf hm
   have hM3:=(UA.1 hM2).1
   rw [U0] at hM3
   rw [VK,UJ (by omega)] at hM2
   have:=(List.getElem?_inj (i:=M2) (j:=M) (by omega) hnd).1 (by rw [hM2,hpm])
   omega
  refine ⟨⟨by omega,by omega⟩,⟨M + 1,jN ⟨cX ss t.st p.right,(pm:Int)⟩ ((o',c'),q.2 ++ [(i:Int)]) ps,by simp,h2,⟨DU _ hBk.1,λk=>?_,λq2 m=>?_⟩,?_⟩,bK h2⟩
  ·rw [js]
   by_cases e:k = (⟨cX ss t.st p.right,(pm:Int)⟩ : aj)
   ·rw [UJ e]
    show (q.2 ++ [(i:Int)]).length<=i + 1
    have h5:q.2.length<=i:=by
     rw [e2]
     rw [hjw,hBk.2.2 jw pm,UE (λh=>hnot h.1),U3]
     exact jv _ _
    rw [UG,List.length_singleton]; omega
   ·rw [UE e]; exact hBk.2.1 k
  ·rw [js,htk]
   by_cases e:(⟨(q2:Int),(m:Int)⟩ : aj) = ⟨cX ss t.st p.right,(pm:Int)⟩
   ·rw [UJ e]
    have e3:(q2:Int) = cX ss t.st p.right:=congrArg aj.st e
    have e4:m = pm:=by have:(m:Int) = pm:=congrArg aj.sym e; omega
    subst e4
    show q.2 ++ [(i:Int)] = _
    rw [e2,<- e,hBk.2.2 q2 m,UE (λh=>hnot h.1),U3,UJ ⟨by simp,p,hpq,e3.symm⟩]
   ·rw [UE e,hBk.2.2 q2 m]
    congr 1
    by_cases h5:m∈bys.take M/\∃ p,g.prods[m]? = some p/\cX ss t.st p.right = q2
    ·rw [UJ h5,UJ ⟨by simp [h5.1],h5.2⟩]
    ·rw [UE h5,UE ?_]
     rintro ⟨h6,p2,h7,h8⟩
     rw [UF,U2] at h6
     rcases h6 with h6 | rfl
     ·exact h5 ⟨h6,p2,h7,h8⟩
     ·rw [hpq] at h7; cases h7
      exact e (by rw [<- h8])
  ·exact h
 have h1:i = (bG g ss).length:=by have:=Uy h1; omega
 subst h1
 have hget:∀ q m:Nat,gq ⟨(q:Int),(m:Int)⟩ ps = cd (bG g ss).length (dS g ss q m):=λq m=>by rw [hBk.2.2 q m]; simp
 have hkn:=hBk.1
 clear hBk
 have hP2:∀ q,q<=ss.length->q * g.prods.length<=256 * 97:=λq hq=>Nat.mul_le_mul (by omega) sP
 refine ⟨_,_,_,rk.cell s4 (j:=5) rfl,λo n c z w'=>∃ (q:Nat) (bs:List k_) (rs:List (aj × Lq Int)),z = q/\q<=ss.length/\n = bs.length/\bs.map H6 = Az g ss q/\(rs.map Prod.fst).Nodup/\(∀ k:aj,(q:Int)<=k.st->cW k rs = cW k ps)/\St w' (own 3 o n c (eh bs) :: aT (uE bs) :: mapA kb (mV ps) :: aT (mO 1 iv rs) :: all w2),λ_ _ _ z _=>ss.length - z.toNat,
  ⟨0,[],ps,rfl,UM _,rfl,rfl,hkn,λ_ _=>rfl,az 3 ((St.flat (M:=[])).2 h)⟩,?_⟩
 clear h s4
 rintro _ o14 _ c14 _ w23 ⟨q,bs,rs,rfl,hq,rfl,hbs,hrn,hrs,h⟩
 have s23:sub (hp w2) (hp w23):=bj 4 h.l
 have hbl:bs.length<=24832:=by
  have h1:=vI g ss q
  rw [<- hbs,UH] at h1
  have:=hP2 q hq
  omega
 refine aa (λh1=>?_) λh1=>?_
 rotate_left
 ·have h1:q = ss.length:=by have:=Uy h1; omega
  subst h1
  refine gQ (fh (dj h) ⟨_,_,_,rfl,ss,ask,int,0,_,_,bs,rfl,hR,hbs,?_⟩)
  have h:=ff h
  exact St.IV (h.pick 5 [0,1,4]) (bY (gw.trans g12))
 have h1:q < ss.length:=by have:=Uz h1; omega
 refine ⟨_,_,_,B.c4 (sub.trans g12 s23),λo n c z w'=>∃ (m:Nat) (bs:List k_) (rs:List (aj × Lq Int)),z = m/\m<=x.pl/\n = bs.length/\bs.map H6 = Az g ss q ++ eH g ss q m/\(rs.map Prod.fst).Nodup/\(∀ k:aj,((q:Int) < k.st\/(k.st = q/\(m:Int)<=k.sym))->cW k rs = cW k ps)/\St w' (own 3 o n c (eh bs) :: aT (uE bs) :: mapA kb (mV ps) :: aT (mO 1 iv rs) :: all w2),λ_ _ _ z _=>x.pl - z.toNat,
  ⟨0,bs,rs,rfl,UM _,rfl,by rw [hbs]; simp [eH],hrn,λk hk=>hrs k (by rcases hk with hk | hk <;> omega),h⟩,?_⟩
 clear h s23 hbs hrn hrs hbl
 rintro _ o16 _ c16 _ w24 ⟨m,bs,rs,rfl,hm,rfl,hbs,hrn,hrs,h⟩
 have hbl:bs.length<=25000:=by
  have h1:=vI g ss q
  have h2:=xg g ss q m
  have h3:=congrArg List.length hbs
  rw [UH,UG] at h3
  have:=hP2 q hq
  omega
 refine aa (λh2=>?_) λh2=>?_
 rotate_left
 ·have h2:m = x.pl:=by have:=Uy h2; omega
  subst h2
  refine ⟨⟨by omega,by omega⟩,⟨q + 1,bs,rs,by simp,h1,rfl,?_,hrn,λk hk=>hrs k (.inl (by omega)),h⟩,bK h1⟩
  rw [hbs,xh,pl]
 have h2:m < x.pl:=by have:=Uz h2; omega
 have hgm:=hget q m
 refine (l5 (κ:=aj) aL (rfl:ah Ty _ = .map _ _) dW rfl rfl (h.pick 3 [2]) ⟨(q:Int),(m:Int)⟩).mono ?_
 rintro _ w25 ⟨rfl,e25⟩
 rw [gA]
 have hrow:eH g ss q (m + 1) = eH g ss q m ++ qC g ss q m:=uh g ss q m
 have hskip:cd (bG g ss).length (dS g ss q m) = []->aw ((m:Int) + 1)/\(∃ (m' : Nat) (bs' : List k_) (rs' : List (aj × Lq Int)),(m:Int) + 1 = m'/\m'<=x.pl/\bs.length = bs'.length/\bs'.map H6 = Az g ss q ++ eH g ss q m'/\(rs'.map Prod.fst).Nodup/\(∀ k:aj,((q:Int) < k.st\/(k.st = q/\(m' : Int)<=k.sym))->cW k rs' = cW k ps)/\St w25 (own 3 o16 bs.length c16 (eh bs') :: aT (uE bs') :: mapA kb (mV ps) :: aT (mO 1 iv rs') :: all w2))/\x.pl - ((m:Int) + 1).toNat < x.pl - (m:Int).toNat:=λe=>by
  refine ⟨⟨by omega,by omega⟩,⟨m + 1,bs,rs,by simp,h2,rfl,?_,hrn,λk hk=>hrs k (hk.elim .inl λhk=>.inr ⟨hk.1,by have:=hk.2; omega⟩),by rw [e25]; exact h⟩,bK h2⟩
  rw [hrow,hbs]
  unfold qC
  rw [UJ e]; simp
 cases hgq:cW (⟨(q:Int),(m:Int)⟩ : aj) ps with
 | none =>
  have e:cd (bG g ss).length (dS g ss q m) = []:=by rw [<- hgm]; unfold gq; rw [hgq]
  exact ⟨_,_,_,rfl,dZ (by simp) (hskip e)⟩
 | some r =>
  have er:r.2 = cd (bG g ss).length (dS g ss q m):=by rw [<- hgm]; unfold gq; rw [hgq]
  refine ⟨_,_,_,rfl,aa (λh3=>?_) λh3=>?_⟩
  rotate_left
  ·refine hskip ?_
   rw [<- er]
   exact UL (by have:=Uy h3; omega)
  have h3:0 < r.2.length:=by have:=Uz h3; omega
  have hne:cd (bG g ss).length (dS g ss q m)≠[]:=by rw [<- er]; intro e; rw [e] at h3; simp at h3
  have hgr:cW (⟨(q:Int),(m:Int)⟩ : aj) rs = some r:=by rw [hrs _ (.inr ⟨rfl,Int.le_refl _⟩)]; exact hgq
  have h:=h.eq (by rw [e25] : hp w25 = hp w24)
  have h4:=(St.flat.1 (h.pick 4 [3,0,1,2])).perm ((Nv (sz:=1) (f:=iv) hrn hgr).append_right _)
  have h:St w25 (own 1 r.1.1 r.2.length r.1.2 (iv r.2) :: aT (mO 1 iv (rs.filter λe=>decide (e.1≠(⟨(q:Int),(m:Int)⟩ : aj)))) :: own 3 o16 bs.length c16 (eh bs) :: aT (uE bs) :: mapA kb (mV ps) :: all w2):=(St.flat.2 (h4.perm Vt.symm)).swap
  clear h4
  refine dq (fh (dj h) ⟨_,_,_,rfl,?_⟩)
  have h:=ff h
  refine af h λk34 w27 h=>?_
  have z1:(bs.length + 1) * 40<=140737488355328/\bs.length < 9223372036854775807:=by omega
  refine (aW (us:=eh bs) aL (rfl:ah Ty _ = .slice _) (rfl:ah Ty _ = .slice _) rfl rfl rfl (h.pick 6 [0,3,1,2,4,5]) rfl (by simp [aH]) z1.1 z1.2).mono ?_
  rintro _ w28 ⟨o17,c17,rfl,h⟩
  have hnew:H6 (((q:Int),(m:Int)),((eJ r.1.1 0 r.2.length 1,r.2.length),r.2)) = ⟨(q:Int),(m:Int),cd (bG g ss).length (dS g ss q m)⟩:=by unfold H6; rw [er]
  refine ⟨_,_,_,rfl,⟨by omega,by omega⟩,⟨m + 1,bs ++ [(((q:Int),(m:Int)),((eJ r.1.1 0 r.2.length 1,r.2.length),r.2))],rs.filter λe=>decide (e.1≠(⟨(q:Int),(m:Int)⟩ : aj)),by simp,h2,by simp,?_,(hrn.sublist (List.Sublist.map _ List.filter_sublist)),λk hk=>?_,?_⟩,bK h2⟩
  ·rw [U1,hbs,hrow]
   unfold qC
   rw [UE hne]
   simp [hnew]
  ·rw [Gc (s:=(⟨(q:Int),(m:Int)⟩ : aj)) ?_]
   ·exact hrs k (hk.elim .inl λhk=>.inr ⟨hk.1,by have:=hk.2; omega⟩)
   ·intro e
    subst e
    rcases hk with hk | hk
    ·exact absurd hk (by show ¬(q:Int) < q; omega)
    ·have:=hk.2; simp at this; omega
  ·have h:=St.snoc (h.pick 6 [2,4,0,5,3])
   have h3:St w28 (own 3 o17 (bs.length + 1) c17 (eh bs ++ [.int .i64 (q:Int),.int .i64 (m:Int),.slice (eJ r.1.1 0 r.2.length 1) r.2.length r.2.length]) :: aT (uE bs ++ [own 1 (eJ r.1.1 0 r.2.length 1) r.2.length r.2.length (iv r.2)]) :: mapA kb (mV ps) :: aT (mO 1 iv (rs.filter λe=>decide (e.1≠(⟨(q:Int),(m:Int)⟩ : aj)))) :: all w2):=h.pick 2 [1,0]
   rw [JA,show uE (bs ++ [(((q:Int),(m:Int)),((eJ r.1.1 0 r.2.length 1,r.2.length),r.2))]) = uE bs ++ [own 1 (eJ r.1.1 0 r.2.length 1) r.2.length r.2.length (iv r.2)] by unfold uE; rw [U1]; rfl]
   exact h3
end Go.Proofs.YtndaepmjkbmjmaaGreatDoor
namespace Go.V
instance:nQ iP:={ n:=3,rd:=λh x vs=>∃ (a:Wr) (c:Nat),vs = [.int .i64 x.st,.int .i64 x.prod,.slice a x.tr.length c]/\aX h x.tr a x.tr.length,mono:=λs ⟨a,c,e,r⟩=>⟨a,c,e,r.mono s⟩,len:=λ⟨_,_,e,_⟩=>by rw [e]; rfl }
section
variable {w:Ws} {L:List au} {o:Wr} {c:Nat}
theorem RV {ds:List (Lq Int)} (h:St w (own 1 o ds.length c (ds.map cF) :: aT (ds.map (b_ 1 iv)) :: L)):aX (hp w) (ds.map (·.2)) o ds.length:=by
 have hr:=ee 0 h.l
 refine ⟨by simp,λi x hi=>?_⟩
 rw [UD] at hi
 cases hd:ds[i]? with
 | none=>rw [hd] at hi; cases hi
 | some p =>
  rw [hd] at hi
  simp only [VM,Option.some.injEq] at hi
  subst hi
  have hA:(ds.map (b_ 1 iv))[i]? = some (b_ 1 iv p):=by rw [UD,hd]; rfl
  have h2:=St.out (h.pick 2 [1]) hA
  have hle:p.2.length<=p.1.2:=dj h2
  have rp:aX (hp w) p.2 p.1.1 p.2.length:=dO rfl (ee 0 h2.l)
  rcases hr with e | ⟨ad,e,hc⟩
  ·rw [List.map_eq_nil_iff] at e; subst e; simp at hd
  ·refine ⟨ad,[cF p],e,λj v hj=>?_,p.1.1,p.2.length,p.1.2,rfl,hle,rp⟩
   cases j with
   | zero =>
    simp at hj; subst hj
    rw [add_add,aF]
    have:=hc i (cF p) (by rw [UD,hd]; rfl)
    rw [show i * nQ.n (List Int) + 0 = i from by show i * 1 + 0 = i; omega]
    exact this
   | succ j=>simp at hj
theorem Nw {h:Hp} {xss:List (List Int)} {i l:Nat} (r:aX h xss o l) (hi:i < l):∃ x ad a c,xss[i]? = some x/\o = some ad/\(∀ u:Ws,sub h (hp u)->u.cell? (ad.add i) = some (.slice a x.length c))/\aX h x a x.length:=by
 obtain ⟨x,ad,vs,hx,ha,hr,a,l',c',rfl,hle,hx2⟩:=r.get hi
 have hl:=hx2.1
 subst hl
 refine ⟨x,ad,a,c',hx,ha,λu s=>?_,hx2⟩
 have:=hr.cell0 s
 rwa [aF,show i * nQ.n (List Int) = i from VA i] at this
theorem TU {ds:List k_} (h:St w (own 3 o ds.length c (eh ds) :: aT (uE ds) :: L)):aX (hp w) (ds.map H6) o ds.length:=by
 have hr:=ee 0 h.l
 refine ⟨by simp,λi x hi=>?_⟩
 rw [UD] at hi
 cases hd:ds[i]? with
 | none=>rw [hd] at hi; cases hi
 | some p =>
  rw [hd] at hi
  simp only [VM,Option.some.injEq] at hi
  subst hi
  have hA:(uE ds)[i]? = some (b_ 1 iv p.2):=by unfold uE; rw [UD,hd]; rfl
  have h2:=St.out (h.pick 2 [1]) hA
  have rp:aX (hp w) p.2.2 p.2.1.1 p.2.2.length:=dO rfl (ee 0 h2.l)
  rcases hr with e | ⟨ad,e,hc⟩
  ·have h1:=congrArg List.length e
   rw [Jz,VB] at h1
   have:=(UA.1 hd).1; omega
  ·exact ⟨ad,RU p,e,bZ (n:=3) (λ_=>rfl) ds ad hc i p hd,p.2.1.1,p.2.1.2,rfl,rp⟩
theorem Nx {h:Hp} {xs:List iP} {l i:Nat} (r:aX h xs o l) (hi:i < l):∃ x ad a c,xs[i]? = some x/\o = some ad/\av h (ad.add (cR i 3)) [.int .i64 x.st,.int .i64 x.prod,.slice a x.tr.length c]/\aX h x.tr a x.tr.length:=by
 obtain ⟨x,ad,vs,hx,ha,hr,a,c',rfl,hx2⟩:=r.get hi
 exact ⟨x,ad,a,c',hx,ha,hr,hx2⟩
end
section
variable {g:ae} {nn:List Bool} {ss ss' : List SQ}
theorem Ny (h:bm ss = bm ss') (i k:Nat):jX g nn ss i k = jX g nn ss' i k:=by
 unfold jX
 rw [qB h]
 have e:∀ i s,lC ss i s = lC ss' i s:=λi s=>Aq h i s
 simp only [e]
theorem P3 (h:bm ss = bm ss') (i k:Nat):Aw g nn ss i k = Aw g nn ss' i k:=by
 unfold Aw
 rw [qB h]
 have e:∀ q l,cX ss q l = cX ss' q l:=λq l=>D9 h l q
 simp only [e]
theorem Nz (h:bm ss = bm ss') (q m i:Nat):dS g ss q m i = dS g ss' q m i:=by
 unfold dS
 rw [qB h]
 have e:∀ q l,cX ss q l = cX ss' q l:=λq l=>D9 h l q
 simp only [e]
theorem JB (h:bm ss = bm ss'):Ax g nn ss = Ax g nn ss':=by
 unfold Ax
 rw [qB h]
 refine VO λi _=>?_
 rw [show jX g nn ss i = jX g nn ss' i from funext λk=>Ny h i k]
theorem JC (h:bm ss = bm ss'):yN g nn ss = yN g nn ss':=by
 unfold yN
 rw [qB h]
 refine VO λi _=>?_
 rw [show Aw g nn ss i = Aw g nn ss' i from funext λk=>P3 h i k]
theorem P4 (h:bm ss = bm ss') (q m:Nat):qC g ss q m = qC g ss' q m:=by
 unfold qC
 rw [qB h,show dS g ss q m = dS g ss' q m from funext λk=>Nz h q m k]
theorem JD (h:bm ss = bm ss'):oh g ss = oh g ss':=by
 unfold oh
 rw [Ar h]
 have e:∀ q j,eH g ss q j = eH g ss' q j:=λq j=>by unfold eH; rw [show qC g ss q = qC g ss' q from funext λm=>P4 h q m]
 simp only [e]
end
end Go.V
namespace Go.V.bH
inductive Rc (E:Nat->List Nat):Nat->Nat->Prop
 | refl (a:Nat):Rc E a a
 | step {a b c:Nat}:b∈E a->Rc E b c->Rc E a c
theorem Rc.trans {E:Nat->List Nat} {a b c:Nat} (h:Rc E a b):Rc E b c->Rc E a c:=by
 induction h with
 | refl=>exact id
 | step h _ ih=>exact λk=>.step h (ih k)
theorem Rc.one {E:Nat->List Nat} {a b:Nat} (h:b∈E a):Rc E a b:=.step h (.refl b)
def Good (E:Nat->List Nat) (gs:List (List Nat)):Prop :=
 gs.flatten.Nodup/\∀ g1 g g2,gs = g1 ++ g :: g2->g≠[]/\(∀ a∈g,∀ b∈g,Rc E a b)/\∀ a∈g,∀ b∈E a,b∈g\/b∈g1.flatten
theorem Good.nil (E:Nat->List Nat):Good E []:=⟨by simp,λg1 g g2 h=>by simp at h⟩
theorem Good.snoc {E:Nat->List Nat} {gs:List (List Nat)} {g:List Nat} (h:Good E gs) (hn:g≠[]) (hd:g.Nodup) (hx:∀ a∈g,a∉gs.flatten)
  (hr:∀ a∈g,∀ b∈g,Rc E a b) (he:∀ a∈g,∀ b∈E a,b∈g\/b∈gs.flatten):Good E (gs ++ [g]):=by
 refine ⟨?_,?_⟩
 ·rw [List.flatten_append,Vg]
  refine ⟨h.1,by simpa using hd,?_⟩
  intro a ha b hb e
  subst e
  exact hx a (by simpa using hb) ha
 ·intro g1 g' g2 e
  rcases List.eq_nil_or_concat g2 with rfl | ⟨g3,x,rfl⟩
  ·obtain ⟨rfl,e2⟩:=List.append_inj' e rfl
   simp only [List.cons.injEq,and_true] at e2
   subst e2
   exact ⟨hn,hr,he⟩
  ·rw [List.concat_eq_append,<- List.cons_append,<- UK] at e
   obtain ⟨e1,e2⟩:=List.append_inj' e rfl
   exact h.2 g1 g' g3 e1
theorem Good.to {E:Nat->List Nat} {gs:List (List Nat)} (h:Good E gs) {a b:Nat} (hw:Rc E a b) :
  ∀ g1 g g2,gs = g1 ++ g :: g2->a∈g->b∈(g1 ++ [g]).flatten:=by
 induction hw with
 | refl a=>intro g1 g g2 _ ha; simp [ha]
 | @step a b c hb hc ih =>
  intro g1 g g2 e ha
  rcases (h.2 g1 g g2 e).2.2 a ha b hb with hb | hb
  ·exact ih g1 g g2 e hb
  ·obtain ⟨x,hx,hbx⟩:=List.mem_flatten.1 hb
   obtain ⟨y1,y2,rfl⟩:=Wk hx
   have:=ih y1 x (y2 ++ g :: g2) (by rw [e]; simp) hbx
   simp only [List.flatten_append,List.flatten_cons,List.flatten_nil,U3,UF] at this ⊢
   rcases this with h | h
   ·exact Or.inl (Or.inl h)
   ·exact Or.inl (Or.inr (Or.inl h))
theorem Gd {gs:List (List Nat)} (h:gs.flatten.Nodup) {g1 g2:List (List Nat)} {g:List Nat} (e:gs = g1 ++ g :: g2) {a:Nat} (ha:a∈g):a∉g1.flatten/\a∉g2.flatten:=by
 subst e
 rw [List.flatten_append,List.flatten_cons,Vg,Vg] at h
 refine ⟨λh1=>h.2.2 a h1 a (by simp [ha]) rfl,λh1=>h.2.1.2.2 a ha a h1 rfl⟩
abbrev Sc:=Nat × Nat × List Nat
def aA:List Sc->List Nat
 | []=>[]
 | (n,_,r) :: t=>aA t ++ n :: r
structure Ul (E:Nat->List Nat) (low:Nat->Nat) (op:List Nat) (D:Nat->Prop) (b n k:Nat) (r:List Nat):Prop where
 le:k<=(E n).length
 top:low n<=b + 1
 lo:∀ v∈r,low n<=low v
 pos:∀ v∈n :: r,0 < low v
 at_:∀ v∈r,∀ i,op[i]? = some v->low v<=i
 rc:∀ v∈r,Rc E n v
 to:∀ v∈n :: r,∃ u,op[low v - 1]? = some u/\Rc E v u
 ed:∀ v∈r,∀ m∈E v,D m\/∃ i,op[i]? = some m/\low n<=i + 1
 en:∀ j m,j < k->(E n)[j]? = some m->D m\/∃ i,op[i]? = some m/\low n<=i + 1
def OK (E:Nat->List Nat) (low:Nat->Nat) (op:List Nat) (D:Nat->Prop):List Sc->Prop
 | []=>True
 | (n,k,r) :: t=>Ul E low op D (aA t).length n k r/\(∀ u k' r' t',t = (u,k',r') :: t'->Rc E u n)/\OK E low op D t
theorem bL {t:List Sc} {n k:Nat} {r:List Nat}:(aA ((n,k,r) :: t)).length = (aA t).length + 1 + r.length:=by simp [aA]; omega
theorem OK.mono {E:Nat->List Nat} {low low' : Nat->Nat} {op op' : List Nat} {D D' : Nat->Prop}:∀ (t:List Sc),OK E low op D t ->
  (∀ v∈aA t,low' v = low v)->(∀ i v:Nat,op[i]? = some v->op'[i]? = some v\/D' v)->(∀ i v:Nat,op'[i]? = some v->v∈aA t->op[i]? = some v)->(∀ i:Nat,i < (aA t).length->op'[i]? = op[i]?)->op.Nodup->(∀ v:Nat,D v->D' v) ->
  (∀ i:Nat,i < (aA t).length->op[i]? = (aA t)[i]?)->OK E low' op' D' t
 | [],_,_,_,_,_,_,_,_=>trivial
 | (n,k,r) :: t,⟨s,hu,ht⟩,hl,ho,hb,hi,nd,hD,hp=>by
  have hn:low' n = low n:=hl n (by simp [aA])
  have hr:∀ v∈r,low' v = low v:=λv hv=>hl v (by simp [aA,hv])
  have hnr:∀ v∈n :: r,low' v = low v:=λv hv=>hl v (by simp only [aA,UF]; exact Or.inr hv)
  refine ⟨⟨s.le,by rw [hn]; exact s.top,λv hv=>by rw [hn,hr v hv]; exact s.lo v hv,λv hv=>by rw [hnr v hv]; exact s.pos v hv,?_,s.rc,?_,?_,?_⟩,hu,?_⟩
  ·intro v hv i h
   rw [hr v hv]
   exact s.at_ v hv i (hb i v h (by simp [aA,hv]))
  ·intro v hv
   obtain ⟨u,h1,h2⟩:=s.to v hv
   refine ⟨u,?_,h2⟩
   rw [hnr v hv,hi _ ?_,h1]
   rw [bL]
   have hp':=s.pos v hv
   rcases UR.1 hv with rfl | hv
   ·have:=s.top; omega
   ·have hv2:v∈aA ((n,k,r) :: t):=by simp [aA,hv]
    obtain ⟨i,hi1,hi2⟩:=List.getElem_of_mem hv2
    have:=s.at_ v hv i (by rw [hp i hi1,UB hi1,hi2])
    rw [bL] at hi1
    omega
  ·intro v hv m hm
   rcases s.ed v hv m hm with h | ⟨i,h1,h2⟩
   ·exact Or.inl (hD m h)
   ·rcases ho i m h1 with h | h
    ·exact Or.inr ⟨i,h,by rw [hn]; exact h2⟩
    ·exact Or.inl h
  ·intro j m hj hm
   rcases s.en j m hj hm with h | ⟨i,h1,h2⟩
   ·exact Or.inl (hD m h)
   ·rcases ho i m h1 with h | h
    ·exact Or.inr ⟨i,h,by rw [hn]; exact h2⟩
    ·exact Or.inl h
  ·refine OK.mono t ht (λv hv=>hl v (by simp [aA,hv])) ho (λi v h hv=>hb i v h (by simp [aA,hv])) (λi h=>hi i (by rw [bL]; omega)) nd hD ?_
   intro i h
   rw [hp i (by rw [bL]; omega)]
   simp only [aA]
   rw [UQ h]
def yO (f:Nat->Nat) (i x:Nat):Nat->Nat:=λj=>if j = i then x else f j
theorem aY (f:Nat->Nat) (i x:Nat):yO f i x i = x:=by simp [yO]
theorem cY {f:Nat->Nat} {i x j:Nat} (h:j≠i):yO f i x j = f j:=by simp [yO,h]
structure Inv (E:Nat->List Nat) (N:Nat) (low:Nat->Nat) (S:List Sc) (gs:List (List Nat)):Prop where
 ok:OK E low (aA S) (·∈gs.flatten) S
 nd:(aA S ++ gs.flatten).Nodup
 lt:∀ v∈aA S ++ gs.flatten,v < N
 un:∀ v,v < N->(low v = 0↔v∉aA S ++ gs.flatten)
 dn:∀ v∈gs.flatten,low v = N + 1
 good:Good E gs
theorem NA:∀ (l m:List Nat),l.Nodup->(∀ v∈l,v∈m)->l.length<=m.length
 | [],_,_,_=>UM _
 | a :: l,m,h,hs=>by
  have ha:=hs a (by simp)
  rw [Vy] at h
  have:=NA l (m.erase a) h.2 (λv hv=>(List.mem_erase_of_ne (λe:v = a=>h.1 (e ▸ hv))).2 (hs v (by simp [hv])))
  rw [List.length_erase_of_mem ha] at this
  have:=List.length_pos_of_mem ha
  simp only [Vc]; omega
theorem NB {l:List Nat} {N:Nat} (h1:l.Nodup) (h2:∀ v∈l,v < N):l.length<=N:=by
 have:=NA l (List.range N) h1 (λv hv=>U8.2 (h2 v hv))
 simpa using this
variable {E:Nat->List Nat} {N:Nat} {low:Nat->Nat} {S t:List Sc} {gs:List (List Nat)} {D:Nat->Prop} {op:List Nat}
theorem Ge {l:List Nat} (h:l.Nodup) {i j:Nat} {v:Nat} (h1:l[i]? = some v) (h2:l[j]? = some v):i = j:=by
 obtain ⟨a,h1⟩:=UA.1 h1
 obtain ⟨b,h2⟩:=UA.1 h2
 exact (List.getElem_inj h).1 (h1.trans h2.symm)
theorem OK.to:∀ (S:List Sc),OK E low op D S->∀ v∈aA S,0 < low v/\∃ u,op[low v - 1]? = some u/\Rc E v u
 | [],_,v,hv=>by simp [aA] at hv
 | (n,k,r) :: t,⟨s,_,h⟩,v,hv=>by
  simp only [aA,UF] at hv
  rcases hv with hv | hv
  ·exact OK.to t h v hv
  ·exact ⟨s.pos v hv,s.to v hv⟩
theorem OK.QQ:∀ (S:List Sc),OK E low op D S->op.Nodup->(∀ i:Nat,i < (aA S).length->op[i]? = (aA S)[i]?)->∀ v∈aA S,∀ i:Nat,op[i]? = some v->low v<=i + 1
 | [],_,_,_,v,hv=>by simp [aA] at hv
 | (n,k,r) :: t,⟨s,_,h⟩,nd,hp,v,hv=>by
  intro i hi
  simp only [aA,UF] at hv
  rcases hv with hv | hv
  ·refine OK.QQ t h nd (λj hj=>?_) v hv i hi
   rw [hp j (by rw [bL]; omega)]
   simp only [aA]
   rw [UQ hj]
  ·rcases UR.1 hv with rfl | hv
   ·have h1:op[(aA t).length]? = some v:=by
     rw [hp _ (by rw [bL]; omega)]
     simp [aA]
    have:=Ge nd hi h1
    have:=s.top
    omega
   ·have:=s.at_ v hv i hi
    omega
theorem Inv.RW (h:Inv E N low S gs):(aA S).Nodup:=(Vg.1 h.nd).1
theorem Inv.len (h:Inv E N low S gs):(aA S).length<=N:=NB h.RW λv hv=>h.lt v (by simp [hv])
theorem Inv.seen (h:Inv E N low S gs) {v:Nat} (hv:v < N) (hl:low v≠0):v∈aA S\/v∈gs.flatten:=by
 have:=mt (h.un v hv).2 hl
 simp only [UF] at this
 exact VI λe=>this e
theorem Inv.root (h:Inv E N low [] gs) {m:Nat} (hm:m < N) (h0:low m = 0):Inv E N (yO low m 1) [(m,0,[])] gs:=by
 have hx:=(h.un m hm).1 h0
 simp only [aA,Ve] at hx
 have hne:∀ v,v∈gs.flatten->v≠m:=λv hv e=>hx (e ▸ hv)
 refine ⟨⟨⟨by simp,by simp [aA,aY],by simp,?_,by simp,by simp,?_,by simp,by simp⟩,by simp,trivial⟩,?_,?_,?_,?_,h.good⟩
 ·intro v hv
  simp only [U2] at hv
  rw [hv,aY]; omega
 ·intro v hv
  simp only [U2] at hv
  subst hv
  exact ⟨v,by simp [aY,aA],.refl v⟩
 ·have:=h.nd
  simp only [aA,Ve,List.singleton_append,Vy] at this ⊢
  exact ⟨hx,this⟩
 ·intro v hv
  simp only [aA,Ve,List.singleton_append,UR] at hv
  rcases hv with rfl | hv
  ·exact hm
  ·exact h.lt v (by simpa [aA] using hv)
 ·intro v hv
  simp only [aA,Ve,List.singleton_append,UR]
  by_cases e:v = m
  ·subst e; simp [aY]
  ·rw [cY e,h.un v hv]; simp [aA,e]
 ·intro v hv
  rw [cY (hne v hv)]
  exact h.dn v hv
theorem Inv.push {n k m:Nat} {r:List Nat} (h:Inv E N low ((n,k,r) :: t) gs) (hk:(E n)[k]? = some m) (hm:m < N) (h0:low m = 0) :
  Inv E N (yO low m ((aA ((n,k,r) :: t)).length + 1)) ((m,0,[]) :: (n,k + 1,r) :: t) gs:=by
 have hx:=(h.un m hm).1 h0
 have hxo:m∉aA ((n,k,r) :: t):=λe=>hx (by simp only [UF]; exact Or.inl e)
 have hxg:m∉gs.flatten:=λe=>hx (by simp only [UF]; exact Or.inr e)
 have ho:aA ((m,0,[]) :: (n,k + 1,r) :: t) = aA ((n,k,r) :: t) ++ [m]:=rfl
 have hmono:=OK.mono (low':=yO low m ((aA ((n,k,r) :: t)).length + 1)) (op':=aA ((n,k,r) :: t) ++ [m]) (D':=(·∈gs.flatten)) _ h.ok
  (λv hv=>cY λe=>hxo (e ▸ hv))
  (λi v hi=>Or.inl (by rw [UQ (by obtain ⟨a,_⟩:=UA.1 hi; exact a)]; exact hi))
  (λi v hi hv=>by
   by_cases hl:i < (aA ((n,k,r) :: t)).length
   ·rwa [UQ hl] at hi
   ·rw [UP (by omega)] at hi
    have hi:=UC hi
    simp only [U2] at hi
    exact absurd (hi ▸ hv) hxo)
  (λi hi=>UQ hi) h.RW (λ_ h=>h) (λ_ _=>rfl)
 obtain ⟨s,hu,ht⟩:=hmono
 have hle:k < (E n).length:=(UA.1 hk).1
 refine ⟨⟨⟨by simp,?_,by simp,?_,by simp,by simp,?_,by simp,by simp⟩,?_,⟨⟨hle,s.top,s.lo,s.pos,s.at_,s.rc,s.to,s.ed,?_⟩,hu,ht⟩⟩,?_,?_,?_,?_,h.good⟩
 ·rw [aY]; exact US _
 ·intro v hv
  simp only [U2] at hv
  rw [hv,aY]; omega
 ·intro v hv
  simp only [U2] at hv
  subst hv
  refine ⟨v,?_,.refl v⟩
  rw [aY,ho]
  simp
 ·intro u k' r' t' e
  cases e
  exact Rc.one (UC hk)
 ·intro j v hj hv
  by_cases e:j = k
  ·subst e
   rw [hk] at hv
   cases hv
   refine Or.inr ⟨(aA ((n,j,r) :: t)).length,by rw [ho,UP (US _)]; simp,?_⟩
   have h1:=s.top
   have h2:(aA ((n,j,r) :: t)).length = (aA t).length + 1 + r.length:=bL
   omega
  ·exact s.en j v (by omega) hv
 ·rw [ho]
  have:=h.nd
  rw [UK,Vg] at *
  refine ⟨this.1,?_,?_⟩
  ·simp only [List.singleton_append,Vy]
   exact ⟨hxg,this.2.1⟩
  ·intro a ha b hb e
   simp only [List.singleton_append,UR] at hb
   rcases hb with rfl | hb
   ·exact hxo (e ▸ ha)
   ·exact this.2.2 a ha b hb e
 ·intro v hv
  rw [ho] at hv
  simp only [UF,U2] at hv
  rcases hv with (hv | rfl) | hv
  ·exact h.lt v (by simp only [UF]; exact Or.inl hv)
  ·exact hm
  ·exact h.lt v (by simp only [UF]; exact Or.inr hv)
 ·intro v hv
  rw [ho]
  by_cases e:v = m
  ·subst e; simp [aY]
  ·rw [cY e,h.un v hv]; simp [e]
 ·intro v hv
  have e:v≠m:=λe=>hxg (e ▸ hv)
  rw [cY e]
  exact h.dn v hv
theorem Inv.RX {n k:Nat} {r:List Nat} (h:Inv E N low ((n,k,r) :: t) gs):n∉aA t/\n∉r/\n∉gs.flatten/\(∀ v∈r,v∉aA t):=by
 have:=h.nd
 simp only [aA,Vg,Vy,UF,UR] at this
 obtain ⟨⟨h1,h2,h3⟩,h4,h5⟩:=this
 exact ⟨λe=>h3 n e n (Or.inl rfl) rfl,h2.1,λe=>h5 n (Or.inr (Or.inl rfl)) n e rfl,λv hv e=>h3 v e v (Or.inr hv) rfl⟩
theorem Inv.look {n k m:Nat} {r:List Nat} (h:Inv E N low ((n,k,r) :: t) gs) (hk:(E n)[k]? = some m) (hm:m < N) (h0:low m≠0) :
  Inv E N (yO low n (min (low n) (low m))) ((n,k + 1,r) :: t) gs:=by
 obtain ⟨x1,x2,x3,x4⟩:=h.RX
 obtain ⟨s,hu,ht⟩:=h.ok
 have hle:k < (E n).length:=(UA.1 hk).1
 have hr:∀ v∈r,v≠n:=λv hv e=>x2 (e ▸ hv)
 have hlen:=h.len
 rw [bL] at hlen
 have htop:=s.top
 have hpn:=s.pos n (by simp)
 have hmin:yO low n (min (low n) (low m)) n<=low n:=by rw [aY]; omega
 have hdone:m∈gs.flatten->min (low n) (low m) = low n:=λe=>by rw [h.dn m e]; omega
 have hmono:=OK.mono (low':=yO low n (min (low n) (low m))) (op':=aA ((n,k,r) :: t)) (D':=(·∈gs.flatten)) _ ht
  (λv hv=>cY λe=>x1 (e ▸ hv)) (λi v hi=>Or.inl hi) (λi v hi _=>hi) (λi hi=>rfl) h.RW (λ_ h=>h)
  (λi hi=>by simp only [aA]; rw [UQ hi])
 refine ⟨⟨⟨hle,by omega,?_,?_,?_,s.rc,?_,?_,?_⟩,hu,hmono⟩,h.nd,h.lt,?_,?_,h.good⟩
 ·intro v hv
  rw [cY (hr v hv)]
  exact U7 hmin (s.lo v hv)
 ·intro v hv
  by_cases e:v = n
  ·subst e; rw [aY]; omega
  ·rw [cY e]; exact s.pos v hv
 ·intro v hv
  rw [cY (hr v hv)]
  exact s.at_ v hv
 ·intro v hv
  by_cases e:v = n
  ·subst e
   rw [aY]
   by_cases hc:low v<=low m
   ·rw [V2 hc]; exact s.to v (by simp)
   ·rw [Nat.min_eq_right (by omega)]
    rcases h.seen hm h0 with hs | hs
    ·obtain ⟨_,u,h1,h2⟩:=OK.to _ h.ok m hs
     exact ⟨u,h1,.step (UC hk) h2⟩
    ·have:=hdone hs; omega
  ·rw [cY e]; exact s.to v hv
 ·intro v hv x hx
  rcases s.ed v hv x hx with h1 | ⟨i,h1,h2⟩
  ·exact Or.inl h1
  ·exact Or.inr ⟨i,h1,U7 hmin h2⟩
 ·intro j x hj hx
  by_cases e:j = k
  ·subst e
   rw [hk] at hx; cases hx
   rcases h.seen hm h0 with hs | hs
   ·obtain ⟨i,hi1,hi2⟩:=List.getElem_of_mem hs
    have hi3:(aA ((n,j,r) :: t))[i]? = some m:=by rw [UB hi1,hi2]
    refine Or.inr ⟨i,hi3,?_⟩
    have:=OK.QQ _ h.ok h.RW (λ_ _=>rfl) m hs i hi3
    rw [aY]; omega
   ·exact Or.inl hs
  ·rcases s.en j x (by omega) hx with h1 | ⟨i,h1,h2⟩
   ·exact Or.inl h1
   ·exact Or.inr ⟨i,h1,U7 hmin h2⟩
 ·intro v hv
  by_cases e:v = n
  ·subst e
   rw [aY]
   have h1:v∈aA ((v,k + 1,r) :: t) ++ gs.flatten:=by simp [aA]
   constructor
   ·intro h2; omega
   ·intro h2; exact absurd h1 h2
  ·rw [cY e]; exact h.un v hv
 ·intro v hv
  have e:v≠n:=λe=>x3 (e ▸ hv)
  rw [cY e]
  exact h.dn v hv
theorem Inv.merge {n k u ku:Nat} {r ru:List Nat} (h:Inv E N low ((n,k,r) :: (u,ku,ru) :: t) gs) (hk:k = (E n).length) (hne:low n≠(aA ((u,ku,ru) :: t)).length + 1) :
  Inv E N (yO low u (min (low u) (low n))) ((u,ku,ru ++ n :: r) :: t) gs:=by
 obtain ⟨x1,x2,x3,x4⟩:=h.RX
 obtain ⟨s,hu,s2,hu2,ht⟩:=h.ok
 have ho:aA ((u,ku,ru ++ n :: r) :: t) = aA ((n,k,r) :: (u,ku,ru) :: t):=by simp [aA]
 have hru:u∉aA t/\u∉ru/\u≠n/\u∉r/\u∉gs.flatten:=by
  have:=h.nd
  simp only [aA,Vg,Vy,UF,UR] at this
  obtain ⟨⟨⟨h1,h2,h3⟩,h4,h5⟩,h6,h7⟩:=this
  exact ⟨λe=>h3 u e u (Or.inl rfl) rfl,h2.1,h5 u (Or.inr (Or.inl rfl)) n (Or.inl rfl),λe=>h5 u (Or.inr (Or.inl rfl)) u (Or.inr e) rfl,λe=>h7 u (Or.inl (Or.inr (Or.inl rfl))) u e rfl⟩
 obtain ⟨y1,y2,y3,y4,y5⟩:=hru
 have hmin:yO low u (min (low u) (low n)) u<=low u:=by rw [aY]; omega
 have hmin2:yO low u (min (low u) (low n)) u<=low n:=by rw [aY]; omega
 have hlow:∀ v,v≠u->yO low u (min (low u) (low n)) v = low v:=λv e=>cY e
 have hn:yO low u (min (low u) (low n)) n = low n:=hlow n (Ne.symm y3)
 have hr:∀ v∈r,yO low u (min (low u) (low n)) v = low v:=λv hv=>hlow v λe=>y4 (e ▸ hv)
 have hru:∀ v∈ru,yO low u (min (low u) (low n)) v = low v:=λv hv=>hlow v λe=>y2 (e ▸ hv)
 have hpn:=s.pos n (by simp)
 have hpu:=s2.pos u (by simp)
 have hmono:=OK.mono (low':=yO low u (min (low u) (low n))) (op':=aA ((n,k,r) :: (u,ku,ru) :: t)) (D':=(·∈gs.flatten)) _ ht
  (λv hv=>cY λe=>y1 (e ▸ hv)) (λi v hi=>Or.inl hi) (λi v hi _=>hi) (λi hi=>rfl) h.RW (λ_ h=>h)
  (λi hi=>by simp only [aA]; rw [UK,UQ hi])
 have hposn:(aA ((n,k,r) :: (u,ku,ru) :: t))[(aA ((u,ku,ru) :: t)).length]? = some n:=by simp only [aA]; simp
 refine ⟨?_,by rw [ho]; exact h.nd,by rw [ho]; exact h.lt,?_,?_,h.good⟩
 ·rw [ho]
  refine ⟨⟨s2.le,U7 hmin s2.top,?_,?_,?_,?_,?_,?_,?_⟩,hu2,hmono⟩
  ·intro v hv
   simp only [UF,UR] at hv
   rcases hv with hv | rfl | hv
   ·rw [hru v hv]; exact U7 hmin (s2.lo v hv)
   ·rw [hn]; exact hmin2
   ·rw [hr v hv]; exact U7 hmin2 (s.lo v hv)
  ·intro v hv
   by_cases e:v = u
   ·subst e; rw [aY]; omega
   ·rw [hlow v e]
    simp only [UF,UR] at hv
    rcases hv with hv | hv | rfl | hv
    ·exact absurd hv e
    ·exact s2.pos v (by simp [hv])
    ·exact hpn
    ·exact s.pos v (by simp [hv])
  ·intro v hv i hi
   simp only [UF,UR] at hv
   rcases hv with hv | rfl | hv
   ·rw [hru v hv]; exact s2.at_ v hv i hi
   ·rw [hn]
    have:=Ge h.RW hi hposn
    have:=s.top
    omega
   ·rw [hr v hv]; exact s.at_ v hv i hi
  ·intro v hv
   have h1:=hu u ku ru t rfl
   simp only [UF,UR] at hv
   rcases hv with hv | rfl | hv
   ·exact s2.rc v hv
   ·exact h1
   ·exact h1.trans (s.rc v hv)
  ·intro v hv
   by_cases e:v = u
   ·subst e
    rw [aY]
    by_cases hc:low v<=low n
    ·rw [V2 hc]; exact s2.to v (by simp)
    ·rw [Nat.min_eq_right (by omega)]
     obtain ⟨x,h1,h2⟩:=s.to n (by simp)
     exact ⟨x,h1,(hu v ku ru t rfl).trans h2⟩
   ·rw [hlow v e]
    simp only [UF,UR] at hv
    rcases hv with hv | hv | rfl | hv
    ·exact absurd hv e
    ·exact s2.to v (by simp [hv])
    ·exact s.to v (by simp)
    ·exact s.to v (by simp [hv])
  ·intro v hv x hx
   simp only [UF,UR] at hv
   rcases hv with hv | rfl | hv
   ·rcases s2.ed v hv x hx with h1 | ⟨i,h1,h2⟩
    ·exact Or.inl h1
    ·exact Or.inr ⟨i,h1,U7 hmin h2⟩
   ·obtain ⟨j,hj1,hj2⟩:=List.getElem_of_mem hx
    rcases s.en j x (by omega) (by rw [UB hj1,hj2]) with h1 | ⟨i,h1,h2⟩
    ·exact Or.inl h1
    ·exact Or.inr ⟨i,h1,U7 hmin2 h2⟩
   ·rcases s.ed v hv x hx with h1 | ⟨i,h1,h2⟩
    ·exact Or.inl h1
    ·exact Or.inr ⟨i,h1,U7 hmin2 h2⟩
  ·intro j x hj hx
   rcases s2.en j x hj hx with h1 | ⟨i,h1,h2⟩
   ·exact Or.inl h1
   ·exact Or.inr ⟨i,h1,U7 hmin h2⟩
 ·intro v hv
  rw [ho]
  by_cases e:v = u
  ·subst e
   rw [aY]
   have h1:v∈aA ((n,k,r) :: (v,ku,ru) :: t) ++ gs.flatten:=by simp [aA]
   constructor
   ·intro h2; omega
   ·intro h2; exact absurd h1 h2
  ·rw [hlow v e]; exact h.un v hv
 ·intro v hv
  rw [hlow v λe=>y5 (e ▸ hv)]
  exact h.dn v hv
variable {E:Nat->List Nat} {N:Nat} {low:Nat->Nat} {S t:List Sc} {gs:List (List Nat)}
theorem Inv.TV {n k u ku:Nat} {r ru:List Nat} (h:Inv E N low ((n,k,r) :: (u,ku,ru) :: t) gs) (hl:low n = (aA ((u,ku,ru) :: t)).length + 1):min (low u) (low n) = low u:=by
 obtain ⟨s,hu,s2,hu2,ht⟩:=h.ok
 have:=s2.top
 rw [bL] at hl
 omega
theorem Inv.pop {n k:Nat} {r:List Nat} (h:Inv E N low ((n,k,r) :: t) gs) (hk:k = (E n).length) (hl:low n = (aA t).length + 1) :
  Inv E N (λv=>if v∈n :: r then N + 1 else low v) t (gs ++ [n :: r]):=by
 obtain ⟨s,hu,ht⟩:=h.ok
 have hnd:=h.nd
 simp only [aA,Vg,UF] at hnd
 obtain ⟨⟨h1,h2,h3⟩,h4,h5⟩:=hnd
 have hop:aA ((n,k,r) :: t) = aA t ++ n :: r:=rfl
 have hin:∀ (i m:Nat),(aA ((n,k,r) :: t))[i]? = some m->low n<=i + 1->m∈n :: r:=by
  intro i m hi hle
  rw [hop,UP (by omega)] at hi
  exact UC hi
 have back:∀ p:Nat,∀ i:Nat,i < p->∀ v:Nat,v∈n :: r->(aA ((n,k,r) :: t))[i]? = some v->Rc E v n:=by
  intro p
  induction p with
  | zero=>intro i hi; omega
  | succ p ih =>
   intro i hi v hv hiv
   rcases UR.1 hv with rfl | hr
   ·exact .refl _
   ·have a1:=s.at_ v hr i hiv
    have a2:=s.lo v hr
    obtain ⟨u,b1,b2⟩:=s.to v hv
    have a3:=s.pos v hv
    exact b2.trans (ih (low v - 1) (by omega) u (hin _ u b1 (by omega)) b1)
 have back:∀ v∈n :: r,Rc E v n:=by
  intro v hv
  obtain ⟨i,hi1,hi2⟩:=List.getElem_of_mem (show v∈aA ((n,k,r) :: t) by rw [hop]; exact List.mem_append_right _ hv)
  exact back (i + 1) i (by omega) v hv (by rw [UB hi1,hi2])
 have fwd:∀ v∈n :: r,Rc E n v:=by
  intro v hv
  rcases UR.1 hv with rfl | hr
  ·exact .refl _
  ·exact s.rc v hr
 have hg:Good E (gs ++ [n :: r]):=by
  refine h.good.snoc (by simp) h2 (λa ha hb=>h5 a (Or.inr ha) a hb rfl) (λa ha b hb=>(back a ha).trans (fwd b hb)) ?_
  intro a ha b hb
  rcases UR.1 ha with rfl | hr
  ·obtain ⟨j,hj1,hj2⟩:=List.getElem_of_mem hb
   rcases s.en j b (by omega) (by rw [UB hj1,hj2]) with h1 | ⟨i,h1,h2⟩
   ·exact Or.inr h1
   ·exact Or.inl (hin i b h1 h2)
  ·rcases s.ed a hr b hb with h1 | ⟨i,h1,h2⟩
   ·exact Or.inr h1
   ·exact Or.inl (hin i b h1 h2)
 have hdis:∀ v∈aA t,v∉n :: r:=λv hv e=>h3 v hv v e rfl
 have hfl:∀ v,v∈(gs ++ [n :: r]).flatten↔v∈gs.flatten\/v∈n :: r:=by intro v; rw [List.flatten_append,UF,List.flatten_singleton]
 have hmono:=OK.mono (low':=λv=>if v∈n :: r then N + 1 else low v) (op':=aA t) (D':=(·∈(gs ++ [n :: r]).flatten)) _ ht
  (λv hv=>by simp only [UE (hdis v hv)])
  (λi v hi=>by
   by_cases hb:i < (aA t).length
   ·rw [hop,UQ hb] at hi
    exact Or.inl hi
   ·rw [hop,UP (by omega)] at hi
    exact Or.inr ((hfl v).2 (Or.inr (UC hi))))
  (λi v hi _=>by
   rw [hop,UQ (UA.1 hi).1]
   exact hi)
  (λi hi=>by rw [hop,UQ hi]) h.RW (λv hv=>(hfl v).2 (Or.inl hv))
  (λi hi=>by rw [hop,UQ hi])
 refine ⟨hmono,?_,?_,?_,?_,hg⟩
 ·rw [Vg]
  refine ⟨h1,hg.1,?_⟩
  intro a ha b hb e
  subst e
  rcases (hfl a).1 hb with hb | hb
  ·exact h5 a (Or.inl ha) a hb rfl
  ·exact hdis a ha hb
 ·intro v hv
  rw [UF,hfl] at hv
  refine h.lt v ?_
  rw [hop,UF,UF]
  rcases hv with hv | hv | hv
  ·exact Or.inl (Or.inl hv)
  ·exact Or.inr hv
  ·exact Or.inl (Or.inr hv)
 ·intro v hv
  rw [UF,hfl]
  by_cases e:v∈n :: r
  ·simp only [UJ e]
   constructor
   ·intro h; omega
   ·intro h; exact absurd (Or.inr (Or.inr e)) h
  ·simp only [UE e]
   rw [h.un v hv,hop,UF,UF]
   constructor
   ·intro a b
    rcases b with b | b | b
    ·exact a (Or.inl (Or.inl b))
    ·exact a (Or.inr b)
    ·exact e b
   ·intro a b
    rcases b with (b | b) | b
    ·exact a (Or.inl b)
    ·exact e b
    ·exact a (Or.inr (Or.inl b))
 ·intro v hv
  rcases (hfl v).1 hv with hv | hv
  ·by_cases e:v∈n :: r
   ·simp only [UJ e]
   ·simp only [UE e]; exact h.dn v hv
  ·simp only [UJ hv]
theorem Inv.start (E:Nat->List Nat) (N:Nat):Inv E N (λ_=>0) [] []:=⟨trivial,by simp [aA],by simp [aA],by simp [aA],by simp,Good.nil E⟩
def todo (E:Nat->List Nat) (N:Nat) (low:Nat->Nat) (S:List Sc):Nat :=
 ((List.range N).map λv=>if low v = 0 then (E v).length + 2 else 0).sum + (S.map λs=>(E s.1).length + 1 - s.2.1).sum
theorem RY {l:List Nat} {f g:Nat->Nat} (h:∀ v∈l,f v<=g v):(l.map f).sum<=(l.map g).sum:=by
 induction l with
 | nil=>simp
 | cons a l ih =>
  have h1:=h a (by simp)
  have h2:=ih λv hv=>h v (by simp [hv])
  simp only [Vh,List.sum_cons]; omega
theorem RZ {l:List Nat} {f g:Nat->Nat} (h:∀ v∈l,f v<=g v) {a d:Nat} (ha:a∈l) (hd:f a + d<=g a):(l.map f).sum + d<=(l.map g).sum:=by
 induction l with
 | nil=>simp at ha
 | cons b l ih =>
  simp only [Vh,List.sum_cons]
  rcases UR.1 ha with rfl | ha
  ·have:=RY (l:=l) λv hv=>h v (by simp [hv])
   omega
  ·have h1:=h b (by simp)
   have h2:=ih (λv hv=>h v (by simp [hv])) ha
   omega
theorem KV {n k m:Nat} {r:List Nat} (h:Inv E N low ((n,k,r) :: t) gs) (hk:(E n)[k]? = some m) (hm:m < N) (h0:low m = 0) (x:Nat) (hx:x≠0) :
  todo E N (yO low m x) ((m,0,[]) :: (n,k + 1,r) :: t) < todo E N low ((n,k,r) :: t):=by
 have hle:k < (E n).length:=(UA.1 hk).1
 have:=RZ (l:=List.range N) (f:=λv=>if yO low m x v = 0 then (E v).length + 2 else 0) (g:=λv=>if low v = 0 then (E v).length + 2 else 0) (a:=m) (d:=(E m).length + 2)
  (λv _=>by
   by_cases e:v = m
   ·subst e; simp [aY,hx]
   ·rw [cY e]; exact US _) (U8.2 hm) (by simp [aY,hx,h0])
 unfold todo
 simp only [Vh,List.sum_cons]
 omega
theorem xi {low' : Nat->Nat} (h:∀ v,v < N->(low' v = 0↔low v = 0)):((List.range N).map λv=>if low' v = 0 then (E v).length + 2 else 0).sum = ((List.range N).map λv=>if low v = 0 then (E v).length + 2 else 0).sum:=by
 congr 1
 refine VO λv hv=>?_
 have:=h v (U8.1 hv)
 by_cases e:low v = 0
 ·simp [e,this.2 e]
 ·simp [e,mt this.1 e]
end Go.V.bH
namespace Go.Proofs.YtndaepmjkbmjmaaGreatDoor
abbrev Gf:FuncId:=27
def BM:bh:={ rngs:=[],loops:=[(9,[(7,(.one .slice)),(31,(.one (.int .i64)))]),(13,[(42,(.one (.int .i64)))])],joins:=[],blocks:=[] }
theorem BN {a:Wr} {b c:Nat} {d:Wr} {e f:Nat} {g:Wr} {i j:Nat} {k:Int} {l:Wr} {m n:Nat} {w:Ws} {R:Value->WP} (h:new w (oC [vS a b c,vS d e f,vS g i j,iI k,vS l m n] 27) λk1 w1=>∃ o1 k2 k3 o2 k4 k5 o3 k6 k7 n1 o4 k8 k9,rA w1 (aM k1) 5 [vS o1 k2 k3,vS o2 k4 k5,vS o3 k6 k7,iI n1,vS o4 k8 k9]/\rE 57 [vG [vS o1 k2 k3,vS o2 k4 k5,vS o3 k6 k7,iI n1,vS o4 k8 k9]] w1 λv1 w2=>∃ o5 k10 k11 n2,v1 = vU [vS o5 k10 k11,iI n2]/\br (n2 != 0) (R (vU [vS none 0 0,iI n2]) w2) (∃ o6 k12 k13 o7 k14 k15 o8 k16 k17 n3 o9 k18 k19,rA w2 (aM k1) 5 [vS o6 k12 k13,vS o7 k14 k15,vS o8 k16 k17,iI n3,vS o9 k18 k19]/\rE 58 [vG [vS o6 k12 k13,vS o7 k14 k15,vS o8 k16 k17,iI n3,vS o9 k18 k19]] w2 λv2 w3=>∃ o10 k20 k21 n4,v2 = vU [vS o10 k20 k21,iI n4]/\br (n4 != 0) (R (vU [vS none 0 0,iI n4]) w3) (∃ (x1:lP [(7,mL),(31,aD)]),∃ (x2:lN [(7,mL),(31,aD)]),x1 none 0 0 0 w3/\∀ (I1:Nat->Value) (o11:Wr) (k22 k23:Nat) (n5:Int) (w4:Ws),x1 o11 k22 k23 n5 w4->br (decide (n5 < (k20:Int))) (idx o10 k20 n5 3 λa1=>∃ n6 n7 o12 k24 k25,rA w4 a1 3 [iI n6,iI n7,vS o12 k24 k25]/\new w4 (oC [iI 0,iI 0,vS none 0 0] 117) λk26 w5=>cG w5 (aM k26) [iI n6,iI n7,vS o12 k24 k25] λw6=>∃ o13 k27 k28,cL w6 (aM k1) (vS o13 k27 k28)/\rE 59 [iI (k27:Int),vS none 0 0] w6 λv3 w7=>∃ o14,v3 = vP o14/\∃ o15 k29 k30,cL w7 (Addr.add (aM k26) 2) (vS o15 k29 k30)/\∃ (x3:lP [(42,aD)]),∃ (x4:lN [(42,aD)]),x3 0 w7/\∀ (I2:Nat->Value) (n8:Int) (w8:Ws),x3 n8 w8->br (decide (n8 < (k29:Int))) (idx o15 k29 n8 1 λa2=>∃ n9,cL w8 a2 (iI n9)/\idx o5 k10 n9 1 λa3=>∃ o16 k31 k32,cL w8 a3 (vS o16 k31 k32)/\rE 60 [vP o14,vS o16 k31 k32] w8 λv4 w9=>∃ n10,v4 = iI n10/\aw (n8 + 1)/\x3 (n8 + 1) w9/\x4 (n8 + 1) w9 < x4 n8 w8) (∀ w10,drawn w8 w10->∃ (I3:WP),I3 w10/\∃ n11,(∀ w11,I3 w11->cL w11 (aM k26) (iI n11))/\∃ n12,(∀ w12,I3 w12->cL w12 (Addr.add (aM k26) 1) (iI n12))/\rE 61 [vP o14] w10 λv5 w13=>∃ o17 k33 k34,v5 = vS o17 k33 k34/\I3 w13/\new w13 (oC [iI n11,iI n12,vS o17 k33 k34] 58) λk35 w14=>I3 w14/\rS (jT 48 (Array.mk [vS o11 k22 k23,vS (some (aM k35)) 1 1])) w14 λv6 w15=>∃ o18 k36 k37,v6 = vS o18 k36 k37/\I3 w15/\aw (n5 + 1)/\x1 o18 k36 k37 (n5 + 1) w15/\x2 o18 k36 k37 (n5 + 1) w15 < x2 o11 k22 k23 n5 w4)) (rE 62 [vS o11 k22 k23] w4 λv7 w16=>∃ o19 k38 k39,v7 = vS o19 k38 k39/\R (vU [vS o19 k38 k39,iI 0]) w16)))):ay Tryz.prog 27 [(.agg #[(.slice a b c),(.slice d e f),(.slice g i j),(.int .i64 k),(.slice l m n)])] w R:=rv Tryz.func27 BM (by kernel_rfl) h
abbrev xj:FuncId:=57
def ui:bh:={ rngs:=[],loops:=[],joins:=[],blocks:=[] }
theorem uj {a:Wr} {b c:Nat} {d:Wr} {e f:Nat} {g:Wr} {i j:Nat} {k:Int} {l:Wr} {m n:Nat} {w:Ws} {R:Value->WP} (h:new w (oC [vS a b c,vS d e f,vS g i j,iI k,vS l m n] 27) λk1 w1=>∀ w2,drawn w1 w2->∃ (I1:WP),I1 w2/\∃ o1 k2 k3 o2 k4 k5 o3 k6 k7 n1 o4 k8 k9,(∀ w3,I1 w3->rA w3 (aM k1) 5 [vS o1 k2 k3,vS o2 k4 k5,vS o3 k6 k7,iI n1,vS o4 k8 k9])/\rE 102 [] w2 λv1 w4=>∃ o5 k10 k11,v1 = vS o5 k10 k11/\∃ (I2:WP),I2 w4/\(∀ w5,I2 w5->I1 w5)/\idx o5 k10 1 2 λa1=>∃ g1 x1 g2 x2,(∀ w6,I2 w6->rA w6 a1 2 [Value.func (Fn.func g1) (Array.mk []) (Array.mk x1),Value.func (Fn.func g2) (Array.mk []) (Array.mk x2)])/\rE 103 [vG [Value.func (Fn.func g1) (Array.mk []) (Array.mk x1),Value.func (Fn.func g2) (Array.mk []) (Array.mk x2)],vG [vS o1 k2 k3,vS o2 k4 k5,vS o3 k6 k7,iI n1,vS o4 k8 k9]] w4 λv2 w7=>∃ o6 k12 k13 n2,v2 = vU [vS o6 k12 k13,iI n2]/\I2 w7/\R (vU [vS o6 k12 k13,iI n2]) w7):ay Tryz.prog 57 [(.agg #[(.slice a b c),(.slice d e f),(.slice g i j),(.int .i64 k),(.slice l m n)])] w R:=rv Tryz.func57 ui (by kernel_rfl) h
def gT:bh:={ rngs:=[],loops:=[],joins:=[],blocks:=[] }
theorem gU {a:Wr} {b c:Nat} {w:Ws} {R:Value->WP} (h:lV a b c none (some (b:Int)) (some (b:Int)) 3 λ(o1:Wr) (k1 k2:Nat)=>R (vS o1 k1 k2) w):ay Tryz.prog 62 [(.slice a b c)] w R:=rv Tryz.func62 gT (by kernel_rfl) h
abbrev xk:FuncId:=102
def uk:bh:={ rngs:=[],loops:=[],joins:=[],blocks:=[] }
theorem um  {w:Ws} {R:Value->WP} (h:new w (oC [Value.func (Fn.func 158) (Array.mk []) (Array.mk []),Value.func (Fn.func 159) (Array.mk []) (Array.mk []),Value.func (Fn.func 160) (Array.mk []) (Array.mk []),Value.func (Fn.func 161) (Array.mk []) (Array.mk [])] 172) λk1 w1=>R (vS (some (aM k1)) 2 2) w1):ay Tryz.prog 102 [] w R:=rv Tryz.func102 uk (by kernel_rfl) h
abbrev oz:FuncId:=103
def mC:bh:={ rngs:=[],loops:=[],joins:=[],blocks:=[] }
theorem mD {a:FuncId} {b:List Value} {c:FuncId} {d:List Value} {e:Wr} {f g:Nat} {i:Wr} {j k:Nat} {l:Wr} {m n:Nat} {o:Int} {p:Wr} {q s:Nat} {w:Ws} {R:Value->WP} (h:new w (oC [Value.func (Fn.func a) (Array.mk []) (Array.mk b),Value.func (Fn.func c) (Array.mk []) (Array.mk d)] 172) λk1 w1=>new w1 (oC [vS e f g,vS i j k,vS l m n,iI o,vS p q s] 27) λk2 w2=>∃ g1 x1,cL w2 (aM k1) (Value.func (Fn.func g1) (Array.mk []) (Array.mk x1))/\∃ o1 k3 k4 o2 k5 k6 o3 k7 k8 n1 o4 k9 k10,rA w2 (aM k2) 5 [vS o1 k3 k4,vS o2 k5 k6,vS o3 k7 k8,iI n1,vS o4 k9 k10]/\uI (Proofs.YtndaepmjkbmjmaaGreatDoor.Fn g1) (rE g1 (vG [vS o1 k3 k4,vS o2 k5 k6,vS o3 k7 k8,iI n1,vS o4 k9 k10] :: x1) w2 λv1 w3=>∃ o5 k11 k12 n2,v1 = vU [vS o5 k11 k12,iI n2]/\br (n2 != 0) (R (vU [vS none 0 0,iI n2]) w3) (∃ g2 x2,cL w3 (Addr.add (aM k1) 1) (Value.func (Fn.func g2) (Array.mk []) (Array.mk x2))/\∃ o6 k13 k14 o7 k15 k16 o8 k17 k18 n3 o9 k19 k20,rA w3 (aM k2) 5 [vS o6 k13 k14,vS o7 k15 k16,vS o8 k17 k18,iI n3,vS o9 k19 k20]/\uI (Proofs.YtndaepmjkbmjmaaGreatDoor.Fn g2) (rE g2 (vG [vS o6 k13 k14,vS o7 k15 k16,vS o8 k17 k18,iI n3,vS o9 k19 k20] :: x2) w3 λv2 w4=>∃ o10 k21 k22 n4,v2 = vU [vS o10 k21 k22,iI n4]/\br (n4 != 0) (R (vU [vS none 0 0,iI n4]) w4) (rE 162 [vS o10 k21 k22,vS o5 k11 k12] w4 λv3 w5=>∃ o11 k23 k24 n5,v3 = vU [vS o11 k23 k24,iI n5]/\R (vU [vS o11 k23 k24,iI n5]) w5))))):ay Tryz.prog 103 [(.agg #[(.func (.func a) #[] ⟨b⟩),(.func (.func c) #[] ⟨d⟩)]),(.agg #[(.slice e f g),(.slice i j k),(.slice l m n),(.int .i64 o),(.slice p q s)])] w R:=rv Tryz.func103 mC (by kernel_rfl) h
abbrev qG:FuncId:=160
def xl:bh:={ rngs:=[],loops:=[],joins:=[],blocks:=[] }
theorem xm {a:Wr} {b c:Nat} {d:Wr} {e f:Nat} {g:Wr} {i j:Nat} {k:Int} {l:Wr} {m n:Nat} {w:Ws} {R:Value->WP} (h:new w (oC [vS a b c,vS d e f,vS g i j,iI k,vS l m n] 27) λk1 w1=>∀ w2,drawn w1 w2->∃ (I1:WP),I1 w2/\∃ o1 k2 k3 o2 k4 k5 o3 k6 k7 n1 o4 k8 k9,(∀ w3,I1 w3->rA w3 (aM k1) 5 [vS o1 k2 k3,vS o2 k4 k5,vS o3 k6 k7,iI n1,vS o4 k8 k9])/\rE 102 [] w2 λv1 w4=>∃ o5 k10 k11,v1 = vS o5 k10 k11/\∃ (I2:WP),I2 w4/\(∀ w5,I2 w5->I1 w5)/\idx o5 k10 0 2 λa1=>∃ g1 x1 g2 x2,(∀ w6,I2 w6->rA w6 a1 2 [Value.func (Fn.func g1) (Array.mk []) (Array.mk x1),Value.func (Fn.func g2) (Array.mk []) (Array.mk x2)])/\rE 103 [vG [Value.func (Fn.func g1) (Array.mk []) (Array.mk x1),Value.func (Fn.func g2) (Array.mk []) (Array.mk x2)],vG [vS o1 k2 k3,vS o2 k4 k5,vS o3 k6 k7,iI n1,vS o4 k8 k9]] w4 λv2 w7=>∃ o6 k12 k13 n2,v2 = vU [vS o6 k12 k13,iI n2]/\I2 w7/\R (vU [vS o6 k12 k13,iI n2]) w7):ay Tryz.prog 160 [(.agg #[(.slice a b c),(.slice d e f),(.slice g i j),(.int .i64 k),(.slice l m n)])] w R:=rv Tryz.func160 xl (by kernel_rfl) h
abbrev yP:FuncId:=162
def vJ:bh:={ rngs:=[],loops:=[(4,[(22,(.one (.int .i64)))])],joins:=[(2,[(19,(.one .bool))])],blocks:=[] }
theorem vK {a:Wr} {b c:Nat} {d:Wr} {e f:Nat} {w:Ws} {R:Value->WP} (h:new w (oC [vS a b c] 71) λk1 w1=>new w1 (oC [vS d e f] 71) λk2 w2=>∃ (x1:lP [(19,pI)]),(∃ o1 k3 k4,World.cell? w2 (aM k1) = some (vS o1 k3 k4)/\rE 208 [vS o1 k3 k4] w2 λv1 w3=>∃ b1,v1 = vB b1/\br (!b1) (x1 true w3) (∃ o2 k5 k6,World.cell? w3 (aM k2) = some (vS o2 k5 k6)/\∃ o3 k7 k8,World.cell? w3 (aM k1) = some (vS o3 k7 k8)/\x1 ((k5:Int) != (k7:Int)) w3))/\∀ (I1:Nat->Value) (b2:Bool) (w4:Ws),x1 b2 w4->br b2 (R (vU [vS none 0 0,iI 1]) w4) (∃ o4 k9 k10,World.cell? w4 (aM k2) = some (vS o4 k9 k10)/\∃ (x2:lP [(22,aD)]),∃ (x3:lN [(22,aD)]),x2 0 w4/\∀ (I2:Nat->Value) (n1:Int) (w5:Ws),x2 n1 w5->br (decide (n1 < (k9:Int))) (idx o4 k9 n1 1 λa1=>∃ o5 k11 k12,World.cell? w5 a1 = some (vS o5 k11 k12)/\rE 209 [vS o5 k11 k12,Value.func (Fn.func 210) (Array.mk []) (Array.mk [])] w5 λv2 w6=>∃ b3,v2 = vB b3/\br b3 (R (vU [vS none 0 0,iI 1]) w6) (aw (n1 + 1)/\x2 (n1 + 1) w6/\x3 (n1 + 1) w6 < x3 n1 w5)) (∃ o6 k13 k14,World.cell? w5 (aM k1) = some (vS o6 k13 k14)/\Dc (k13:Int) (k13:Int) 8/\new w5 (Obj.cells (Array.mk (lD (Int.toNat (k13:Int)) [vP none])) 118) λk15 w7=>new w7 (oC [vS none 0 0] 286) λk16 w8=>st1 w8 (aM k16) (vS (some (aM k15)) (Int.toNat (k13:Int)) (Int.toNat (k13:Int))) λw9=>∃ o7 k17 k18,World.cell? w9 (aM k1) = some (vS o7 k17 k18)/\Dc (k17:Int) (k17:Int) 24/\new w9 (Obj.cells (Array.mk (lD (Int.toNat (k17:Int)) [vS none 0 0])) 24) λk19 w10=>new w10 (oC [vS none 0 0] 71) λk20 w11=>st1 w11 (aM k20) (vS (some (aM k19)) (Int.toNat (k17:Int)) (Int.toNat (k17:Int))) λw12=>∃ o8 k21 k22,World.cell? w12 (aM k1) = some (vS o8 k21 k22)/\rE 211 [vS o8 k21 k22,Value.func (Fn.func 212) (Array.mk []) (Array.mk [vP (some (aM k16)),vP (some (aM k2)),vP (some (aM k1)),vP (some (aM k20))])] w12 λv3 w13=>v3 = vU []/\∃ o9 k23 k24,World.cell? w13 (aM k20) = some (vS o9 k23 k24)/\R (vU [vS o9 k23 k24,iI 0]) w13))):ay Tryz.prog 162 [(.slice a b c),(.slice d e f)] w R:=rv Tryz.func162 vJ (by kernel_rfl) h
abbrev yQ:FuncId:=208
def vL:bh:={ rngs:=[],loops:=[],joins:=[],blocks:=[] }
theorem vM {a:Wr} {b c:Nat} {w:Ws} {R:Value->WP} (h:new w (oC [vS a b c] 71) λk1 w1=>∃ o1 k2 k3,World.cell? w1 (aM k1) = some (vS o1 k2 k3)/\rE 242 [vS o1 k2 k3,Value.func (Fn.func 243) (Array.mk []) (Array.mk [vP (some (aM k1))])] w1 λv1 w2=>∃ b1,v1 = vB b1/\R (vB !b1) w2):ay Tryz.prog 208 [(.slice a b c)] w R:=rv Tryz.func208 vL (by kernel_rfl) h
abbrev uo:FuncId:=210
def qH:bh:={ rngs:=[],loops:=[],joins:=[],blocks:=[] }
theorem qI {a:Int} {w:Ws} {R:Value->WP} (h:br (decide (a < 0)) (R (vB true) w) (R (vB (decide (1024<=a))) w)):ay Tryz.prog 210 [(.int .i64 a)] w R:=rv Tryz.func210 qH (by kernel_rfl) h
abbrev AA:FuncId:=211
def xn:bh:={ rngs:=[],loops:=[(5,[(26,(.one (.int .i64)))]),(12,[]),(14,[]),(30,[(170,(.one (.int .i64)))])],joins:=[(26,[])],blocks:=[] }
theorem xp {a:Wr} {b c:Nat} {d:FuncId} {e:List Value} {w:Ws} {R:Value->WP} (h:Dc (b:Int) (b:Int) 8/\new w (Obj.cells (Array.mk (lD (Int.toNat (b:Int)) [iI 0])) 3) λk1 w1=>new w1 (oC [vS none 0 0] 24) λk2 w2=>st1 w2 (aM k2) (vS (some (aM k1)) (Int.toNat (b:Int)) (Int.toNat (b:Int))) λw3=>aw ((b:Int) + 1)/\new w3 (oC [vS none 0 0] 24) λk3 w4=>new w4 (oC [vS none 0 0] 318) λk4 w5=>∃ (x1:lP [(26,aD)]),∃ (x2:lN [(26,aD)]),x1 0 w5/\∀ (I1:Nat->Value) (n1:Int) (w6:Ws),x1 n1 w6->br (decide (n1 < (b:Int))) (∃ o1 k5 k6,World.cell? w6 (aM k2) = some (vS o1 k5 k6)/\idx o1 k5 n1 1 λa1=>∃ n2,World.cell? w6 a1 = some (iI n2)/\br (decide (0 < n2)) (aw (n1 + 1)/\x1 (n1 + 1) w6/\x2 (n1 + 1) w6 < x2 n1 w6) (new w6 (Obj.map (Array.mk []) 0) λk7 w7=>∃ o2 k8 k9,World.cell? w7 (aM k3) = some (vS o2 k8 k9)/\aw ((k8:Int) + 1)/\aU Proofs.Tryz.prog (Instr.mapUpdate 226 (Value.map (some k7)) (iI n1) (iI ((k8:Int) + 1))) w7 λ(x3:Unit) (w8:Ws)=>rE 246 [iI n1,vP (some (aM k3)),vP (some (aM k2)),vP (some (aM k4))] w8 λv1 w9=>v1 = vU []/\∃ (x4:lP []),∃ (x5:lN []),x4 w9/\∀ (I2:Nat->Value) (w10:Ws),x4 w10->∃ o3 k10 k11,World.cell? w10 (aM k4) = some (vS o3 k10 k11)/\br (decide (0 < (k10:Int))) (∃ o4 k12 k13,World.cell? w10 (aM k4) = some (vS o4 k12 k13)/\∃ o5 k14 k15,World.cell? w10 (aM k4) = some (vS o5 k14 k15)/\aw ((k14:Int) - 1)/\idx o4 k12 ((k14:Int) - 1) 2 λa2=>∃ (x6:lP []),∃ (x7:lN []),x6 w10/\∀ (I3:Nat->Value) (w11:Ws),x6 w11->∀ w12,drawn w11 w12->∃ (I4:WP),I4 w12/\∃ n3,(∀ w13,I4 w13->World.cell? w13 (Addr.add a2 1) = some (iI n3))/\∃ n4,(∀ w14,I4 w14->World.cell? w14 a2 = some (iI n4))/\idx a b n4 1 λa3=>∃ o6 k16 k17,(∀ w15,I4 w15->World.cell? w15 a3 = some (vS o6 k16 k17))/\br (decide (n3 < (k16:Int))) (∀ w16,drawn w12 w16->∃ (I5:WP),I5 w16/\∃ n5,(∀ w17,I5 w17->World.cell? w17 a2 = some (iI n5))/\idx a b n5 1 λa4=>∃ o7 k18 k19,(∀ w18,I5 w18->World.cell? w18 a4 = some (vS o7 k18 k19))/\∃ n6,(∀ w19,I5 w19->World.cell? w19 (Addr.add a2 1) = some (iI n6))/\idx o7 k18 n6 1 λa5=>∃ n7,(∀ w20,I5 w20->World.cell? w20 a5 = some (iI n7))/\∃ n8,World.cell? w16 (Addr.add a2 1) = some (iI n8)/\aw (n8 + 1)/\st1 w16 (Addr.add a2 1) (iI (n8 + 1)) λw21=>∃ o8 k20 k21,World.cell? w21 (aM k2) = some (vS o8 k20 k21)/\idx o8 k20 n7 1 λa6=>∃ n9,World.cell? w21 a6 = some (iI n9)/\br (n9 == 0) (∃ o9 k22 k23,World.cell? w21 (aM k3) = some (vS o9 k22 k23)/\aw ((k22:Int) + 1)/\aU Proofs.Tryz.prog (Instr.mapUpdate 226 (Value.map (some k7)) (iI n7) (iI ((k22:Int) + 1))) w21 λ(x8:Unit) (w22:Ws)=>rE 246 [iI n7,vP (some (aM k3)),vP (some (aM k2)),vP (some (aM k4))] w22 λv2 w23=>v2 = vU []/\x4 w23/\x5 w23 < x5 w10) (∀ w24,drawn w21 w24->∃ (I6:WP),I6 w24/\∃ o10 k24 k25,(∀ w25,I6 w25->World.cell? w25 (aM k2) = some (vS o10 k24 k25))/\∃ n10,(∀ w26,I6 w26->World.cell? w26 a2 = some (iI n10))/\∃ o11 k26 k27,(∀ w27,I6 w27->World.cell? w27 (aM k2) = some (vS o11 k26 k27))/\∃ n11,(∀ w28,I6 w28->World.cell? w28 a2 = some (iI n11))/\idx o11 k26 n11 1 λa7=>∃ n12,(∀ w29,I6 w29->World.cell? w29 a7 = some (iI n12))/\∃ o12 k28 k29,(∀ w30,I6 w30->World.cell? w30 (aM k2) = some (vS o12 k28 k29))/\idx o12 k28 n7 1 λa8=>∃ n13,(∀ w31,I6 w31->World.cell? w31 a8 = some (iI n13))/\idx o10 k24 n10 1 λa9=>st1 w24 a9 (iI (if n13 < n12 then n13 else n12)) λw32=>x6 w32/\x7 w32 < x7 w11)) (∃ n14,World.cell? w12 a2 = some (iI n14)/\∃ o13 k30 k31,World.cell? w12 (aM k4) = some (vS o13 k30 k31)/\∃ o14 k32 k33,World.cell? w12 (aM k4) = some (vS o14 k32 k33)/\aw ((k32:Int) - 1)/\lV o13 k30 k31 none (some ((k32:Int) - 1)) none 2 λ(o15:Wr) (k34 k35:Nat)=>st1 w12 (aM k4) (vS o15 k34 k35) λw33=>∃ (x9:lP []),(∃ o16 k36 k37,World.cell? w33 (aM k4) = some (vS o16 k36 k37)/\br (decide (0 < (k36:Int))) (∃ o17 k38 k39,World.cell? w33 (aM k4) = some (vS o17 k38 k39)/\∃ o18 k40 k41,World.cell? w33 (aM k4) = some (vS o18 k40 k41)/\aw ((k40:Int) - 1)/\idx o17 k38 ((k40:Int) - 1) 2 λa10=>∃ n15,World.cell? w33 a10 = some (iI n15)/\∀ w34,drawn w33 w34->∃ (I7:WP),I7 w34/\∃ o19 k42 k43,(∀ w35,I7 w35->World.cell? w35 (aM k2) = some (vS o19 k42 k43))/\∃ o20 k44 k45,(∀ w36,I7 w36->World.cell? w36 (aM k2) = some (vS o20 k44 k45))/\idx o20 k44 n15 1 λa11=>∃ n16,(∀ w37,I7 w37->World.cell? w37 a11 = some (iI n16))/\∃ o21 k46 k47,(∀ w38,I7 w38->World.cell? w38 (aM k2) = some (vS o21 k46 k47))/\idx o21 k46 n14 1 λa12=>∃ n17,(∀ w39,I7 w39->World.cell? w39 a12 = some (iI n17))/\idx o19 k42 n15 1 λa13=>st1 w34 a13 (iI (if n17 < n16 then n17 else n16)) λw40=>x9 w40) (x9 w33))/\∀ (I8:Nat->Value) (w41:Ws),x9 w41->∀ w42,drawn w41 w42->∃ (I9:WP),I9 w42/\∃ o22 k48 k49,(∀ w43,I9 w43->World.cell? w43 (aM k2) = some (vS o22 k48 k49))/\idx o22 k48 n14 1 λa14=>∃ n18,(∀ w44,I9 w44->World.cell? w44 a14 = some (iI n18))/\aU Proofs.Tryz.prog (Instr.lookup 226 (Value.map (some k7)) (iI n14) false) w42 λv3 w45=>∃ n19,v3 = iI n19/\I9 w45/\br (n18 == n19) (∃ o23 k50 k51,World.cell? w45 (aM k3) = some (vS o23 k50 k51)/\aU Proofs.Tryz.prog (Instr.lookup 226 (Value.map (some k7)) (iI n14) false) w45 λv4 w46=>∃ n20,v4 = iI n20/\aw (n20 - 1)/\lV o23 k50 k51 (some (n20 - 1)) none none 1 λ(o24:Wr) (k52 k53:Nat)=>rE 214 [vS o24 k52 k53] w46 λv5 w47=>∃ o25 k54 k55,v5 = vS o25 k54 k55/\∃ o26 k56 k57,World.cell? w47 (aM k3) = some (vS o26 k56 k57)/\aU Proofs.Tryz.prog (Instr.lookup 226 (Value.map (some k7)) (iI n14) false) w47 λv6 w48=>∃ n21,v6 = iI n21/\aw (n21 - 1)/\lV o26 k56 k57 none (some (n21 - 1)) none 1 λ(o27:Wr) (k58 k59:Nat)=>st1 w48 (aM k3) (vS o27 k58 k59) λw49=>∃ (x10:lP [(170,aD)]),∃ (x11:lN [(170,aD)]),x10 0 w49/\∀ (I10:Nat->Value) (n22:Int) (w50:Ws),x10 n22 w50->br (decide (n22 < (k54:Int))) (idx o25 k54 n22 1 λa15=>∃ n23,World.cell? w50 a15 = some (iI n23)/\∃ o28 k60 k61,World.cell? w50 (aM k2) = some (vS o28 k60 k61)/\idx o28 k60 n23 1 λa16=>st1 w50 a16 (iI ((b:Int) + 1)) λw51=>aw (n22 + 1)/\x10 (n22 + 1) w51/\x11 (n22 + 1) w51 < x11 n22 w50) (uI (Proofs.YtndaepmjkbmjmaaGreatDoor.Fn d) (rE d (vS o25 k54 k55 :: e) w50 λv7 w52=>v7 = vU []/\x4 w52/\x5 w52 < x5 w10))) (x4 w45/\x5 w45 < x5 w10))) (aw (n1 + 1)/\x1 (n1 + 1) w10/\x2 (n1 + 1) w10 < x2 n1 w6))) (R (vU []) w6)):ay Tryz.prog 211 [(.slice a b c),(.func (.func d) #[] ⟨e⟩)] w R:=rv Tryz.func211 xn (by kernel_rfl) h
abbrev uq:FuncId:=212
def qJ:bh:={ rngs:=[],loops:=[(2,[(19,(.one (.int .i64)))]),(7,[(30,(.one (.int .i64)))]),(11,[(45,(.one (.int .i64)))]),(19,[(68,(.one (.int .i64)))])],joins:=[],blocks:=[] }
theorem qK {a:Wr} {b c:Nat} {d e f g:Addr} {w:Ws} {R:Value->WP} (h:rE 59 [iI 1024,vS none 0 0] w λv1 w1=>∃ o1,v1 = vP o1/\∃ (x1:lP [(19,aD)]),∃ (x2:lN [(19,aD)]),x1 0 w1/\∀ (I1:Nat->Value) (n1:Int) (w2:Ws),x1 n1 w2->br (decide (n1 < (b:Int))) (idx a b n1 1 λa1=>∃ n2,World.cell? w2 a1 = some (iI n2)/\∃ o2 k1 k2,World.cell? w2 d = some (vS o2 k1 k2)/\idx o2 k1 n2 1 λa2=>st1 w2 a2 (vP o1) λw3=>aw (n1 + 1)/\x1 (n1 + 1) w3/\x2 (n1 + 1) w3 < x2 n1 w2) (∃ (x3:lP [(30,aD)]),∃ (x4:lN [(30,aD)]),x3 0 w2/\∀ (I2:Nat->Value) (n3:Int) (w4:Ws),x3 n3 w4->br (decide (n3 < (b:Int))) (idx a b n3 1 λa3=>∃ n4,World.cell? w4 a3 = some (iI n4)/\∃ o3 k3 k4,World.cell? w4 e = some (vS o3 k3 k4)/\idx o3 k3 n4 1 λa4=>∃ o4 k5 k6,World.cell? w4 a4 = some (vS o4 k5 k6)/\rE 60 [vP o1,vS o4 k5 k6] w4 λv2 w5=>∃ n5,v2 = iI n5/\∃ o5 k7 k8,World.cell? w5 f = some (vS o5 k7 k8)/\idx o5 k7 n4 1 λa5=>∃ o6 k9 k10,World.cell? w5 a5 = some (vS o6 k9 k10)/\∃ (x5:lP [(45,aD)]),∃ (x6:lN [(45,aD)]),x5 0 w5/\∀ (I3:Nat->Value) (n6:Int) (w6:Ws),x5 n6 w6->br (decide (n6 < (k9:Int))) (idx o6 k9 n6 1 λa6=>∃ n7,World.cell? w6 a6 = some (iI n7)/\∃ o7 k11 k12,World.cell? w6 d = some (vS o7 k11 k12)/\idx o7 k11 n7 1 λa7=>∃ o8,World.cell? w6 a7 = some (vP o8)/\QY Proofs.YtndaepmjkbmjmaaGreatDoor.Ty (λ(x7:Sem Value) (I4:Value->Prop)=>∃ v3,Sem.run Proofs.Tryz.prog x7 w6 = Result.ok v3 w6/\I4 v3) BinOp.neq 118 (Operand.tmp 52) (Operand.tmp 53) o8 o1 λb1=>br b1 (∃ o9 k13 k14,World.cell? w6 d = some (vS o9 k13 k14)/\idx o9 k13 n7 1 λa8=>∃ o10,World.cell? w6 a8 = some (vP o10)/\new w6 (oC [vP o10] 118) λk15 w7=>rE 213 [vP o1,vS (some (aM k15)) 1 1] w7 λv4 w8=>∃ n8,v4 = iI n8/\aw (n6 + 1)/\x5 (n6 + 1) w8/\x6 (n6 + 1) w8 < x6 n6 w6) (aw (n6 + 1)/\x5 (n6 + 1) w6/\x6 (n6 + 1) w6 < x6 n6 w6)) (aw (n3 + 1)/\x3 (n3 + 1) w6/\x4 (n3 + 1) w6 < x4 n3 w4)) (rE 61 [vP o1] w4 λv5 w9=>∃ o11 k16 k17,v5 = vS o11 k16 k17/\∃ (x8:lP [(68,aD)]),∃ (x9:lN [(68,aD)]),x8 0 w9/\∀ (I5:Nat->Value) (n9:Int) (w10:Ws),x8 n9 w10->br (decide (n9 < (b:Int))) (idx a b n9 1 λa9=>∃ n10,World.cell? w10 a9 = some (iI n10)/\∀ w11,drawn w10 w11->∃ (I6:WP),I6 w11/\∃ o12 k18 k19,(∀ w12,I6 w12->World.cell? w12 g = some (vS o12 k18 k19))/\rE 214 [vS o11 k16 k17] w11 λv6 w13=>∃ o13 k20 k21,v6 = vS o13 k20 k21/\I6 w13/\idx o12 k18 n10 1 λa10=>st1 w13 a10 (vS o13 k20 k21) λw14=>aw (n9 + 1)/\x8 (n9 + 1) w14/\x9 (n9 + 1) w14 < x9 n9 w10) (R (vU []) w10)))):ay Tryz.prog 212 [(.slice a b c),(.pointer (some d)),(.pointer (some e)),(.pointer (some f)),(.pointer (some g))] w R:=rv Tryz.func212 qJ (by kernel_rfl) h
abbrev ur:FuncId:=243
def qL:bh:={ rngs:=[],loops:=[],joins:=[],blocks:=[] }
theorem qM {a:Wr} {b c:Nat} {d:Addr} {w:Ws} {R:Value->WP} (h:rE 209 [vS a b c,Value.func (Fn.func 244) (Array.mk []) (Array.mk [vP (some d)])] w λv1 w1=>∃ b1,v1 = vB b1/\R (vB b1) w1):ay Tryz.prog 243 [(.slice a b c),(.pointer (some d))] w R:=rv Tryz.func243 qL (by kernel_rfl) h
abbrev pz:FuncId:=244
def nH:bh:={ rngs:=[],loops:=[],joins:=[],blocks:=[] }
theorem nI {a:Int} {b:Addr} {w:Ws} {R:Value->WP} (h:br (decide (a < 0)) (R (vB true) w) (∃ o1 k1 k2,World.cell? w b = some (vS o1 k1 k2)/\R (vB (decide ((k1:Int)<=a))) w)):ay Tryz.prog 244 [(.int .i64 a),(.pointer (some b))] w R:=rv Tryz.func244 nH (by kernel_rfl) h
abbrev vN:FuncId:=246
def sK:bh:={ rngs:=[],loops:=[],joins:=[],blocks:=[] }
theorem sM {a:Int} {b c d:Addr} {w:Ws} {R:Value->WP} (h:∃ o1 k1 k2,World.cell? w b = some (vS o1 k1 k2)/\new w (oC [iI a] 3) λk3 w1=>rS (jT 24 (Array.mk [vS o1 k1 k2,vS (some (aM k3)) 1 1])) w1 λv1 w2=>∃ o2 k4 k5,v1 = vS o2 k4 k5/\st1 w2 b (vS o2 k4 k5) λw3=>∃ o3 k6 k7,World.cell? w3 c = some (vS o3 k6 k7)/\∃ o4 k8 k9,World.cell? w3 b = some (vS o4 k8 k9)/\idx o3 k6 a 1 λa1=>st1 w3 a1 (iI (k8:Int)) λw4=>∃ o5 k10 k11,World.cell? w4 d = some (vS o5 k10 k11)/\new w4 (oC [iI a,iI 0] 320) λk12 w5=>rS (jT 318 (Array.mk [vS o5 k10 k11,vS (some (aM k12)) 1 1])) w5 λv2 w6=>∃ o6 k13 k14,v2 = vS o6 k13 k14/\st1 w6 d (vS o6 k13 k14) λw7=>R (vU []) w7):ay Tryz.prog 246 [(.int .i64 a),(.pointer (some b)),(.pointer (some c)),(.pointer (some d))] w R:=rv Tryz.func246 sK (by kernel_rfl) h
end Go.Proofs.YtndaepmjkbmjmaaGreatDoor
namespace Go.V
def GY (l:List (Nat × Nat)):List Value:=l.flatMap λx=>[.int .i64 (x.1:Int),.int .i64 (x.2:Int)]
theorem Eg:∀ l,(GY l).length = l.length * 2
 | []=>rfl
 | x :: l=>by
  have:=Eg l
  unfold GY at this ⊢
  rw [U6,UG,this]; simp; omega
theorem Gg (l:List (Nat × Nat)) (a b:Nat):GY l ++ [Value.int .i64 (a:Int),.int .i64 (b:Int)] = GY (l ++ [(a,b)]):=by simp [GY]
theorem NC {gs:List (List Nat)} (h:∀ g∈gs,g≠[]):gs.length<=gs.flatten.length:=by
 induction gs with
 | nil=>simp
 | cons g gs ih =>
  have h1:=ih λx hx=>h x (by simp [hx])
  have h2:=VY.2 (h g (by simp))
  rw [List.flatten_cons,UG,Vc]; omega
theorem bH.Good.ne {E:Nat->List Nat} {gs:List (List Nat)} (h:bH.Good E gs):∀ g∈gs,g≠[]:=λg hg=>by
 obtain ⟨g1,g2,e⟩:=Wk hg
 exact (h.2 g1 g g2 e).1
theorem bH.Good.len {E:Nat->List Nat} {gs:List (List Nat)} {N:Nat} (h:bH.Good E gs) (hl:∀ v∈gs.flatten,v < N):gs.length<=N/\∀ g∈gs,g.length<=N:=by
 have h1:=NC h.ne
 have h2:=bH.NB h.1 hl
 refine ⟨by omega,λg hg=>?_⟩
 obtain ⟨g1,g2,e⟩:=Wk hg
 rw [e] at h2; simp at h2; omega
end Go.V
namespace Go.Proofs.YtndaepmjkbmjmaaGreatDoor
abbrev Ls:=(Wr × Nat) × List Int
def AB (p:Ls):Value:=.slice p.1.1 p.2.length p.1.2
def xq (p:Ls):au:=own 1 p.1.1 p.2.length p.1.2 (iv p.2)
variable {w:Ws} {L:List au}
abbrev sO (ko kl kw bl N:Nat) (oa:Wr) (oc:Nat) (wa:Wr) (wc:Nat) (op low:List Nat) (wk:List (Nat × Nat)):List au :=
 [aS ko [.slice oa op.length oc],own 1 oa op.length oc (nj op),aS kl [.slice (some ⟨bl,0,none⟩) N N],aS bl (nj low),aS kw [.slice wa wk.length wc],own 2 wa wk.length wc (GY wk)]
theorem JE {ko kl kw bl N n:Nat} {oa:Wr} {oc:Nat} {wa:Wr} {wc:Nat} {op low:List Nat} {wk:List (Nat × Nat)}
  (h:St w (sO ko kl kw bl N oa oc wa wc op low wk ++ L)) (hN:low.length = N) (hn:n < N) (ho:op.length < N) (hw:wk.length < N) (hb:N * 24<=140737488355328) :
  ay Tryz.prog vN [.int .i64 (n:Int),.pointer (some (aM ko)),.pointer (some (aM kl)),.pointer (some (aM kw))] w λv w'=>v = .tuple (Array.mk []) /\
   ∃ oa oc wa wc,St w' (sO ko kl kw bl N oa oc wa wc (op ++ [n]) (low.set n (op.length + 1)) (wk ++ [(n,0)]) ++ L):=by
 refine @sM (n:Int) (aM ko) (aM kl) (aM kw) w _ ?_
 refine ⟨_,_,_,(ag 0 h.l).cell0 (sub.refl _),af h λk3 w1 h=>?_⟩
 refine (aW aL (rfl:ah Ty _ = .slice _) (rfl:ah Ty _ = .slice _) rfl rfl rfl (h.pick 7 [0,2,1,3,4,5,6]) rfl (by simp [aH]) (by show (op.length + 1) * 8<=_; omega) (by omega)).mono ?_
 rintro _ w2 ⟨oa',oc',rfl,h⟩
 rw [MD] at h
 refine ⟨_,_,_,rfl,bC (h.pick 7 [2,0,3,4,5,6]) (by simp) λw3 h=>?_⟩
 refine ⟨_,_,_,(ag 2 h.l).cell0 (sub.refl _),_,_,_,(ag 0 h.l).cell0 (sub.refl _),aB rfl hn ?_⟩
 rw [aV]
 refine bC (h.pick 6 [3,0,1,2,4,5]) (by simp [nj]; omega) λw4 h=>?_
 refine ⟨_,_,_,(ag 4 h.l).cell0 (sub.refl _),af h λk12 w5 h=>?_⟩
 refine (aW aL (rfl:ah Ty _ = .slice _) (rfl:ah Ty _ = .slice _) rfl rfl rfl (h.pick 7 [0,6,1,2,3,4,5]) rfl (by simp [aH]) (by show (wk.length + 1) * 16<=_; omega) (by omega)).mono ?_
 rintro _ w6 ⟨wa',wc',rfl,h⟩
 refine ⟨_,_,_,rfl,bC (h.pick 7 [6,0,2,3,4,5]) (by simp) λw7 h=>⟨rfl,oa',oc',wa',wc',?_⟩⟩
 have l1:(op ++ [n]).length = op.length + 1:=by simp
 have l2:(wk ++ [(n,0)]).length = wk.length + 1:=by simp
 unfold sO
 rw [l1,l2,<- vm,<- Gg]
 exact h.pick 6 [3,4,5,2,0,1]
end Go.Proofs.YtndaepmjkbmjmaaGreatDoor
namespace Go.V
section
variable {w:Ws} {L:List au}
theorem vO {l:List (Nat × Nat)}:∀ {i n k:Nat},l[i]? = some (n,k)->(GY l)[i * 2]? = some (.int .i64 (n:Int))/\(GY l)[i * 2 + 1]? = some (.int .i64 (k:Int)):=by
 induction l with
 | nil=>intro i n k h; simp at h
 | cons x l ih =>
  intro i n k h
  have e:GY (x :: l) = Value.int .i64 (x.1:Int) :: Value.int .i64 (x.2:Int) :: GY l:=rfl
  rw [e]
  cases i with
  | zero=>simp at h; subst h; simp
  | succ i =>
   simp only [Wg] at h
   have:=ih h
   rw [show (i + 1) * 2 = i * 2 + 1 + 1 from by omega,show i * 2 + 1 + 1 + 1 = (i * 2 + 1) + 1 + 1 from rfl]
   simpa using this
theorem ND {l:List (Nat × Nat)}:∀ {i n k:Nat} (k' : Nat),l[i]? = some (n,k)->(GY l).set (i * 2 + 1) (.int .i64 (k' : Int)) = GY (l.set i (n,k')):=by
 induction l with
 | nil=>intro i n k k' h; simp at h
 | cons x l ih =>
  intro i n k k' h
  have e:GY (x :: l) = Value.int .i64 (x.1:Int) :: Value.int .i64 (x.2:Int) :: GY l:=rfl
  rw [e]
  cases i with
  | zero=>simp at h; subst h; rfl
  | succ i =>
   simp only [Wg] at h
   rw [show (i + 1) * 2 + 1 = (i * 2 + 1) + 1 + 1 from by omega,Wl,Wl,ih k' h]; rfl
theorem St.S8 {M Q L:List au} (h:St w (M ++ (Q ++ L))):St w (Q ++ (M ++ L)):=h.perm (by
 rw [<- UK,<- UK]; exact List.perm_append_comm.append_right L)
theorem NF (xs:List Nat):nj xs = iv (xs.map Int.ofNat):=by simp [nj,iv]
end
def cP (S:List bH.Sc):List (Nat × Nat):=(S.map λs=>(s.1,s.2.1)).reverse
theorem bV (n k:Nat) (r:List Nat) (t:List bH.Sc):cP ((n,k,r) :: t) = cP t ++ [(n,k)]:=by simp [cP]
theorem AD:∀ (S:List bH.Sc),(cP S).length<=(bH.aA S).length
 | []=>by simp [cP,bH.aA]
 | (n,k,r) :: t=>by
  have:=AD t
  rw [bV,bH.bL,UG]; simp; omega
def lf (low:List Nat) (v:Nat):Nat:=low.getD v 0
theorem mE {low:List Nat} {i x:Nat} (h:i < low.length):lf (low.set i x) = bH.yO (lf low) i x:=by
 funext j
 unfold lf bH.yO
 rw [UN,VC]
 by_cases e:j = i
 ·subst e; simp [h]
 ·rw [UE (λh=>e h.symm),UE e]; exact (UN).symm
theorem AE {low:List Nat} {i:Nat} (h:i < low.length):low[i]? = some (lf low i):=by
 unfold lf; rw [UN,UB h]; rfl
def uu (mp:List (Int × Value)):List bH.Sc->Prop
 | []=>True
 | (n,_,_) :: t=>assoc (n:Int) mp = some (.int .i64 (((bH.aA t).length + 1:Nat):Int))/\uu mp t
theorem uu.put {mp:List (Int × Value)} {m:Nat} {v:Value}:∀ (S:List bH.Sc),uu mp S->(∀ s∈S,s.1≠m)->uu (bA (m:Int) v mp) S
 | [],_,_=>trivial
 | (n,k,r) :: t,⟨h1,h2⟩,hn=>by
  refine ⟨?_,uu.put t h2 λs hs=>hn s (by simp [hs])⟩
  have:=hn (n,k,r) (by simp)
  rw [dy,UE (by simp at this ⊢; omega)]
  exact h1
theorem R0 {S:List bH.Sc}:∀ s∈S,s.1∈bH.aA S:=by
 induction S with
 | nil=>intro s hs; simp at hs
 | cons x t ih =>
  obtain ⟨n,k,r⟩:=x
  intro s hs
  rcases UR.1 hs with rfl | hs
  ·simp [bH.aA]
  ·simp [bH.aA,ih s hs]
end Go.V
