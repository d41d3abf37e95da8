/- Texts of this claim, one behind the other. -/
import Derived.Test.YtngdohpikfcifaaGreatDoorG5
import Derived.Test.YtngdohpikfcifaaGreatDoorG1
import Derived.Test.YtngdohpikfcifaaGreatDoorG4
import Derived.Test.YtngdohpikfcifaaGreatDoorG3
import Derived.Test.YtngdohpikfcifaaGreatDoorG2
import Derived.Test.YtngdohpikfcifaaGreatDoorCards
import Derived.Test.YtngdohpikfcifaaGreatDoorTie
import Derived.WalkKit
import Derived.ProofKit
import Derived.OpenShut
import Derived.Carry
import Derived.OpenVars
import Derived.Deep.DeepHandedRow
import Derived.Lib.LaidTab
set_option linter.unusedVariables false
set_option linter.unusedSectionVars false
set_option maxRecDepth 100000
set_option maxHeartbeats 16000000
namespace Go.Proofs.YtngdohpikfcifaaGreatDoor
open Go.V
variable {w:World} {L:List aw} {g:af} {x:GA}
theorem Kf:aC Tryz.prog sd [] w fun v w'=>∃ x:GA,v = .agg ⟨x.cells⟩∧gR (hp w') tI x∧Gr w w':=by
 refine oy w _ ?_
 refine ah (St.all w) fun k1 w1 h=>ah h fun k2 w2 h=>ah h fun k3 w3 h=>ah h fun k4 w4 h=>ah h fun k5 w5 h=>ah h fun k6 w6 h=>ah h fun k7 w7 h=>ah h fun k8 w8 h=>bh (h.pick 9 [7,0,1,2,3,4,5,6,8]) rfl (by intro v hv; simp at hv; rcases hv with rfl | rfl | rfl | rfl | rfl <;> rfl) fun w9 h=>?_
 have r8:ax (hp w9) ⟨k8,0,none⟩ _:=ai 1 h.l
 have r7:ax (hp w9) ⟨k7,0,none⟩ _:=ai 2 h.l
 have r6:ax (hp w9) ⟨k6,0,none⟩ _:=ai 3 h.l
 have r5:ax (hp w9) ⟨k5,0,none⟩ _:=ai 4 h.l
 have r4:ax (hp w9) ⟨k4,0,none⟩ _:=ai 5 h.l
 have r3:ax (hp w9) ⟨k3,0,none⟩ _:=ai 6 h.l
 have r2:ax (hp w9) ⟨k2,0,none⟩ _:=ai 7 h.l
 have r1:ax (hp w9) ⟨k1,0,none⟩ _:=ai 0 h.l
 have g9:sub (hp w) (hp w9):=aZ 8 h.l
 have p4:aW (hp w9) ([4] : List Int) (some ⟨k4,0,none⟩) 1:=b8 rfl (.inr ⟨_,rfl,r4⟩)
 have p5:aW (hp w9) ([5,4,6] : List Int) (some ⟨k5,0,none⟩) 3:=b8 rfl (.inr ⟨_,rfl,r5⟩)
 have p6:aW (hp w9) ([1] : List Int) (some ⟨k6,0,none⟩) 1:=b8 rfl (.inr ⟨_,rfl,r6⟩)
 have p7:aW (hp w9) ([2] : List Int) (some ⟨k7,0,none⟩) 1:=b8 rfl (.inr ⟨_,rfl,r7⟩)
 have p0:aW (hp w9) ([] : List Int) none 0:=b8 rfl (.inl rfl)
 refine ⟨_,_,_,_,_,_,_,_,_,_,_,_,_,r1.at (sub.refl _) rfl,⟨some ⟨k2,0,none⟩,3,3,some ⟨k3,0,none⟩,4,4,none,0,0,4,some ⟨k8,0,none⟩,6,6⟩,rfl,⟨?_,?_,?_,rfl,?_,SF _,SF _,SF _,SF _⟩,g9⟩
 ·refine Fv (xs:=tI.terms) r2 fun i t hi=>?_
  match i,hi with
  | 0,hi=>cases hi; rfl
  | 1,hi=>cases hi; rfl
  | 2,hi=>cases hi; rfl
  | i + 3,hi=>cases hi
 ·exact du (xs:=tI.nons) rfl (.inr ⟨_,rfl,r3⟩)
 ·exact p0
 ·refine Fv (xs:=tI.prods) r8 fun i t hi=>?_
  match i,hi with
  | 0,hi=>cases hi; exact ⟨_,_,_,rfl,by decide,p4⟩
  | 1,hi=>cases hi; exact ⟨_,_,_,rfl,by decide,p5⟩
  | 2,hi=>cases hi; exact ⟨_,_,_,rfl,by decide,p6⟩
  | 3,hi=>cases hi; exact ⟨_,_,_,rfl,by decide,p0⟩
  | 4,hi=>cases hi; exact ⟨_,_,_,rfl,by decide,p0⟩
  | 5,hi=>cases hi; exact ⟨_,_,_,rfl,by decide,p7⟩
  | i + 6,hi=>cases hi
end Go.Proofs.YtngdohpikfcifaaGreatDoor
namespace Go.V
open Go.Proofs.YtngdohpikfcifaaGreatDoor
instance:nI yW:={ n:=3,rd:=fun h x vs=>∃ (a:Option Addr) (c:Nat),vs = [.int .i64 x.st,.int .i64 x.prod,.slice a x.tm.length c]∧aW h x.tm a x.tm.length,mono:=fun s ⟨a,c,e,r⟩=>⟨a,c,e,r.mono s⟩,len:=fun ⟨_,_,e,_⟩=>by rw [e]; rfl }
section
variable {w:World} {L:List aw} {o:Option Addr} {c:Nat}
theorem R2 {ds:List F9} (h:St w (own 3 o ds.length c (Cc ds) :: aT (BH ds) :: L)):aW (hp w) (ds.map OC) o ds.length:=by
 have hr:=gB 0 h.l
 refine ⟨by simp,fun i x hi=>?_⟩
 rw [Sn] at hi
 cases hd:ds[i]? with
 | none=>rw [hd] at hi; cases hi
 | some p =>
  rw [hd] at hi
  simp only [Tf,Option.some.injEq] at hi
  subst hi
  have hA:(BH ds)[i]? = some (bX 1 iv p.2):=by unfold BH; rw [Sn,hd]; rfl
  have h2:=St.out (h.pick 2 [1]) hA
  have rp:aW (hp w) p.2.2 p.2.1.1 p.2.2.length:=b8 rfl (gB 0 h2.l)
  rcases hr with e | ⟨ad,e,hc⟩
  ·have h1:=congrArg List.length e
   rw [ID,T6] at h1
   have:=(Sk.1 hd).1; omega
  ·exact ⟨ad,Re p,e,dr (n:=3) (fun _=>rfl) ds ad hc i p hd,p.2.1.1,p.2.1.2,rfl,rp⟩
theorem MJ {h:Hp} {xs:List yW} {l i:Nat} (r:aW h xs o l) (hi:i < l):∃ x ad a c,xs[i]? = some x∧o = some ad∧ax h (ad.add (dP i 3)) [.int .i64 x.st,.int .i64 x.prod,.slice a x.tm.length c]∧aW h x.tm a x.tm.length:=by
 obtain ⟨x,ad,vs,hx,ha,hr,a,c',rfl,hx2⟩:=r.get hi
 exact ⟨x,ad,a,c',hx,ha,hr,hx2⟩
end
def OE (es ow:List (List Int)):Nat→Nat→Nat→Bool
 | 0,v,x=>(ow.getD v []).contains (x:Int)
 | k + 1,v,x=>(ow.getD v []).contains (x:Int) || (En es v).any fun m=>OE es ow k m x
theorem BB {es ow:List (List Int)} {x:Nat}:∀ k v,OE es ow k v x = true→dL es ow v x
 | 0,v,h=>dL.iff.2 (.inl (TC.1 h))
 | k + 1,v,h=>by
  rw [OE,Tk,TP] at h
  rcases h with h | ⟨m,h1,h2⟩
  ·exact dL.iff.2 (.inl (TC.1 h))
  ·exact dL.iff.2 (.inr ⟨m,h1,BB k m h2⟩)
def IZ:List Int→Bool
 | []=>true
 | a :: l=>l.all (fun b=>decide (a < b)) && IZ l
theorem CY:∀ {l:List Int},IZ l = true→dp l
 | [],_=>.nil
 | a :: l,h=>by
  rw [IZ,SB,TG] at h
  exact .cons (fun b hb=>Si (h.1 b hb)) (CY h.2)
def OG (es ow rs:List (List Int)) (K:Nat):Bool:=decide (rs.length = es.length) && decide (ow.length = es.length) && (List.range es.length).all fun v=>IZ (rs.getD v []) && (rs.getD v []).all (fun z=>decide (0≤z) && decide (z < 1024) && OE es ow K v z.toNat) && (ow.getD v []).all (fun z=>(rs.getD v []).contains z) && (En es v).all fun m=>(rs.getD m []).all fun z=>(rs.getD v []).contains z
theorem I0 {es ow rs:List (List Int)} {K:Nat} (h:OG es ow rs K = true):rs = u_ es ow:=by
 unfold OG at h
 simp only [SB,Sy,TG,SO,TC] at h
 obtain ⟨⟨h1,h2⟩,h3⟩:=h
 have key:∀ v x,dL es ow v x→(x:Int)∈rs.getD v []:=fun v x hh=>by
  refine dL.least (Q:=fun v x=>(x:Int)∈rs.getD v []) (fun v x hx=>?_) (fun v m x hm hx=>?_) hh
  ·by_cases hv:v < es.length
   ·exact (h3 v hv).1.2 _ hx
   ·rw [Sq,SH (by omega)] at hx
    simp at hx
  ·by_cases hv:v < es.length
   ·exact (h3 v hv).2 m hm _ hx
   ·unfold En at hm
    rw [Sq,SH (by omega)] at hm
    simp at hm
 refine MG h1 fun v row hr=>?_
 have hv:v < es.length:=by rw [← h1]; exact (Sk.1 hr).1
 have e:rs.getD v [] = row:=by rw [Sq,hr]; rfl
 obtain ⟨⟨⟨q1,q2⟩,_⟩,_⟩:=h3 v hv
 rw [e] at q1 q2
 refine ⟨CY q1,fun z=>⟨fun hz=>?_,?_⟩⟩
 ·obtain ⟨⟨q3,q4⟩,q5⟩:=q2 z hz
  exact ⟨z.toNat,by omega,by omega,BB K v q5⟩
 ·rintro ⟨x,rfl,_,hx⟩
  have:=key v x hx
  rwa [e] at this
def MK (g:af) (fs:List (List Int)) (b:kT):yW:=⟨b.st,b.prod,bQ g.T fun x=>b.tr.any fun t=>(fs.getD t.toNat []).contains (x:Int)⟩
open Classical in
theorem ML (g:af) (fs:List (List Int)) (b:kT):rY g fs b = MK g fs b:=by
 unfold rY MK
 congr 1
 refine va fun k _=>?_
 rw [S9,Sy,TP]
 exact exists_congr fun t=>and_congr_right fun _=>TC.symm
def R3:List (List Int):=[[0],[1],[2],[1],[]]
def RD:List (List Int):=[[0],[1],[0,2],[1],[0,2]]
theorem Ec:OG (ry tI O5 Mz) (xb tI Mz) R3 5 = true∧OG (tA tI O5 Mz) R3 RD 5 = true∧(nY tI Mz).length = 6∧((nY tI Mz)[1]?.map fun b=>(MK tI RD b).tm.length) = some 2:=by decide +kernel
theorem Rk:Kc tI O5 Mz = R3:=(I0 Ec.1).symm
theorem Rl:Hs tI O5 Mz = RD:=by
 unfold Hs
 rw [Rk]
 exact (I0 Ec.2.1).symm
theorem Rm:(lS tI O5 Mz).length = 6∧((lS tI O5 Mz)[1]?.map fun b=>b.tm.length) = some 2:=by
 refine ⟨by rw [Hw]; exact Ec.2.2.1,?_⟩
 unfold lS
 rw [Rl,Sn,Option.map_map,← Ec.2.2.2]
 congr 1
 funext b
 show (rY tI RD b).tm.length = _
 rw [ML]
end Go.V
namespace Go.Proofs.YtngdohpikfcifaaGreatDoor
open Go.V
variable {w:World} {L:List aw} {g:af} {x:GA}
theorem Kg (ht:gz (hp w)):aC Tryz.prog r_ [] w fun v w'=>v = .bool true∧Gr w w':=by
 refine ou w _ (Kf.mono ?_)
 rintro _ w1 ⟨x,rfl,hg,g1⟩
 refine ⟨_,_,_,_,_,_,_,_,_,_,_,_,_,rfl,ah (St.all w1) fun k9 w2 h=>bh h rfl (by intro v hv; simp at hv; rcases hv with rfl | rfl | rfl | rfl | rfl <;> rfl) fun w3 h=>?_⟩
 have s3:sub (hp w1) (hp w3):=h.aX
 have B:GB (hp w3) k9 x:=Lo (ai 0 h.l)
 have hg:=hg.mono s3
 have g3:Gr w w3:=sub.trans g1 s3
 clear h
 refine ⟨_,_,_,_,_,_,_,_,_,_,_,_,_,B.row (sub.refl _),(yy hg Mx (gN.mono g3 ht)).mono ?_⟩
 rintro _ w4 ⟨ss,ask,int,f,nn,o,c,ds,rfl,hR,hnn,hds,h⟩
 obtain ⟨rfl,hes⟩:=Hn hR
 have e:=(hnn rfl).inj Hm
 subst e
 rw [Ht hes,Rk] at hds
 have g34:Gr w3 w4:=aZ 2 h.l
 have rA:=wR h
 have hdl:ds.length = 5:=by have:=congrArg List.length hds; rw [Ss] at this; exact this
 rw [hds,hdl] at rA
 rw [hdl]
 clear h
 refine ⟨_,_,_,_,rfl,_,_,_,_,_,_,_,_,_,_,_,_,_,B.row g34,(rZ (hg.mono g34) Mx (gN.mono (g3.trans g34) ht)).mono ?_⟩
 rintro _ w5 ⟨ss2,ask2,int2,f2,nn2,o2,c2,ds2,rfl,hR2,hnn2,hds2,h⟩
 obtain ⟨rfl,hes2⟩:=Hn hR2
 have e:=(hnn2 rfl).inj Hm
 subst e
 rw [Hu hes2,Rl] at hds2
 have g45:Gr w4 w5:=aZ 2 h.l
 have rB:=wR h
 have hdl2:ds2.length = 5:=by have:=congrArg List.length hds2; rw [Ss] at this; exact this
 rw [hds2,hdl2] at rB
 rw [hdl2]
 clear h
 have g35:=g34.trans g45
 refine ⟨_,_,_,_,rfl,_,_,_,_,_,_,_,_,_,_,_,_,_,B.row g35,(Qk (hg.mono g35) Mx (gN.mono (g3.trans g35) ht)).mono ?_⟩
 rintro _ w6 ⟨ss3,ask3,int3,f3,nn3,o3,c3,ds3,rfl,hR3,hnn3,hds3,h⟩
 obtain ⟨rfl,hes3⟩:=Hn hR3
 have e:=(hnn3 rfl).inj Hm
 subst e
 rw [Ke hes3] at hds3
 have g56:Gr w5 w6:=aZ 2 h.l
 have rC:=R2 h
 have hdl3:ds3.length = 6:=by have:=congrArg List.length hds3; rw [Ss,Rm.1] at this; exact this
 rw [hds3,hdl3] at rC
 rw [hdl3]
 clear h
 obtain ⟨x1,ad1,a1,c1,hx1,rfl,cx1,rx1⟩:=jU rA (i:=2) (by decide)
 cases hx1
 obtain ⟨y1,yad,hy1,hya,hy2⟩:=rx1.bL (i:=0) (by decide)
 cases hy1
 obtain ⟨x2,ad2,a2,c2',hx2,rfl,cx2,rx2⟩:=jU rB (i:=4) (by decide)
 cases hx2
 obtain ⟨x3,ad3,a3,c3',hx3,rfl,rx3,_⟩:=MJ rC (i:=1) (by decide)
 have hx3l:x3.tm.length = 2:=by have:=Rm.2; rw [hx3] at this; simpa using this
 have gA:Gr w4 w6:=g45.trans g56
 refine ⟨_,_,_,_,rfl,vQ rfl (vQ rfl (vQ rfl (vQ rfl (aq (i:=2) rfl (by decide) ⟨_,_,_,cx1 _ gA,vQ rfl (aq (i:=2) rfl (by decide) ⟨_,_,_,cx1 _ gA,aq (i:=0) hya (by decide) ⟨_,hy2 _ gA,vQ rfl (vQ rfl (aq (i:=4) rfl (by decide) ⟨_,_,_,cx2 _ g56,?_⟩))⟩⟩)⟩))))⟩
 refine vQ rfl (vQ rfl (ay (i:=1) rfl (by decide) ⟨_,_,_,rx3.cell (sub.refl _) (j:=2) rfl,?_,?_⟩))
 ·rw [hx3l]; rfl
 ·exact g3.trans (g35.trans g56)
end Go.Proofs.YtngdohpikfcifaaGreatDoor

namespace Go.V
structure QL (h:Hp) (g:af) (ss:List SQ) (nn:List Bool) (k:Nat):Prop where
 ex:∃ (x:GA) (ol:Option Addr) (cl:Nat) (on:Option Addr) (cn:Nat),ax h (aM k) (x.cells ++ [.slice ol (aU g ss).length cl,.slice on g.N cn])∧gR h g x∧aW h (aU g ss) ol (aU g ss).length∧aW h nn on g.N
theorem QL.mono {h h' : Hp} {g:af} {ss:List SQ} {nn:List Bool} {k:Nat} (s:sub h h') (r:QL h g ss nn k):QL h' g ss nn k:=by
 obtain ⟨x,ol,cl,on,cn,h1,h2,h3,h4⟩:=r.ex
 exact ⟨x,ol,cl,on,cn,h1.mono s,h2.mono s,h3.mono s,h4.mono s⟩
end Go.V
namespace Go.V
theorem I_ {l:List Int} (h:dp l) {i j:Nat} {a b:Int} (ha:l[i]? = some a) (hb:l[j]? = some b) (hij:i < j):a < b:=by
 obtain ⟨h1,rfl⟩:=Sk.1 ha
 obtain ⟨h2,rfl⟩:=Sk.1 hb
 exact List.pairwise_iff_getElem.1 h i j h1 h2 hij
end Go.V

namespace Go.V
theorem BC {h:Hp} {a:Addr} {vs us:List Value} (r:ax h a (vs ++ us)):ax h a vs:=fun j v hv=>r j v (by rw [Sw (Sk.1 hv).1]; exact hv)
end Go.V
namespace Go.Proofs.YtngdohpikfcifaaGreatDoor
open Go.V
abbrev vb:FuncId:=71
def se:bj:={ rngs:=[],loops:=[(3,[(5,(.one .slice)),(6,(.one (.int .i64)))]),(6,[(5,(.one .slice)),(7,(.one (.int .i64)))])],joins:=[],blocks:=[] }
def tQ (a:Option Addr) (b c:Nat) (d:Option Addr) (e f:Nat) (g:Option Addr) (i j:Nat) (k:Int) (l:Option Addr) (m n:Nat) (o:Option Addr) (p q:Nat) (s t:Int) (w:World) (R:Value→WP):Prop :=  new w (oC [vS a b c,vS d e f,vS g i j,iI k,vS l m n] 27) fun k1 w1=>new w1 (oC [vS o p q,iI s,iI t] 63) fun k2 w2=>∃ (x1:lP [(5,js),(6,aI)]),∃ (x2:lN [(5,js),(6,aI)]),x1 none 0 0 0 w2∧∀ (I1:Nat→Value) (o1:Option Addr) (k3 k4:Nat) (n1:Int) (w3:World),x1 o1 k3 k4 n1 w3→∃ o2 k5 k6,World.cell? w3 (aM k2) = some (vS o2 k5 k6)∧br (decide (n1 < (↑k5:Int))) (∃ (x3:lP [(5,js),(7,aI)]),∃ (x4:lN [(5,js),(7,aI)]),x3 o1 k3 k4 0 w3∧∀ (I2:Nat→Value) (o3:Option Addr) (k7 k8:Nat) (n2:Int) (w4:World),x3 o3 k7 k8 n2 w4→∃ o4 k9 k10,World.cell? w4 (aM k2) = some (vS o4 k9 k10)∧idx o4 k9 n1 2 fun a1=>∃ o5 k11 k12,World.cell? w4 (Addr.add a1 1) = some (vS o5 k11 k12)∧br (decide (n2 < (↑k11:Int))) (∃ o6 k13 k14,World.cell? w4 (aM k2) = some (vS o6 k13 k14)∧idx o6 k13 n1 2 fun a2=>∃ o7 k15 k16,World.cell? w4 (Addr.add a2 1) = some (vS o7 k15 k16)∧idx o7 k15 n2 2 fun a3=>∃ n3,World.cell? w4 a3 = some (iI n3)∧∃ o8 k17 k18 o9 k19 k20 o10 k21 k22 n4 o11 k23 k24,V.rowAt w4 (aM k1) 0 5 = some [vS o8 k17 k18,vS o9 k19 k20,vS o10 k21 k22,iI n4,vS o11 k23 k24]∧au Proofs.Tryz.prog Ev 112 [vA (Array.mk [vS o8 k17 k18,vS o9 k19 k20,vS o10 k21 k22,iI n4,vS o11 k23 k24]),iI n3] w4 fun v1 w5=>∃ b1,v1 = vB b1∧br b1 (new w5 (oC [iI n1,iI n3] 73) fun k25 w6=>az Proofs.Tryz.prog (f_ 58 (Array.mk [vS o3 k7 k8,vS (some (aM k25)) 1 1])) w6 fun v2 w7=>∃ o12 k26 k27,v2 = vS o12 k26 k27∧aG (n2 + 1)∧x3 o12 k26 k27 (n2 + 1) w7∧x4 o12 k26 k27 (n2 + 1) w7 < x4 o3 k7 k8 n2 w4) (aG (n2 + 1)∧x3 o3 k7 k8 (n2 + 1) w5∧x4 o3 k7 k8 (n2 + 1) w5 < x4 o3 k7 k8 n2 w4)) (aG (n1 + 1)∧x1 o3 k7 k8 (n1 + 1) w4∧x2 o3 k7 k8 (n1 + 1) w4 < x2 o1 k3 k4 n1 w3)) (R (vS o1 k3 k4) w3)
theorem sf (a:Option Addr) (b c:Nat) (d:Option Addr) (e f:Nat) (g:Option Addr) (i j:Nat) (k:Int) (l:Option Addr) (m n:Nat) (o:Option Addr) (p q:Nat) (s t:Int) (w:World) (R:Value→WP) (h:tQ a b c d e f g i j k l m n o p q s t w R):aC Tryz.prog 71 [(.agg #[(.slice a b c),(.slice d e f),(.slice g i j),(.int .i64 k),(.slice l m n)]),(.agg #[(.slice o p q),(.int .i64 s),(.int .i64 t)])] w R:=rv Tryz.func71 se (by kernel_rfl) h

abbrev pX:FuncId:=73
def ng:bj:={ rngs:=[],loops:=[(7,[(7,(.one .slice)),(10,(.one (.int .i64)))])],joins:=[(4,[(7,(.one .slice))])],blocks:=[] }
def oz (a:Option Addr) (b c:Nat) (d:Option Addr) (e f:Nat) (g:Option Addr) (i j:Nat) (k:Int) (l:Option Addr) (m n:Nat) (o:Option Addr) (p q:Nat) (s t u v:Int) (w:World) (R:Value→WP):Prop :=  new w (oC [vS a b c,vS d e f,vS g i j,iI k,vS l m n] 27) fun k1 w1=>new w1 (oC [vS o p q,iI s,iI t] 63) fun k2 w2=>new w2 (oC [iI u,iI v] 73) fun k3 w3=>∃ (x1:lP [(7,js)]),(∃ n1,World.cell? w3 (aM k3) = some (iI n1)∧br (n1 == 0) (∃ n2,World.cell? w3 (Addr.add (aM k3) 1) = some (iI n2)∧∃ n3,World.cell? w3 (Addr.add (aM k1) 3) = some (iI n3)∧br (n2 == n3) (new w3 (oC [iI 0] 3) fun k4 w4=>az Proofs.Tryz.prog (f_ 24 (Array.mk [vS none 0 0,vS (some (aM k4)) 1 1])) w4 fun v1 w5=>∃ o1 k5 k6,v1 = vS o1 k5 k6∧x1 o1 k5 k6 w5) (x1 none 0 0 w3)) (x1 none 0 0 w3))∧∀ (I1:Nat→Value) (o2:Option Addr) (k7 k8:Nat) (w6:World),x1 o2 k7 k8 w6→∃ o3 k9 k10 n4 n5,V.rowAt w6 (aM k2) 0 3 = some [vS o3 k9 k10,iI n4,iI n5]∧∃ n6,World.cell? w6 (aM k3) = some (iI n6)∧∃ n7,World.cell? w6 (Addr.add (aM k3) 1) = some (iI n7)∧au Proofs.Tryz.prog Ev 77 [vA (Array.mk [vS o3 k9 k10,iI n4,iI n5]),iI n6,iI n7] w6 fun v2 w7=>∃ n8,v2 = iI n8∧∃ o4 k11 k12,World.cell? w7 (aM k2) = some (vS o4 k11 k12)∧idx o4 k11 n8 2 fun a1=>∃ o5 k13 k14,World.cell? w7 (Addr.add a1 1) = some (vS o5 k13 k14)∧∃ (x2:lP [(7,js),(10,aI)]),∃ (x3:lN [(7,js),(10,aI)]),x2 o2 k7 k8 0 w7∧∀ (I2:Nat→Value) (o6:Option Addr) (k15 k16:Nat) (n9:Int) (w8:World),x2 o6 k15 k16 n9 w8→br (decide (n9 < (↑k13:Int))) (∀ w9,drawn w8 w9→∃ (I3:World→Prop),I3 w9∧idx o5 k13 n9 2 fun a2=>∃ n10,(∀ w10,I3 w10→World.cell? w10 a2 = some (iI n10))∧∃ o7 k17 k18,(∀ w11,I3 w11→World.cell? w11 (aM k1) = some (vS o7 k17 k18))∧br (decide (n10 < (↑k17:Int))) (idx o5 k13 n9 2 fun a3=>∃ n11,World.cell? w9 a3 = some (iI n11)∧new w9 (oC [iI n11] 3) fun k19 w12=>az Proofs.Tryz.prog (f_ 24 (Array.mk [vS o6 k15 k16,vS (some (aM k19)) 1 1])) w12 fun v3 w13=>∃ o8 k20 k21,v3 = vS o8 k20 k21∧aG (n9 + 1)∧x2 o8 k20 k21 (n9 + 1) w13∧x3 o8 k20 k21 (n9 + 1) w13 < x3 o6 k15 k16 n9 w8) (aG (n9 + 1)∧x2 o6 k15 k16 (n9 + 1) w9∧x3 o6 k15 k16 (n9 + 1) w9 < x3 o6 k15 k16 n9 w8)) (R (vS o6 k15 k16) w8)
theorem nh (a:Option Addr) (b c:Nat) (d:Option Addr) (e f:Nat) (g:Option Addr) (i j:Nat) (k:Int) (l:Option Addr) (m n:Nat) (o:Option Addr) (p q:Nat) (s t u v:Int) (w:World) (R:Value→WP) (h:oz a b c d e f g i j k l m n o p q s t u v w R):aC Tryz.prog 73 [(.agg #[(.slice a b c),(.slice d e f),(.slice g i j),(.int .i64 k),(.slice l m n)]),(.agg #[(.slice o p q),(.int .i64 s),(.int .i64 t)]),(.agg #[(.int .i64 u),(.int .i64 v)])] w R:=rv Tryz.func73 ng (by kernel_rfl) h

abbrev pY:FuncId:=75
def ni:bj:={ rngs:=[],loops:=[(2,[(7,(.one (.int .i64)))])],joins:=[],blocks:=[] }
def oD (a:Option Addr) (b c:Nat) (d e:Int) (w:World) (R:Value→WP):Prop :=  ∃ (x1:lP [(7,aI)]),∃ (x2:lN [(7,aI)]),x1 0 w∧∀ (I1:Nat→Value) (n1:Int) (w1:World),x1 n1 w1→br (decide (n1 < (↑b:Int))) (idx a b n1 2 fun a1=>∃ n2,World.cell? w1 a1 = some (iI n2)∧br (n2 == d) (idx a b n1 2 fun a2=>∃ n3,World.cell? w1 (Addr.add a2 1) = some (iI n3)∧br (n3 == e) (R (iI n1) w1) (aG (n1 + 1)∧x1 (n1 + 1) w1∧x2 (n1 + 1) w1 < x2 n1 w1)) (aG (n1 + 1)∧x1 (n1 + 1) w1∧x2 (n1 + 1) w1 < x2 n1 w1)) (R (iI (-1)) w1)
theorem nj (a:Option Addr) (b c:Nat) (d e:Int) (w:World) (R:Value→WP) (h:oD a b c d e w R):aC Tryz.prog 75 [(.slice a b c),(.int .i64 d),(.int .i64 e)] w R:=rv Tryz.func75 ni (by kernel_rfl) h

end Go.Proofs.YtngdohpikfcifaaGreatDoor
namespace Go.Proofs.YtngdohpikfcifaaGreatDoor
open Go.V
section
variable {w:World} {L:List aw} {g:af} {x:GA} {ss:List SQ}
theorem Ja {s:Int} (hg:gR (hp w) g x) (hb:iM g):aC Tryz.prog qs [.agg ⟨x.cells⟩,.int .i64 s] w fun v w'=>v = .bool (decide ((g.T:Int)≤s) && decide (s < (g.T:Int) + g.N))∧Gr w w':=by
 have hTl:g.T = x.tl:=hg.t.1
 refine nF _ _ _ _ _ _ _ _ _ _ _ _ _ _ w _ (de hg fun k1 w1 gw hg B=>?_)
 refine ⟨_,_,_,B.c0 (sub.refl _),ae (fun h1=>?_) fun h1=>?_⟩
 ·refine ⟨_,_,_,_,_,_,_,_,_,_,_,_,_,B.row (sub.refl _),(jt hg hb).mono ?_⟩
  rintro _ w2 ⟨rfl,g2⟩
  refine ⟨_,rfl,?_,gw.trans g2⟩
  rw [hTl,h1,TS]
 ·refine ⟨?_,gw⟩
  rw [hTl,h1,Bool.false_and]
theorem Rn {o:Option Addr} {c:Nat} {ask int:Int} (hg:gR (hp w) g x) (hb:iM g) (hc:av g) (hA:bG g ss) (hs:xS (hp w) ss o):aC Tryz.prog vb [.agg ⟨x.cells⟩,.agg #[.slice o ss.length c,.int .i64 ask,.int .i64 int]] w fun v w'=>∃ (o:Option Addr) (c:Nat),v = .slice o (aU g ss).length c∧St w' (own 2 o (aU g ss).length c (xf (aU g ss)) :: all w):=by
 have hkl:=hA.wz hc
 have h256:=hA.dn.2.1
 refine sf _ _ _ _ _ _ _ _ _ _ _ _ _ _ _ _ _ _ w _ (de hg fun k1 w1 gw hg B=>ah (St.all w1) fun k2 w2 h=>?_)
 have g12:Gr w1 w2:=h.aX
 have r2:ax (hp w2) (aM k2) [.slice o ss.length c,.int .i64 ask,.int .i64 int]:=ai 0 h.l
 clear h
 have hs:=(hs.mono gw).mono g12
 refine ⟨fun o n c z w'=>∃ i:Nat,z = i∧i≤ss.length∧n = (j6 g ss i).length∧St w' (own 2 o n c (xf (j6 g ss i)) :: all w2),fun _ _ _ z _=>ss.length - z.toNat,
  ⟨0,rfl,Sv _,rfl,aB 2 (St.all w2)⟩,?_⟩
 rintro _ o2 _ c2 _ w3 ⟨i,rfl,hi,rfl,h⟩
 have s3:sub (hp w2) (hp w3):=aZ 1 h.l
 refine ⟨_,_,_,r2.cell0 s3,ae (fun h1=>?_) fun h1=>?_⟩
 rotate_left
 ·have h1:i = ss.length:=by have:=Sj h1; omega
  subst h1
  exact ⟨_,_,rfl,St.vK h (cE (gw.trans g12))⟩
 have h1:i < ss.length:=by have:=Si h1; omega
 obtain ⟨q,hq⟩ : ∃ q,ss[i]? = some q:=⟨_,Sm h1⟩
 obtain ⟨ad,rfl,rs,_,re⟩:=hs i q hq
 have hql:=(hkl q (Sl hq)).2
 have hNl:=sK (g:=g) (fun q hq=>(hkl q hq).2) i
 refine ⟨fun o n c z w'=>∃ (j:Nat),z = j∧j≤q.2.2.length∧n = (j6 g ss i ++ cG g i (q.2.2.take j)).length∧St w' (own 2 o n c (xf (j6 g ss i ++ cG g i (q.2.2.take j))) :: all w2),fun _ _ _ z _=>q.2.2.length - z.toNat,
  ⟨0,rfl,Sv _,by simp [cG],by simpa [cG] using h⟩,?_⟩
 clear h
 rintro _ o6 _ c6 _ w4 ⟨j,rfl,hj,rfl,h⟩
 have s4:sub (hp w2) (hp w4):=aZ 1 h.l
 have hTA:=Bf g i (q.2.2.take j)
 rw [SN] at hTA
 refine ⟨_,_,_,r2.cell0 s4,ay rfl h1 ⟨_,_,_,rs.cell s4 (j:=1) rfl,ae (fun h2=>?_) fun h2=>?_⟩⟩
 rotate_left
 ·have h2:j = q.2.2.length:=by have:=Sj h2; omega
  subst h2
  rw [SM] at h ⊢
  exact ⟨⟨by omega,by omega⟩,⟨i + 1,by simp,h1,by rw [iu hq],by rw [iu hq]; exact h⟩,bA h1⟩
 have h2:j < q.2.2.length:=by have:=Si h2; omega
 obtain ⟨e,ead,he,hea,red⟩:=iq re h2
 have ht:q.2.2.take (j + 1) = q.2.2.take j ++ [e]:=by rw [Su,he]; rfl
 obtain ⟨hs1,hs2,_⟩:=fl hc hA hq he
 have g14:Gr w1 w4:=g12.trans s4
 refine ⟨_,_,_,r2.cell0 s4,ay rfl h1 ⟨_,_,_,rs.cell s4 (j:=1) rfl,ay hea h2 ⟨_,red.cell0 s4,_,_,_,_,_,_,_,_,_,_,_,_,_,B.row g14,(Ja (hg.mono g14) hb).mono ?_⟩⟩⟩
 rintro _ w5 ⟨rfl,g45⟩
 have h:=h.gr g45
 refine ⟨_,rfl,ae (fun h3=>?_) fun h3=>?_⟩
 ·have h3:(g.T:Int)≤e.sym:=by rw [SB] at h3; exact Si h3.1
  have z1:((j6 g ss i ++ cG g i (q.2.2.take j)).length + 1) * 16≤140737488355328∧(j6 g ss i ++ cG g i (q.2.2.take j)).length < 9223372036854775807:=by rw [Sx]; omega
  refine ah h fun k17 w10 h=>?_
  refine (aQ (us:=xf (j6 g ss i ++ cG g i (q.2.2.take j))) aK (rfl:ag Ty _ = .slice _) (rfl:ag Ty _ = .slice _) rfl rfl rfl h rfl (by simp [aS]) z1.1 z1.2).mono ?_
  rintro _ w11 ⟨o8,c8,rfl,h⟩
  have e2:cG g i (q.2.2.take (j + 1)) = cG g i (q.2.2.take j) ++ [⟨(i:Int),e.sym⟩]:=by rw [ht,sJ,Sz h3]
  have e3:xf (j6 g ss i ++ cG g i (q.2.2.take (j + 1))) = xf (j6 g ss i ++ cG g i (q.2.2.take j)) ++ [.int .i64 (i:Int),.int .i64 e.sym]:=by rw [e2,← SI,It]; rfl
  refine ⟨_,_,_,rfl,⟨by omega,by omega⟩,⟨j + 1,by simp,h2,by rw [e2]; simp; omega,?_⟩,bA h2⟩
  rw [e3]; exact h.pick 2 [0]
 ·have h3:¬(g.T:Int)≤e.sym:=fun h4=>by rw [S2 h4,S2 hs2] at h3; cases h3
  have e2:cG g i (q.2.2.take (j + 1)) = cG g i (q.2.2.take j):=by rw [ht,sJ,Sr h3]
  exact ⟨⟨by omega,by omega⟩,⟨j + 1,by simp,h2,by rw [e2],by rw [e2]; exact h⟩,bA h2⟩
end
end Go.Proofs.YtngdohpikfcifaaGreatDoor
namespace Go.Proofs.YtngdohpikfcifaaGreatDoor
open Go.V
section
variable {w:World} {L:List aw} {g:af} {x:GA} {ss:List SQ}
theorem Hx {o:Option Addr} {c:Nat} {ask int:Int} {t:ak} {i0 j0:Nat} (hg:gR (hp w) g x) (hb:iM g) (hc:av g) (hA:bG g ss) (hs:xS (hp w) ss o) (hst:t.st = i0) (hi0:i0 < ss.length) (hnx:eE ss i0 t.sym = some (j0:Int)):aC Tryz.prog pX [.agg ⟨x.cells⟩,.agg #[.slice o ss.length c,.int .i64 ask,.int .i64 int],.agg ⟨zz t⟩] w fun v w'=>∃ (o:Option Addr) (c:Nat),v = .slice o (cS g ss t).length c∧St w' (own 1 o (cS g ss t).length c (iv (cS g ss t)) :: all w):=by
 have hkl:=hA.wz hc
 have h256:=hA.dn.2.1
 obtain ⟨hto1,hto2⟩:=jj hc hA hnx
 have hto:j0 < ss.length:=by omega
 obtain ⟨r,hr⟩ : ∃ r,ss[j0]? = some r:=⟨_,Sm hto⟩
 have hdir:cS g ss t = dm g t ++ nV g r.2.2:=wE (by rw [hst,SJ]; exact hnx) hr
 have hrl:=(hkl r (Sl hr)).2
 have hpl:=FB g t
 have hTl:g.T = x.tl:=hg.t.1
 have hgs:x.s = g.start:=hg.s
 refine nh _ _ _ _ _ _ _ _ _ _ _ _ _ _ _ _ _ _ _ _ w _ (de hg fun k1 w1 gw hg B=>ah (St.all w1) fun k2 w2 ha=>ah ha fun k3 w3 h=>?_)
 have g13:Gr w1 w3:=aZ 2 h.l
 have r2:ax (hp w3) (aM k2) [.slice o ss.length c,.int .i64 ask,.int .i64 int]:=ai 1 h.l
 have r3:ax (hp w3) (aM k3) [.int .i64 t.st,.int .i64 t.sym]:=ai 0 h.l
 clear h ha
 have hs:=(hs.mono gw).mono g13
 have hno:¬t = ⟨0,g.start⟩→dm g t = []:=fun h=>by unfold dm; rw [Sr h]
 refine ⟨fun o n c w'=>n = (dm g t).length∧St w' (own 1 o n c (iv (dm g t)) :: all w3),⟨_,r3.cell0 (sub.refl _),ae (fun h1=>⟨_,r3.cell (sub.refl _) (j:=1) rfl,_,B.c3 g13,ae (fun h2=>?_) fun h2=>?_⟩) fun h1=>?_⟩,?_⟩
 ·have h1:t.st = 0:=by simpa using h1
  have h2:t.sym = g.start:=by rw [← hgs]; simpa using h2
  have e:dm g t = [0]:=by unfold dm; rw [Sz (show t = ⟨0,g.start⟩ by rw [← h1,← h2])]
  refine ah (St.all w3) fun k15 w7 h=>?_
  refine (aQ (us:=[]) aK (rfl:ag Ty _ = .slice _) (rfl:ag Ty _ = .slice _) rfl rfl rfl ((aB 1 h).pick 3 [1,0,2]) rfl (by simp [aS]) (by decide) (by decide)).mono ?_
  rintro _ w8 ⟨o8,c8,rfl,h⟩
  rw [e]
  exact ⟨_,_,_,rfl,rfl,h.pick 3 [0,2]⟩
 ·have h2:¬t.sym = g.start:=by rw [← hgs]; simpa using h2
  rw [hno fun h=>h2 (by rw [h])]
  exact ⟨rfl,aB 1 (St.all w3)⟩
 ·have h1:¬t.st = 0:=by simpa using h1
  rw [hno fun h=>h1 (by rw [h])]
  exact ⟨rfl,aB 1 (St.all w3)⟩
 rintro _ o9 _ c9 w6 ⟨rfl,h⟩
 have s6:sub (hp w3) (hp w6):=aZ 1 h.l
 refine ⟨_,_,_,_,_,r2.at s6 rfl,_,r3.cell0 s6,_,r3.cell s6 (j:=1) rfl,?_⟩
 rw [hst]
 refine (G5 (i:=i0) hA (hs.mono s6) hi0 (fun q hq=>(hkl q hq).2) h256).mono ?_
 rintro _ w7 ⟨rfl,g67⟩
 have h:=h.gr g67
 have s7:=s6.trans g67
 have en:yR ss i0 t.sym = (j0:Int):=by unfold yR; rw [hnx]; rfl
 rw [en]
 obtain ⟨sad,rfl,rs,_,re⟩:=hs j0 r hr
 refine ⟨_,rfl,_,_,_,r2.cell0 s7,ay rfl hto ⟨_,_,_,rs.cell s7 (j:=1) rfl,fun o n c z w'=>∃ j:Nat,z = j∧j≤r.2.2.length∧n = (dm g t ++ nV g (r.2.2.take j)).length∧St w' (own 1 o n c (iv (dm g t ++ nV g (r.2.2.take j))) :: all w3),fun _ _ _ z _=>r.2.2.length - z.toNat,
  ⟨0,rfl,Sv _,by simp [nV],by simpa [nV] using h⟩,?_⟩⟩
 clear h
 rintro _ o13 _ c13 _ w8 ⟨j,rfl,hj,rfl,h⟩
 have hfl:=Iv g (r.2.2.take j)
 rw [SN] at hfl
 refine ae (fun h2=>?_) fun h2=>?_
 ·have h2:j < r.2.2.length:=by have:=Si h2; omega
  obtain ⟨e,ead,he,hea,red⟩:=iq re h2
  have htj:r.2.2.take (j + 1) = r.2.2.take j ++ [e]:=by rw [Su,he]; rfl
  intro w9 hd
  have h:=h.eq (aD hd)
  have s9:sub (hp w3) (hp w9):=aZ 1 h.l
  refine ⟨fun u=>Gr w9 u,Gr.refl _,ay hea h2 ⟨_,fun u s=>red.cell0 (sub.trans s9 s),_,_,_,fun u s=>B.c0 (sub.trans g13 (sub.trans s9 s)),ae (fun h3=>?_) fun h3=>?_⟩⟩
  ·have h3:e.sym < (g.T:Int):=by rw [hTl]; exact Si h3
   have z1:((dm g t ++ nV g (r.2.2.take j)).length + 1) * 8≤140737488355328∧(dm g t ++ nV g (r.2.2.take j)).length < 9223372036854775807:=by rw [Sx]; omega
   refine ay hea h2 ⟨_,red.cell0 s9,ah h fun k29 w20 h=>?_⟩
   refine (aQ (us:=iv (dm g t ++ nV g (r.2.2.take j))) aK (rfl:ag Ty _ = .slice _) (rfl:ag Ty _ = .slice _) rfl rfl rfl h rfl (by simp [aS]) z1.1 z1.2).mono ?_
   rintro _ w21 ⟨o15,c15,rfl,h⟩
   have e2:dm g t ++ nV g (r.2.2.take (j + 1)) = dm g t ++ nV g (r.2.2.take j) ++ [e.sym]:=by rw [htj,wD,Sz h3,SI]
   have e3:iv (dm g t ++ nV g (r.2.2.take (j + 1))) = iv (dm g t ++ nV g (r.2.2.take j)) ++ [.int .i64 e.sym]:=by rw [e2]; unfold iv; rw [SU]; rfl
   refine ⟨_,_,_,rfl,⟨by omega,by omega⟩,⟨j + 1,by simp,h2,by rw [e2]; simp; omega,?_⟩,bA h2⟩
   rw [e3]; exact h.pick 3 [0,2]
  ·have h3:¬e.sym < (g.T:Int):=by rw [hTl]; exact Sj h3
   have e2:nV g (r.2.2.take (j + 1)) = nV g (r.2.2.take j):=by rw [htj,wD,Sr h3]
   exact ⟨⟨by omega,by omega⟩,⟨j + 1,by simp,h2,by rw [e2],by rw [e2]; exact h⟩,bA h2⟩
 have h2:j = r.2.2.length:=by have:=Sj h2; omega
 rw [h2,SM,← hdir] at h ⊢
 exact ⟨_,_,rfl,St.vK h (cE (gw.trans g13))⟩
end
end Go.Proofs.YtngdohpikfcifaaGreatDoor
namespace Go.V
theorem QL.es {h:Hp} {g:af} {ss ss' : List SQ} {nn:List Bool} {k:Nat} (r:QL h g ss nn k) (e:bf ss = bf ss'):QL h g ss' nn k:=by
 obtain ⟨x,ol,cl,on,cn,h1,h2,h3,h4⟩:=r.ex
 rw [nW e] at h1 h3
 exact ⟨x,ol,cl,on,cn,h1,h2,h3,h4⟩
end Go.V
namespace Go.Proofs.YtngdohpikfcifaaGreatDoor
open Go.V
abbrev lU:FuncId:=13
def jX:bj:={ rngs:=[],loops:=[(4,[(5,(.one (.int .i64)))])],joins:=[],blocks:=[] }
def kL (a:Option Addr) (b c:Nat) (d:Option Addr) (e f:Nat) (w:World) (R:Value→WP):Prop :=  br ((↑b:Int) != (↑e:Int)) (R (vB false) w) (∃ (x1:lP [(5,aI)]),∃ (x2:lN [(5,aI)]),x1 0 w∧∀ (I1:Nat→Value) (n1:Int) (w1:World),x1 n1 w1→br (decide (n1 < (↑b:Int))) (∀ w2,drawn w1 w2→∃ (I2:World→Prop),I2 w2∧idx a b n1 1 fun a1=>∃ o1 k1 k2,(∀ w3,I2 w3→World.cell? w3 a1 = some (vS o1 k1 k2))∧idx d e n1 1 fun a2=>∃ o2 k3 k4,(∀ w4,I2 w4→World.cell? w4 a2 = some (vS o2 k3 k4))∧au Proofs.Tryz.prog Ev 23 [vS o1 k1 k2,vS o2 k3 k4] w2 fun v1 w5=>∃ b1,v1 = vB b1∧I2 w5∧br (!b1) (R (vB false) w5) (aG (n1 + 1)∧x1 (n1 + 1) w5∧x2 (n1 + 1) w5 < x2 n1 w1)) (R (vB true) w1))
theorem jY (a:Option Addr) (b c:Nat) (d:Option Addr) (e f:Nat) (w:World) (R:Value→WP) (h:kL a b c d e f w R):aC Tryz.prog 13 [(.slice a b c),(.slice d e f)] w R:=rv Tryz.func13 jX (by kernel_rfl) h

abbrev xd:FuncId:=32
def tR:bj:={ rngs:=[],loops:=[],joins:=[],blocks:=[] }
def vc (a:Option Addr) (b c:Nat) (d:Option Addr) (e f:Nat) (g:Option Addr) (i j:Nat) (k:Int) (l:Option Addr) (m n:Nat) (w:World) (R:Value→WP):Prop :=  new w (oC [vS a b c,vS d e f,vS g i j,iI k,vS l m n] 27) fun k1 w1=>new w1 (oC [vS none 0 0,vS none 0 0,vS none 0 0,iI 0,vS none 0 0,vS none 0 0,iI 0,iI 0,vS none 0 0,vS none 0 0] 80) fun k2 w2=>∃ o1 k3 k4 o2 k5 k6 o3 k7 k8 n1 o4 k9 k10,V.rowAt w2 (aM k1) 0 5 = some [vS o1 k3 k4,vS o2 k5 k6,vS o3 k7 k8,iI n1,vS o4 k9 k10]∧au Proofs.Tryz.prog Ev 70 [vA (Array.mk [vS o1 k3 k4,vS o2 k5 k6,vS o3 k7 k8,iI n1,vS o4 k9 k10])] w2 fun v1 w3=>∃ o5 k11 k12 n2 n3 n4,v1 = vT (Array.mk [vA (Array.mk [vS o5 k11 k12,iI n2,iI n3]),iI n4])∧new w3 (oC [vS none 0 0,iI 0,iI 0] 63) fun k13 w4=>iA w4 (aM k13) [vS o5 k11 k12,iI n2,iI n3] fun w5=>br (n4 != 0) (iA w5 (aM k2) [vS none 0 0,vS none 0 0,vS none 0 0,iI 0,vS none 0 0,vS none 0 0,iI 0,iI 0,vS none 0 0,vS none 0 0] fun w6=>∃ o6 k14 k15 o7 k16 k17 o8 k18 k19 n5 o9 k20 k21 o10 k22 k23 n6 n7 o11 k24 k25 o12 k26 k27,V.rowAt w6 (aM k2) 0 10 = some [vS o6 k14 k15,vS o7 k16 k17,vS o8 k18 k19,iI n5,vS o9 k20 k21,vS o10 k22 k23,iI n6,iI n7,vS o11 k24 k25,vS o12 k26 k27]∧R (vT (Array.mk [vA (Array.mk [vS o6 k14 k15,vS o7 k16 k17,vS o8 k18 k19,iI n5,vS o9 k20 k21,vS o10 k22 k23,iI n6,iI n7,vS o11 k24 k25,vS o12 k26 k27]),iI n4])) w6) (∀ w7,drawn w5 w7→∃ (I1:World→Prop),I1 w7∧∃ o13 k28 k29 o14 k30 k31 o15 k32 k33 n8 o16 k34 k35,(∀ w8,I1 w8→V.rowAt w8 (aM k1) 0 5 = some [vS o13 k28 k29,vS o14 k30 k31,vS o15 k32 k33,iI n8,vS o16 k34 k35])∧∃ o17 k36 k37 n9 n10,(∀ w9,I1 w9→V.rowAt w9 (aM k13) 0 3 = some [vS o17 k36 k37,iI n9,iI n10])∧∃ o18 k38 k39 o19 k40 k41 o20 k42 k43 n11 o21 k44 k45,(∀ w10,I1 w10→V.rowAt w10 (aM k1) 0 5 = some [vS o18 k38 k39,vS o19 k40 k41,vS o20 k42 k43,iI n11,vS o21 k44 k45])∧∃ o22 k46 k47 n12 n13,(∀ w11,I1 w11→V.rowAt w11 (aM k13) 0 3 = some [vS o22 k46 k47,iI n12,iI n13])∧∃ o23 k48 k49 o24 k50 k51 o25 k52 k53 n14 o26 k54 k55,(∀ w12,I1 w12→V.rowAt w12 (aM k1) 0 5 = some [vS o23 k48 k49,vS o24 k50 k51,vS o25 k52 k53,iI n14,vS o26 k54 k55])∧au Proofs.Tryz.prog Ev 71 [vA (Array.mk [vS o18 k38 k39,vS o19 k40 k41,vS o20 k42 k43,iI n11,vS o21 k44 k45]),vA (Array.mk [vS o22 k46 k47,iI n12,iI n13])] w7 fun v2 w13=>∃ o27 k56 k57,v2 = vS o27 k56 k57∧I1 w13∧au Proofs.Tryz.prog Ev 72 [vA (Array.mk [vS o23 k48 k49,vS o24 k50 k51,vS o25 k52 k53,iI n14,vS o26 k54 k55])] w13 fun v3 w14=>∃ o28 k58 k59,v3 = vS o28 k58 k59∧I1 w14∧iA w14 (aM k2) [vS o13 k28 k29,vS o14 k30 k31,vS o15 k32 k33,iI n8,vS o16 k34 k35,vS o17 k36 k37,iI n9,iI n10,vS o27 k56 k57,vS o28 k58 k59] fun w15=>I1 w15∧∃ o29 k60 k61 o30 k62 k63 o31 k64 k65 n15 o32 k66 k67 o33 k68 k69 n16 n17 o34 k70 k71 o35 k72 k73,V.rowAt w15 (aM k2) 0 10 = some [vS o29 k60 k61,vS o30 k62 k63,vS o31 k64 k65,iI n15,vS o32 k66 k67,vS o33 k68 k69,iI n16,iI n17,vS o34 k70 k71,vS o35 k72 k73]∧R (vT (Array.mk [vA (Array.mk [vS o29 k60 k61,vS o30 k62 k63,vS o31 k64 k65,iI n15,vS o32 k66 k67,vS o33 k68 k69,iI n16,iI n17,vS o34 k70 k71,vS o35 k72 k73]),iI 0])) w15)
theorem tS (a:Option Addr) (b c:Nat) (d:Option Addr) (e f:Nat) (g:Option Addr) (i j:Nat) (k:Int) (l:Option Addr) (m n:Nat) (w:World) (R:Value→WP) (h:vc a b c d e f g i j k l m n w R):aC Tryz.prog 32 [(.agg #[(.slice a b c),(.slice d e f),(.slice g i j),(.int .i64 k),(.slice l m n)])] w R:=rv Tryz.func32 tR (by kernel_rfl) h

abbrev iy:FuncId:=35
def gD:bj:={ rngs:=[],loops:=[(3,[(4,(.one (.int .i64)))]),(6,[(5,(.one (.int .i64)))]),(12,[(7,(.one (.int .i64))),(8,(.one (.int .i64)))])],joins:=[(19,[])],blocks:=[] }
def gU (a:Option Addr) (w:World) (R:Value→WP):Prop :=  nn a fun a1=>∃ o1 k1 k2,World.cell? w (Addr.add a1 8) = some (vS o1 k1 k2)∧y7 (↑k1:Int) (↑k1:Int) 24∧new w (Obj.cells (Array.mk (gG (Int.toNat (↑k1:Int)) [vS none 0 0])) 24) fun k3 w1=>∃ (x1:lP [(4,aI)]),∃ (x2:lN [(4,aI)]),x1 0 w1∧∀ (I1:Nat→Value) (n1:Int) (w2:World),x1 n1 w2→nn a fun a2=>∃ o2 k4 k5,World.cell? w2 (Addr.add a2 8) = some (vS o2 k4 k5)∧br (decide (n1 < (↑k4:Int))) (∃ (x3:lP [(5,aI)]),∃ (x4:lN [(5,aI)]),x3 1 w2∧∀ (I2:Nat→Value) (n2:Int) (w3:World),x3 n2 w3→nn a fun a3=>∃ o3 k6 k7,World.cell? w3 (Addr.add a3 4) = some (vS o3 k6 k7)∧br (decide (n2 < (↑k6:Int))) (nn a fun a4=>∃ o4 k8 k9,World.cell? w3 (Addr.add a4 4) = some (vS o4 k8 k9)∧idx o4 k8 n2 3 fun a5=>∃ o5 k10 k11,World.cell? w3 (Addr.add a5 1) = some (vS o5 k10 k11)∧∀ w4,drawn w3 w4→∃ (I3:World→Prop),I3 w4∧nn a fun a6=>∃ o6 k12 k13,(∀ w5,I3 w5→World.cell? w5 (Addr.add a6 4) = some (vS o6 k12 k13))∧idx o6 k12 n2 3 fun a7=>∃ n3,(∀ w6,I3 w6→World.cell? w6 a7 = some (iI n3))∧nn a fun a8=>∃ o7 k14 k15,(∀ w7,I3 w7→World.cell? w7 (Addr.add a8 8) = some (vS o7 k14 k15))∧idx o7 k14 n1 2 fun a9=>∃ n4,(∀ w8,I3 w8→World.cell? w8 (Addr.add a9 1) = some (iI n4))∧br (n3 != n4) (aG (n2 + 1)∧x3 (n2 + 1) w4∧x4 (n2 + 1) w4 < x4 n2 w3) (nn a fun a10=>∃ o8 k16 k17,World.cell? w4 (Addr.add a10 8) = some (vS o8 k16 k17)∧idx o8 k16 n1 2 fun a11=>∃ n5,World.cell? w4 a11 = some (iI n5)∧∃ (x5:lP [(7,aI),(8,aI)]),∃ (x6:lN [(7,aI),(8,aI)]),x5 n5 0 w4∧∀ (I4:Nat→Value) (n6 n7:Int) (w9:World),x5 n6 n7 w9→br (decide (n7 < (↑k10:Int))) (br (decide (0≤n6)) (∀ w10,drawn w9 w10→∃ (I5:World→Prop),I5 w10∧nn a fun a12=>∃ o9 k18 k19,(∀ w11,I5 w11→World.cell? w11 (Addr.add a12 8) = some (vS o9 k18 k19))∧idx o5 k10 n7 1 fun a13=>∃ n8,(∀ w12,I5 w12→World.cell? w12 a13 = some (iI n8))∧au Proofs.Tryz.prog Ev 75 [vS o9 k18 k19,iI n6,iI n8] w10 fun v1 w13=>∃ n9,v1 = iI n9∧I5 w13∧∃ (x7:lP []),br (decide (0≤n9)) (aG (n7 + 1)∧p8 o5 k10 k11 (some (n7 + 1)) none none 1 fun (o10:Option Addr) (k20 k21:Nat)=>au Proofs.Tryz.prog Ev 76 [vP a,vS o10 k20 k21] w13 fun v2 w14=>∃ b1,v2 = vB b1∧br b1 (idx (some (aM k3)) (Int.toNat (↑k1:Int)) n9 1 fun a14=>∃ o11 k22 k23,World.cell? w14 a14 = some (vS o11 k22 k23)∧au Proofs.Tryz.prog Ev 56 [vS o11 k22 k23,iI n1] w14 fun v3 w15=>∃ o12 k24 k25,v3 = vS o12 k24 k25∧idx (some (aM k3)) (Int.toNat (↑k1:Int)) n9 1 fun a15=>st1 w15 a15 (vS o12 k24 k25) fun w16=>x7 w16) (x7 w14)) (x7 w13)∧∀ (I6:Nat→Value) (w17:World),x7 w17→∀ w18,drawn w17 w18→∃ (I7:World→Prop),I7 w18∧nn a fun a16=>∃ o13 k26 k27 n10 n11,(∀ w19,I7 w19→V.rowAt w19 (Addr.add a16 5) 0 3 = some [vS o13 k26 k27,iI n10,iI n11])∧idx o5 k10 n7 1 fun a17=>∃ n12,(∀ w20,I7 w20→World.cell? w20 a17 = some (iI n12))∧au Proofs.Tryz.prog Ev 77 [vA (Array.mk [vS o13 k26 k27,iI n10,iI n11]),iI n6,iI n12] w18 fun v4 w21=>∃ n13,v4 = iI n13∧I7 w21∧aG (n7 + 1)∧x5 n13 (n7 + 1) w21∧x6 n13 (n7 + 1) w21 < x6 n6 n7 w9) (aG (n2 + 1)∧x3 (n2 + 1) w9∧x4 (n2 + 1) w9 < x4 n2 w3)) (aG (n2 + 1)∧x3 (n2 + 1) w9∧x4 (n2 + 1) w9 < x4 n2 w3))) (aG (n1 + 1)∧x1 (n1 + 1) w3∧x2 (n1 + 1) w3 < x2 n1 w2)) (R (vS (some (aM k3)) (Int.toNat (↑k1:Int)) (Int.toNat (↑k1:Int))) w2)
theorem gE (a:Option Addr) (w:World) (R:Value→WP) (h:gU a w R):aC Tryz.prog 35 [(.pointer a)] w R:=rv Tryz.func35 gD (by kernel_rfl) h

abbrev jZ:FuncId:=56
def sg:bj:={ rngs:=[],loops:=[(2,[(5,(.one (.int .i64)))])],joins:=[(4,[(5,(.one (.int .i64)))])],blocks:=[] }
def tT (a:Option Addr) (b c:Nat) (d:Int) (w:World) (R:Value→WP):Prop :=  ∃ (x1:lP [(5,aI)]),(∃ (x2:lP [(5,aI)]),∃ (x3:lN [(5,aI)]),x2 0 w∧∀ (I1:Nat→Value) (n1:Int) (w1:World),x2 n1 w1→br (decide (n1 < (↑b:Int))) (idx a b n1 1 fun a1=>∃ n2,World.cell? w1 a1 = some (iI n2)∧br (decide (n2 < d)) (aG (n1 + 1)∧x2 (n1 + 1) w1∧x3 (n1 + 1) w1 < x3 n1 w1) (x1 n1 w1)) (x1 n1 w1))∧∀ (I2:Nat→Value) (n3:Int) (w2:World),x1 n3 w2→br (decide (n3 < (↑b:Int))) (idx a b n3 1 fun a2=>∃ n4,World.cell? w2 a2 = some (iI n4)∧br (n4 == d) (R (vS a b c) w2) (p8 a b c none (some n3) none 1 fun (o1:Option Addr) (k1 k2:Nat)=>az Proofs.Tryz.prog (f_ 24 (Array.mk [vS none 0 0,vS o1 k1 k2])) w2 fun v1 w3=>∃ o2 k3 k4,v1 = vS o2 k3 k4∧new w3 (oC [iI d] 3) fun k5 w4=>az Proofs.Tryz.prog (f_ 24 (Array.mk [vS o2 k3 k4,vS (some (aM k5)) 1 1])) w4 fun v2 w5=>∃ o3 k6 k7,v2 = vS o3 k6 k7∧p8 a b c (some n3) none none 1 fun (o4:Option Addr) (k8 k9:Nat)=>az Proofs.Tryz.prog (f_ 24 (Array.mk [vS o3 k6 k7,vS o4 k8 k9])) w5 fun v3 w6=>∃ o5 k10 k11,v3 = vS o5 k10 k11∧R (vS o5 k10 k11) w6)) (p8 a b c none (some n3) none 1 fun (o6:Option Addr) (k12 k13:Nat)=>az Proofs.Tryz.prog (f_ 24 (Array.mk [vS none 0 0,vS o6 k12 k13])) w2 fun v4 w7=>∃ o7 k14 k15,v4 = vS o7 k14 k15∧new w7 (oC [iI d] 3) fun k16 w8=>az Proofs.Tryz.prog (f_ 24 (Array.mk [vS o7 k14 k15,vS (some (aM k16)) 1 1])) w8 fun v5 w9=>∃ o8 k17 k18,v5 = vS o8 k17 k18∧p8 a b c (some n3) none none 1 fun (o9:Option Addr) (k19 k20:Nat)=>az Proofs.Tryz.prog (f_ 24 (Array.mk [vS o8 k17 k18,vS o9 k19 k20])) w9 fun v6 w10=>∃ o10 k21 k22,v6 = vS o10 k21 k22∧R (vS o10 k21 k22) w10)
theorem iz (a:Option Addr) (b c:Nat) (d:Int) (w:World) (R:Value→WP) (h:tT a b c d w R):aC Tryz.prog 56 [(.slice a b c),(.int .i64 d)] w R:=rv Tryz.func56 sg (by kernel_rfl) h

abbrev j1:FuncId:=74
def iP:bj:={ rngs:=[],loops:=[(3,[(4,(.one (.int .i64)))]),(7,[(6,(.one (.int .i64)))])],joins:=[],blocks:=[] }
def jm (a:Option Addr) (w:World) (R:Value→WP):Prop :=  nn a fun a1=>∃ o1 k1 k2,World.cell? w (Addr.add a1 8) = some (vS o1 k1 k2)∧y7 (↑k1:Int) (↑k1:Int) 24∧new w (Obj.cells (Array.mk (gG (Int.toNat (↑k1:Int)) [vS none 0 0])) 24) fun k3 w1=>∃ (x1:lP [(4,aI)]),∃ (x2:lN [(4,aI)]),x1 0 w1∧∀ (I1:Nat→Value) (n1:Int) (w2:World),x1 n1 w2→nn a fun a2=>∃ o2 k4 k5,World.cell? w2 (Addr.add a2 8) = some (vS o2 k4 k5)∧br (decide (n1 < (↑k4:Int))) (∀ w3,drawn w2 w3→∃ (I2:World→Prop),I2 w3∧nn a fun a3=>∃ o3 k6 k7 n2 n3,(∀ w4,I2 w4→V.rowAt w4 (Addr.add a3 5) 0 3 = some [vS o3 k6 k7,iI n2,iI n3])∧nn a fun a4=>∃ o4 k8 k9,(∀ w5,I2 w5→World.cell? w5 (Addr.add a4 8) = some (vS o4 k8 k9))∧idx o4 k8 n1 2 fun a5=>∃ n4,(∀ w6,I2 w6→World.cell? w6 a5 = some (iI n4))∧nn a fun a6=>∃ o5 k10 k11,(∀ w7,I2 w7→World.cell? w7 (Addr.add a6 8) = some (vS o5 k10 k11))∧idx o5 k10 n1 2 fun a7=>∃ n5,(∀ w8,I2 w8→World.cell? w8 (Addr.add a7 1) = some (iI n5))∧au Proofs.Tryz.prog Ev 77 [vA (Array.mk [vS o3 k6 k7,iI n2,iI n3]),iI n4,iI n5] w3 fun v1 w9=>∃ n6,v1 = iI n6∧I2 w9∧∃ (x3:lP [(6,aI)]),∃ (x4:lN [(6,aI)]),x3 0 w9∧∀ (I3:Nat→Value) (n7:Int) (w10:World),x3 n7 w10→nn a fun a8=>∃ o6 k12 k13,World.cell? w10 (Addr.add a8 8) = some (vS o6 k12 k13)∧br (decide (n7 < (↑k12:Int))) (∀ w11,drawn w10 w11→∃ (I4:World→Prop),I4 w11∧nn a fun a9=>∃ o7 k14 k15,(∀ w12,I4 w12→World.cell? w12 (Addr.add a9 8) = some (vS o7 k14 k15))∧idx o7 k14 n7 2 fun a10=>∃ n8,(∀ w13,I4 w13→World.cell? w13 a10 = some (iI n8))∧br (n8 == n6) (nn a fun a11=>∃ o8 k16 k17,(∀ w14,I4 w14→World.cell? w14 (Addr.add a11 9) = some (vS o8 k16 k17))∧nn a fun a12=>∃ o9 k18 k19,(∀ w15,I4 w15→World.cell? w15 (Addr.add a12 8) = some (vS o9 k18 k19))∧idx o9 k18 n7 2 fun a13=>∃ n9,(∀ w16,I4 w16→World.cell? w16 (Addr.add a13 1) = some (iI n9))∧nn a fun a14=>∃ o10 k20 k21,(∀ w17,I4 w17→World.cell? w17 a14 = some (vS o10 k20 k21))∧aG (n9 - (↑k20:Int))∧idx o8 k16 (n9 - (↑k20:Int)) 1 fun a15=>∃ b1,(∀ w18,I4 w18→World.cell? w18 a15 = some (vB b1))∧br b1 (idx (some (aM k3)) (Int.toNat (↑k1:Int)) n1 1 fun a16=>∃ o11 k22 k23,World.cell? w11 a16 = some (vS o11 k22 k23)∧new w11 (oC [iI n7] 3) fun k24 w19=>az Proofs.Tryz.prog (f_ 24 (Array.mk [vS o11 k22 k23,vS (some (aM k24)) 1 1])) w19 fun v2 w20=>∃ o12 k25 k26,v2 = vS o12 k25 k26∧idx (some (aM k3)) (Int.toNat (↑k1:Int)) n1 1 fun a17=>st1 w20 a17 (vS o12 k25 k26) fun w21=>aG (n7 + 1)∧x3 (n7 + 1) w21∧x4 (n7 + 1) w21 < x4 n7 w10) (aG (n7 + 1)∧x3 (n7 + 1) w11∧x4 (n7 + 1) w11 < x4 n7 w10)) (aG (n7 + 1)∧x3 (n7 + 1) w11∧x4 (n7 + 1) w11 < x4 n7 w10)) (aG (n1 + 1)∧x1 (n1 + 1) w10∧x2 (n1 + 1) w10 < x2 n1 w2)) (R (vS (some (aM k3)) (Int.toNat (↑k1:Int)) (Int.toNat (↑k1:Int))) w2)
theorem iQ (a:Option Addr) (w:World) (R:Value→WP) (h:jm a w R):aC Tryz.prog 74 [(.pointer a)] w R:=rv Tryz.func74 iP (by kernel_rfl) h

abbrev j3:FuncId:=76
def iR:bj:={ rngs:=[],loops:=[(2,[(5,(.one (.int .i64)))])],joins:=[],blocks:=[] }
def jn (a b:Option Addr) (c d:Nat) (w:World) (R:Value→WP):Prop :=  ∃ (x1:lP [(5,aI)]),∃ (x2:lN [(5,aI)]),x1 0 w∧∀ (I1:Nat→Value) (n1:Int) (w1:World),x1 n1 w1→br (decide (n1 < (↑c:Int))) (∀ w2,drawn w1 w2→∃ (I2:World→Prop),I2 w2∧nn a fun a1=>∃ o1 k1 k2 o2 k3 k4 o3 k5 k6 n2 o4 k7 k8,(∀ w3,I2 w3→V.rowAt w3 a1 0 5 = some [vS o1 k1 k2,vS o2 k3 k4,vS o3 k5 k6,iI n2,vS o4 k7 k8])∧idx b c n1 1 fun a2=>∃ n3,(∀ w4,I2 w4→World.cell? w4 a2 = some (iI n3))∧au Proofs.Tryz.prog Ev 112 [vA (Array.mk [vS o1 k1 k2,vS o2 k3 k4,vS o3 k5 k6,iI n2,vS o4 k7 k8]),iI n3] w2 fun v1 w5=>∃ b1,v1 = vB b1∧I2 w5∧∀ w6,drawn w5 w6→∃ (I3:World→Prop),I3 w6∧br (!b1) (R (vB false) w6) (nn a fun a3=>∃ o5 k9 k10,(∀ w7,I3 w7→World.cell? w7 (Addr.add a3 9) = some (vS o5 k9 k10))∧idx b c n1 1 fun a4=>∃ n4,(∀ w8,I3 w8→World.cell? w8 a4 = some (iI n4))∧nn a fun a5=>∃ o6 k11 k12,(∀ w9,I3 w9→World.cell? w9 a5 = some (vS o6 k11 k12))∧aG (n4 - (↑k11:Int))∧idx o5 k9 (n4 - (↑k11:Int)) 1 fun a6=>∃ b2,(∀ w10,I3 w10→World.cell? w10 a6 = some (vB b2))∧br (!b2) (R (vB false) w6) (aG (n1 + 1)∧x1 (n1 + 1) w6∧x2 (n1 + 1) w6 < x2 n1 w1))) (R (vB true) w1)
theorem iS (a b:Option Addr) (c d:Nat) (w:World) (R:Value→WP) (h:jn a b c d w R):aC Tryz.prog 76 [(.pointer a),(.slice b c d)] w R:=rv Tryz.func76 iR (by kernel_rfl) h

end Go.Proofs.YtngdohpikfcifaaGreatDoor
namespace Go.V
abbrev M5 (x:GA) (o:Option Addr) (n c:Nat) (a int:Int) (ol:Option Addr) (nl cl:Nat) (on:Option Addr) (nn cn:Nat):List Value:=x.cells ++ [.slice o n c,.int .i64 a,.int .i64 int,.slice ol nl cl,.slice on nn cn]
def QM:GA:=⟨none,0,0,none,0,0,none,0,0,0,none,0,0⟩
structure Kh (h:Hp) (g:af) (ss:List SQ) (nn:List Bool) (k:Nat):Prop where
 ex:∃ (x:GA) (o:Option Addr) (c:Nat) (a int:Int) (ol:Option Addr) (cl:Nat) (on:Option Addr) (cn:Nat),ax h (aM k) (M5 x o ss.length c a int ol (aU g ss).length cl on g.N cn)∧gR h g x∧xS h ss o∧aW h (aU g ss) ol (aU g ss).length∧aW h nn on g.N
theorem Kh.mono {h h' : Hp} {g:af} {ss:List SQ} {nn:List Bool} {k:Nat} (s:sub h h') (r:Kh h g ss nn k):Kh h' g ss nn k:=by
 obtain ⟨x,o,c,a,int,ol,cl,on,cn,h1,h2,h3,h4,h5⟩:=r.ex
 exact ⟨x,o,c,a,int,ol,cl,on,cn,h1.mono s,h2.mono s,h3.mono s,h4.mono s,h5.mono s⟩
def bD (n:Nat) (f:Nat→List Int) (k:Nat) (L:List aw) (w:World):Prop:=∃ es:List (Lq Int),es.length = n∧(∀ j q,es[j]? = some q→q.2 = f j)∧St w (aR k (es.map bF) :: aT (es.map (bX 1 iv)) :: L)
theorem bD.gr {n k:Nat} {f:Nat→List Int} {L:List aw} {w w' : World} (h:bD n f k L w) (g:Gr w w'):bD n f k L w':=by
 obtain ⟨es,h1,h2,h3⟩:=h
 exact ⟨es,h1,h2,h3.gr g⟩
theorem bD.gw {n k:Nat} {f:Nat→List Int} {w0 w:World} (h:bD n f k (all w0) w):Gr w0 w:=by
 obtain ⟨es,h1,h2,h3⟩:=h
 exact aZ 2 h3.l
theorem bD.iff {n k:Nat} {f f' : Nat→List Int} {L:List aw} {w:World} (h:bD n f k L w) (e:∀ j,j < n→f j = f' j):bD n f' k L w:=by
 obtain ⟨es,h1,h2,h3⟩:=h
 refine ⟨es,h1,fun j q hq=>?_,h3⟩
 rw [h2 j q hq,e j (by rw [← h1]; exact (Sk.1 hq).1)]
theorem bD.take {n k i:Nat} {f:Nat→List Int} {L:List aw} {w:World} (h:bD n f k L w) (hi:i < n):∃ (q:Lq Int) (es:List (Lq Int)),q.2 = f i∧es.length = n∧(es.map bF)[i]? = some (bF q)∧St w (own 1 q.1.1 q.2.length q.1.2 (iv q.2) :: aT ((es.map (bX 1 iv)).eraseIdx i) :: aR k (es.map bF) :: L) ∧
  ∀ (w' : World) (L' : List aw) (o:Option Addr) (c:Nat) (xs:List Int),St w' (own 1 o xs.length c (iv xs) :: aT ((es.map (bX 1 iv)).eraseIdx i) :: aR k ((es.map bF).set i (.slice o xs.length c)) :: L')→bD n (fun j=>if j = i then xs else f j) k L' w':=by
 obtain ⟨es,h1,h2,h3⟩:=h
 obtain ⟨q,hq⟩ : ∃ q,es[i]? = some q:=⟨_,Sm (by omega)⟩
 have hA:(es.map (bX 1 iv))[i]? = some (bX 1 iv q):=by rw [Sn,hq]; rfl
 refine ⟨q,es,h2 i q hq,h1,by rw [Sn,hq]; rfl,?_,fun w' L' o c xs h=>?_⟩
 ·have h:=St.out (h3.pick 2 [1,0]) hA
  exact h
 ·refine ⟨es.set i ((o,c),xs),by rw [SL]; exact h1,fun j r hr=>?_,?_⟩
  ·by_cases e:i = j
   ·subst e
    rw [SY (by omega)] at hr
    cases hr
    show xs = if i = i then xs else f i
    rw [Sz rfl]
   ·rw [SR e] at hr
    show r.2 = if j = i then xs else f j
    rw [Sr (TM e)]
    exact h2 j r hr
  ·have h:=St.back (B:=own 1 o xs.length c (iv xs)) h hA
   rw [show own 1 o xs.length c (iv xs) = bX 1 iv (((o,c),xs):Lq Int) from rfl,← Ta,show (.slice o xs.length c:Value) = bF (((o,c),xs):Lq Int) from rfl,← Ta] at h
   exact h.pick 2 [1,0]
theorem bD.start {n k:Nat} {L:List aw} {w:World} (h:St w (aR k ((List.replicate n (((none,0),[]):Lq Int)).map bF) :: L)):bD n (fun _=>[]) k L w:=by
 have h:=v_ (A:=bX 1 iv (((none,0),[]):Lq Int)) (fun w L h=>aB 1 h) n h
 rw [← List.map_replicate] at h
 refine ⟨_,by simp,fun j q hq=>?_,h.pick 2 [1,0]⟩
 rw [Tc] at hq
 split at hq
 ·cases hq; rfl
 ·cases hq
theorem bD.fin {n k:Nat} {f:Nat→List Int} {L:List aw} {w:World} (h:bD n f k L w):∃ ds:List (Lq Int),ds.length = n∧ds.map (·.2) = (List.range n).map f∧St w (own 1 (some (aM k)) n n (ds.map bF) :: aT (ds.map (bX 1 iv)) :: L):=by
 obtain ⟨es,h1,h2,h3⟩:=h
 refine ⟨es,h1,?_,eX (cs:=[]) (by rw [S6]; exact h3) (by simp [h1]) (by simp [h1]) (SF _)⟩
 apply Tb
 intro i
 rw [Sn,Sn]
 by_cases hi:i < n
 ·have hd:es[i]? = some es[i]:=Sm (by omega)
  rw [hd,TA hi]
  exact congrArg some (h2 i _ hd)
 ·rw [SH (by omega),SH (by simp; omega)]; rfl
end Go.V
namespace Go.Proofs.YtngdohpikfcifaaGreatDoor
open Go.V
variable {w:World} {L:List aw} {g:af} {x:GA} {ss:List SQ} {nn:List Bool}
theorem MM (hg:gR (hp w) g x) (hb:iM g):aC Tryz.prog xd [.agg ⟨x.cells⟩] w fun v w'=>∃ (ss:List SQ) (ask int f:Int) (nn:List Bool) (x' : GA) (o:Option Addr) (n c:Nat) (a i:Int) (ol:Option Addr) (nl cl:Nat) (on:Option Addr) (nN cn:Nat),v = .tuple #[.agg ⟨M5 x' o n c a i ol nl cl on nN cn⟩,.int .i64 f]∧vf g ss ask int f∧Gr w w' ∧
  (f = 0→pM g nn∧n = ss.length∧nl = (aU g ss).length∧nN = g.N∧gR (hp w') g x'∧xS (hp w') ss o∧aW (hp w') (aU g ss) ol (aU g ss).length∧aW (hp w') nn on g.N):=by
 refine tS _ _ _ _ _ _ _ _ _ _ _ _ _ w _ (de hg fun k1 w1 gw hg B=>?_)
 refine ah (vs:=M5 QM none 0 0 0 0 none 0 0 none 0 0) (St.all w1) fun k2 w2 h=>?_
 have g12:Gr w1 w2:=aZ 1 h.l
 refine ⟨_,_,_,_,_,_,_,_,_,_,_,_,_,B.row g12,(L0 (hg.mono g12) hb).mono ?_⟩
 rintro _ w3 ⟨o,c,ss,ask,int,f,rfl,hR,h3⟩
 have h:St w3 (own 2 o ss.length c (tZ ss) :: aT (xO ss) :: aT (t_ ss) :: aR k2 (M5 QM none 0 0 0 0 none 0 0 none 0 0) :: all w1):=St.on (N:=[_,_,_]) h3 h.l
 clear h3
 refine ⟨_,_,_,_,_,_,rfl,ah h fun k13 w4 h=>bh h rfl (by simp [aS]) fun w5 h=>?_⟩
 have h:St w5 (aR k13 [.slice o ss.length c,.int .i64 ask,.int .i64 int] :: own 2 o ss.length c (tZ ss) :: aT (xO ss) :: aT (t_ ss) :: aR k2 (M5 QM none 0 0 0 0 none 0 0 none 0 0) :: all w1):=h
 obtain ⟨h0,hl0,s0,h⟩:=(h.pick 5 [4,0,1,2,3]).freeze
 have r13:ax h0 (aM k13) [.slice o ss.length c,.int .i64 ask,.int .i64 int]:=ai 0 hl0
 have hs:xS h0 ss o:=wx (bq hl0)
 have g10:sub (hp w1) h0:=aZ 4 hl0
 clear hl0 s0
 refine ae (fun h1=>?_) fun h1=>?_
 ·have h1:f≠0:=by simpa using h1
  refine bh h rfl (by intro v hv; simp at hv; rcases hv with rfl | rfl | rfl | rfl | rfl | rfl | rfl | rfl | rfl | rfl <;> rfl) fun w6 h=>?_
  exact ⟨_,_,_,_,_,_,_,_,_,_,_,_,_,_,_,_,_,_,_,_,_,_,_,_,(ai 0 h.l).at (sub.refl _) rfl,ss,ask,int,f,[],QM,none,0,0,0,0,none,0,0,none,0,0,rfl,hR,gw.trans (sub.trans g10 (aZ 1 h.l)),fun h=>absurd h h1⟩
 have h1:f = 0:=by simpa using h1
 subst h1
 obtain ⟨hc,hA⟩:=hR.Fz rfl
 intro w7 hd
 have h:=h.eq (aD hd)
 have s7:sub h0 (hp w7):=aZ 1 h.l
 refine ⟨fun u=>sub h0 (hp u),s7,_,_,_,_,_,_,_,_,_,_,_,_,_,fun u s=>B.row (sub.trans g10 s),_,_,_,_,_,fun u s=>r13.at s rfl,_,_,_,_,_,_,_,_,_,_,_,_,_,fun u s=>B.row (sub.trans g10 s),_,_,_,_,_,fun u s=>r13.at s rfl,_,_,_,_,_,_,_,_,_,_,_,_,_,fun u s=>B.row (sub.trans g10 s),(Rn (hg.mono (sub.trans g10 s7)) hb hc hA (hs.mono s7)).mono ?_⟩
 rintro _ w13 ⟨ol,cl,rfl,h2⟩
 have h:St w13 (own 2 ol (aU g ss).length cl (xf (aU g ss)) :: aR k2 (M5 QM none 0 0 0 0 none 0 0 none 0 0) :: [has h0]):=St.vK h2 h.l
 clear h2
 have s13:sub h0 (hp w13):=aZ 2 h.l
 refine ⟨_,_,_,rfl,s13,(P7 (hg.mono (sub.trans g10 s13)) hb (.inr hc)).mono ?_⟩
 rintro _ w14 ⟨kn,nn,rfl,hnn,h2⟩
 have h:St w14 (aR kn (bv nn) :: own 2 ol (aU g ss).length cl (xf (aU g ss)) :: aR k2 (M5 QM none 0 0 0 0 none 0 0 none 0 0) :: [has h0]):=St.vK h2 h.l
 clear h2
 refine ⟨_,_,_,rfl,aZ 3 h.l,bh (h.pick 3 [2,0,1]) rfl (by intro v hv; simp at hv; rcases hv with rfl | rfl | rfl | rfl | rfl | rfl | rfl | rfl | rfl | rfl <;> rfl) fun w15 h=>?_⟩
 have s15:sub h0 (hp w15):=aZ 3 h.l
 refine ⟨s15,_,_,_,_,_,_,_,_,_,_,_,_,_,_,_,_,_,_,_,_,_,_,_,_,(ai 0 h.l).at (sub.refl _) rfl,ss,ask,int,0,nn,x,o,_,c,ask,int,ol,_,cl,_,_,_,rfl,hR,gw.trans (sub.trans g10 s15),fun _=>⟨hnn,rfl,rfl,rfl,hg.mono (sub.trans g10 s15),hs.mono s15,wB rfl (gB 2 h.l),xI hnn.1 (.inr ⟨_,rfl,ai 1 h.l⟩)⟩⟩
theorem MN {a:Option Addr} {c:Nat} {st s:Int} (hA:bG g ss) (rT:aW (hp w) (aU g ss) a (aU g ss).length) (hn:(aU g ss).length≤33280):aC Tryz.prog pY [.slice a (aU g ss).length c,.int .i64 st,.int .i64 s] w fun v w'=>v = .int .i64 (mW g ss ⟨st,s⟩ - 1)∧w' = w:=by
 refine nj _ _ _ _ _ w _ ⟨fun z w'=>∃ j:Nat,z = j∧j≤(aU g ss).length∧(∀ j',j' < j→(aU g ss)[j']?≠some ⟨st,s⟩)∧w' = w,fun z _=>(aU g ss).length - z.toNat,⟨0,rfl,Sv _,fun j' h=>by omega,rfl⟩,?_⟩
 rintro _ _ w1 ⟨j,rfl,hj,hno,rfl⟩
 refine ae (fun h1=>?_) fun h1=>?_
 rotate_left
 ·have h1:j = (aU g ss).length:=by have:=Sj h1; omega
  refine ⟨?_,rfl⟩
  have:(⟨st,s⟩ : ak)∉aU g ss:=fun hm=>by
   obtain ⟨j',hj'⟩:=SP hm
   exact hno j' (by have:=(Sk.1 hj').1; omega) hj'
  unfold mW
  rw [Sr this]
  rfl
 have h1:j < (aU g ss).length:=by have:=Si h1; omega
 obtain ⟨t,tad,ht,hta,rt⟩:=fm rT h1
 have next:t≠⟨st,s⟩→aG ((j:Int) + 1)∧(∃ j2:Nat,(j:Int) + 1 = j2∧j2≤(aU g ss).length∧(∀ j',j' < j2→(aU g ss)[j']?≠some ⟨st,s⟩)∧w1 = w1)∧(aU g ss).length - ((j:Int) + 1).toNat < (aU g ss).length - (j:Int).toNat:=fun hne=>by
  refine ⟨⟨by omega,by omega⟩,⟨j + 1,by simp,h1,fun j' hj' e=>?_,rfl⟩,bA h1⟩
  by_cases e2:j' = j
  ·subst e2; rw [ht] at e; exact hne (Option.some.inj e)
  ·exact hno j' (by omega) e
 refine ay hta h1 ⟨_,rt.cell0 (sub.refl _),ae (fun h2=>?_) fun h2=>next fun e=>by rw [e] at h2; simp at h2⟩
 have h2:t.st = st:=by simpa using h2
 refine ay hta h1 ⟨_,rt.cell (sub.refl _) (j:=1) rfl,ae (fun h3=>?_) fun h3=>next fun e=>by rw [e] at h3; simp at h3⟩
 have h3:t.sym = s:=by simpa using h3
 have e:t = ⟨st,s⟩:=by cases t; simp at *; exact ⟨h2,h3⟩
 subst e
 refine ⟨?_,rfl⟩
 rw [wM hA ht]
 congr 1
 omega
theorem Ki {k l c:Nat} {a:Option Addr} {row:List Int} (hw:Kh (hp w) g ss nn k) (hb:iM g) (hnn:pM g nn) (hc:av g) (hr:aW (hp w) row a l) (hl:l≤4611686018427387904) (hrow:∀ s∈row,0≤s∧s < g.T + g.N):aC Tryz.prog j3 [.pointer (some (aM k)),.slice a l c] w fun v w'=>v = .bool (rr g nn row)∧Gr w w':=by
 obtain ⟨x',o,c',a',int,ol,cl,on,cn,rk,hg,hs,rT,rN⟩:=hw.ex
 obtain ⟨sT,sN,sP,_,_,_⟩:=hc.eD
 have hTl:g.T = x'.tl:=hg.t.1
 have hrl:=hr.1
 refine iS _ _ _ _ w _ ⟨fun n w'=>∃ j:Nat,n = j∧j≤l∧rr g nn (row.take j) = true∧Gr w w',fun n _=>l - n.toNat,⟨0,rfl,Sv _,rfl,Gr.refl _⟩,?_⟩
 rintro _ _ w1 ⟨j,rfl,hj,ha,g1⟩
 refine ae (fun h1=>?_) fun h1=>?_
 rotate_left
 ·have h1:j = l:=by have:=Sj h1; omega
  subst h1
  rw [SD (by omega)] at ha
  exact ⟨by rw [ha],g1⟩
 have h1:j < l:=by have:=Si h1; omega
 obtain ⟨y,ad,hy1,hya,hy2⟩:=hr.bL h1
 have hym:=Sl hy1
 obtain ⟨hy0,hyN⟩:=hrow y hym
 have no:kF g nn y = false→rr g nn row = false:=fun hv=>by
  unfold rr
  refine Bool.eq_false_iff.2 fun h=>?_
  have:=TG.1 h y hym
  rw [hv] at this; cases this
 intro w2 hd
 have g2:Gr w w2:=g1.trans (Gr.drawn hd)
 refine ⟨fun u=>Gr w2 u,Gr.refl _,_,_,_,_,_,_,_,_,_,_,_,_,_,fun u s=>(BC rk).at (sub.trans g2 s) rfl,aq hya h1 ⟨y,fun u s=>hy2 _ (sub.trans g2 s),(Ja (hg.mono g2) hb).mono ?_⟩⟩
 rintro _ w5 ⟨rfl,g5⟩
 refine ⟨_,rfl,g5,?_⟩
 intro w6 hd2
 have g6:Gr w w6:=g2.trans (g5.trans (Gr.drawn hd2))
 refine ⟨fun u=>Gr w6 u,Gr.refl _,ae (fun h3=>?_) fun h3=>?_⟩
 ·have h3:¬(g.T:Int)≤y:=fun h4=>by rw [S2 h4,S2 (show y < (g.T:Int) + g.N by omega)] at h3; cases h3
  refine ⟨?_,g6⟩
  rw [no (by unfold kF; rw [TD h3]; rfl)]
 have h3:(g.T:Int)≤y:=by
  have h4:(decide ((g.T:Int)≤y) && decide (y < (g.T:Int) + g.N)) = true:=by simpa using h3
  rw [SB] at h4
  exact Si h4.1
 obtain ⟨m,hm⟩ : ∃ m:Nat,y - (x'.tl:Int) = m:=⟨(y - (x'.tl:Int)).toNat,by omega⟩
 have hmN:m < g.N:=by omega
 obtain ⟨bb,bad,hb1,hba,hb2⟩:=rN.bL hmN
 have hvan:kF g nn y = bb:=by
  unfold kF
  rw [S2 h3,TS,show y.toNat - g.T = m by omega]
  exact nJ hb1
 refine ⟨_,_,_,fun u s=>rk.cell (sub.trans g6 s) (j:=9) rfl,aq hya h1 ⟨y,fun u s=>hy2 _ (sub.trans g6 s),_,_,_,fun u s=>rk.cell0 (sub.trans g6 s),⟨by omega,by omega⟩,?_⟩⟩
 rw [hm]
 refine aq hba hmN ⟨bb,fun u s=>hb2 _ (sub.trans g6 s),ae (fun h4=>?_) fun h4=>⟨⟨by omega,by omega⟩,⟨j + 1,by simp,by omega,?_,g6⟩,bA h1⟩⟩
 ·have h4:bb = false:=by simpa using h4
  exact ⟨by rw [no (by rw [hvan,h4])],g6⟩
 ·have h4:bb = true:=by simpa using h4
  unfold rr at ha ⊢
  rw [aV hy1,List.all_append,ha]
  simp [hvan,h4]
end Go.Proofs.YtngdohpikfcifaaGreatDoor
namespace Go.V
theorem Kj {h:Hp} {a:Addr} {vs:List Value} (r:ax h a vs) (n:Nat):ax h (a.add n) (vs.drop n):=fun j v hv=>by
 rw [S8] at hv
 rw [add_add]
 exact r _ v hv
theorem Kh.Fz {h:Hp} {k:Nat} {x:GA} {o ol on:Option Addr} {n c nl cl nN cn:Nat} {a int:Int} (r:ax h (aM k) (M5 x o n c a int ol nl cl on nN cn)):ax h ((aM k).add 5) [.slice o n c,.int .i64 a,.int .i64 int] :=
 BC (us:=[.slice ol nl cl,.slice on nN cn]) (Kj r 5)
end Go.V
namespace Go.Proofs.YtngdohpikfcifaaGreatDoor
open Go.V
variable {w:World} {L:List aw} {g:af} {x:GA} {ss:List SQ} {nn:List Bool}
theorem MO {k:Nat} (hw:Kh (hp w) g ss nn k) (hc:av g) (hA:bG g ss) (hnn:pM g nn):aC Tryz.prog j1 [.pointer (some (aM k))] w fun v w'=>∃ (o:Option Addr) (c:Nat) (ds:List (Lq Int)),v = .slice o ds.length c∧ds.map (·.2) = ry g nn ss∧St w' (own 1 o ds.length c (ds.map bF) :: aT (ds.map (bX 1 iv)) :: all w):=by
 obtain ⟨x',o,c',a',int,ol,cl,on,cn,rk,hg,hs,rT,rN⟩:=hw.ex
 have rA:=Kh.Fz rk
 have hkl:=hA.wz hc
 obtain ⟨sT,sN,sP,_,_,_⟩:=hc.eD
 have h256:=hA.dn.2.1
 have hnl:=fL hc hA
 have hTl:g.T = x'.tl:=hg.t.1
 have hke:∀ q∈ss,q.2.2.length≤130:=fun q hq=>(hkl q hq).2
 generalize hTT:aU g ss = T at *
 refine iQ _ w _ ⟨_,_,_,rk.cell (sub.refl _) (j:=8) rfl,⟨by omega,rfl,by omega⟩,?_⟩
 rw [SJ]
 have e0:gG T.length [(Value.slice none 0 0:Value)] = (List.replicate T.length (((none,0),[]):Lq Int)).map bF:=by rw [dB]; simp [bF]
 rw [e0]
 refine ah (St.all w) fun k3 w1 h=>?_
 have hR:=bD.start h
 clear h
 refine ⟨fun z w'=>∃ i:Nat,z = i∧i≤T.length∧bD T.length (fun j=>if j < i then bQ T.length (cY g nn ss j) else []) k3 (all w) w',fun z _=>T.length - z.toNat,⟨0,rfl,Sv _,hR.iff fun j _=>by simp⟩,?_⟩
 clear hR
 rintro _ _ w2 ⟨i,rfl,hi,hR⟩
 have g2:=hR.gw
 refine ⟨_,_,_,rk.cell g2 (j:=8) rfl,ae (fun h1=>?_) fun h1=>?_⟩
 rotate_left
 ·have h1:i = T.length:=by have:=Sj h1; omega
  subst h1
  obtain ⟨ds,hdl,hds,h⟩:=hR.fin
  refine ⟨_,_,ds,by rw [hdl],?_,by rw [hdl]; exact h⟩
  rw [hds]
  unfold ry
  rw [hTT]
  refine TJ fun j hj=>?_
  rw [Sz (SO.1 hj)]
 have h1:i < T.length:=by have:=Si h1; omega
 obtain ⟨t,tad,ht',hta,rt⟩:=fm rT h1
 have ht2:(aU g ss)[i]? = some t:=by rw [hTT]; exact ht'
 obtain ⟨i0,q0,k0,e0',hi0,hq0,he0,hge,hte⟩:=dw (show t∈j6 g ss ss.length from Sl ht2)
 have hnx:eE ss t.st.toNat t.sym = some e0'.to:=by rw [hte]; exact jM hA hq0 he0
 obtain ⟨hto1,hto2⟩:=jj hc hA hnx
 obtain ⟨j0,hj0⟩ : ∃ j0:Nat,e0'.to = j0:=⟨e0'.to.toNat,by omega⟩
 rw [hj0] at hnx
 have hst:t.st = (i0:Int):=by rw [hte]
 intro w3 hd
 have hR:=hR.gr (Gr.drawn hd)
 have g3:=hR.gw
 refine ⟨fun u=>Gr w3 u,Gr.refl _,_,_,_,_,_,fun u s=>rA.at (sub.trans g3 s) rfl,_,_,_,fun u s=>rk.cell (sub.trans g3 s) (j:=8) rfl,ay hta h1 ⟨_,fun u s=>rt.cell0 (sub.trans g3 s),_,_,_,fun u s=>rk.cell (sub.trans g3 s) (j:=8) rfl,ay hta h1 ⟨_,fun u s=>rt.cell (sub.trans g3 s) (j:=1) rfl,?_⟩⟩⟩
 rw [hst]
 refine (G5 (i:=i0) hA (hs.mono g3) hi0 hke h256).mono ?_
 rintro _ w9 ⟨rfl,g39⟩
 have en:yR ss i0 t.sym = (j0:Int):=by unfold yR; rw [← show t.st.toNat = i0 by rw [hst]; rfl,hnx]; rfl
 rw [en]
 have hR:=hR.gr g39
 refine ⟨_,rfl,g39,fun z w'=>∃ k:Nat,z = k∧k≤T.length∧bD T.length (fun j=>if j < i then bQ T.length (cY g nn ss j) else if j = i then bQ k (cY g nn ss i) else []) k3 (all w) w',fun z _=>T.length - z.toNat,⟨0,rfl,Sv _,hR.iff fun j _=>by by_cases e:j < i <;> simp [e,bQ]⟩,?_⟩
 clear hR
 rintro _ _ w10 ⟨m,rfl,hm,hR⟩
 have g10:=hR.gw
 refine ⟨_,_,_,rk.cell g10 (j:=8) rfl,ae (fun h2=>?_) fun h2=>?_⟩
 rotate_left
 ·have h2:m = T.length:=by have:=Sj h2; omega
  subst h2
  refine ⟨⟨by omega,by omega⟩,⟨i + 1,by simp,h1,hR.iff fun j _=>?_⟩,bA h1⟩
  by_cases e:j < i
  ·rw [Sz e,Sz (by omega)]
  ·by_cases e2:j = i
   ·subst e2; rw [Sr e,Sz rfl,Sz (by omega)]
   ·rw [Sr e,Sr e2,Sr (by omega)]
 have h2:m < T.length:=by have:=Si h2; omega
 obtain ⟨u,uad,hu,hua,ru⟩:=fm rT h2
 rw [hta] at hua; cases hua
 have hu2:(aU g ss)[m]? = some u:=by rw [hTT]; exact hu
 obtain ⟨i1,q1,k1',e1,hi1,hq1,he1,hge1,hue⟩:=dw (show u∈j6 g ss ss.length from Sl hu2)
 obtain ⟨hu1,hu2',_⟩:=fl hc hA hq1 he1
 have husym:u.sym = e1.sym:=by rw [hue]
 obtain ⟨v,hv⟩ : ∃ v:Nat,u.sym - (x'.tl:Int) = v:=⟨(u.sym - (x'.tl:Int)).toNat,by omega⟩
 have hvN:v < g.N:=by omega
 have hvan:kF g nn u.sym = bn nn v:=by
  unfold kF
  rw [S2 (show (g.T:Int)≤u.sym by omega),TS,show u.sym.toNat - g.T = v by omega]
 obtain ⟨bb,bad,hb1,hba,hb2⟩:=rN.bL hvN
 have hfn:bn nn v = bb:=nJ hb1
 have hrd:cY g nn ss i m = (decide (u.st = (j0:Int)) && bb):=by
  unfold cY
  rw [ht2,hu2]
  show (decide (eE ss t.st.toNat t.sym = some u.st) && kF g nn u.sym) = _
  rw [hnx,hvan,hfn]
  congr 1
  rw [decide_eq_decide]
  constructor
  ·intro h; exact (Option.some.inj h).symm
  ·intro h; rw [h]
 intro w11 hd2
 have hR:=hR.gr (Gr.drawn hd2)
 have g11:=hR.gw
 have skip:cY g nn ss i m = false→aG ((m:Int) + 1)∧(∃ m' : Nat,(m:Int) + 1 = m'∧m'≤T.length∧bD T.length (fun j=>if j < i then bQ T.length (cY g nn ss j) else if j = i then bQ m' (cY g nn ss i) else []) k3 (all w) w11)∧T.length - ((m:Int) + 1).toNat < T.length - (m:Int).toNat:=fun e=>by
  have e5:bQ (m + 1) (cY g nn ss i) = bQ m (cY g nn ss i):=by rw [yf,e]; simp
  refine ⟨⟨by omega,by omega⟩,⟨m + 1,by simp,h2,hR.iff fun j _=>?_⟩,bA h2⟩
  rw [e5]
 refine ⟨fun u=>Gr w11 u,Gr.refl _,_,_,_,fun u s=>rk.cell (sub.trans g11 s) (j:=8) rfl,ay hta h2 ⟨_,fun u s=>ru.cell0 (sub.trans g11 s),ae (fun h3=>?_) fun h3=>skip ?_⟩⟩
 rotate_left
 ·have h3:u.st≠(j0:Int):=by simpa using h3
  rw [hrd,TD h3]; rfl
 have h3:u.st = (j0:Int):=by simpa using h3
 refine ⟨_,_,_,fun u s=>rk.cell (sub.trans g11 s) (j:=9) rfl,_,_,_,fun u s=>rk.cell (sub.trans g11 s) (j:=8) rfl,ay hta h2 ⟨_,fun u s=>ru.cell (sub.trans g11 s) (j:=1) rfl,_,_,_,fun u s=>rk.cell0 (sub.trans g11 s),⟨by omega,by omega⟩,?_⟩⟩
 rw [hv]
 refine aq hba hvN ⟨bb,fun u s=>hb2 _ (sub.trans g11 s),ae (fun h4=>?_) fun h4=>skip (by rw [hrd,h4,Bool.and_false])⟩
 obtain ⟨q,es,hqf,hesl,hV,h,back⟩:=hR.take h1
 simp only [Sr (Nat.lt_irrefl i),if_true] at hqf
 have hql:q.2.length≤m:=by rw [hqf]; exact fp _ _
 refine aq rfl h1 ⟨_,_,_,(ai 2 h.l).cell (sub.refl _) (j:=i) hV,ah h fun k24 w19 h=>?_⟩
 refine (aQ (us:=iv q.2) aK (rfl:ag Ty _ = .slice _) (rfl:ag Ty _ = .slice _) rfl rfl rfl h rfl (by simp [aS]) (by show (q.2.length + 1) * 8≤_; omega) (by omega)).mono ?_
 rintro _ w20 ⟨o',c'',rfl,h⟩
 refine ⟨_,_,_,rfl,aq rfl h1 ?_⟩
 rw [aO]
 refine bg (h.pick 4 [3,0,2]) (by rw [Ss]; omega) fun w21 h=>⟨⟨by omega,by omega⟩,⟨m + 1,by simp,h2,?_⟩,bA h2⟩
 have e2:(q.2 ++ [(m:Int)]).length = q.2.length + 1:=by simp
 have h:St w21 (own 1 o' (q.2 ++ [(m:Int)]).length c'' (iv (q.2 ++ [(m:Int)])) :: aT ((es.map (bX 1 iv)).eraseIdx i) :: aR k3 ((es.map bF).set i (.slice o' (q.2 ++ [(m:Int)]).length c'')) :: all w):=by
  rw [e2,show iv (q.2 ++ [(m:Int)]) = iv q.2 ++ [.int .i64 (m:Int)] by simp [iv]]
  exact h.pick 3 [1,2,0]
 refine (back _ _ _ _ _ h).iff fun j _=>?_
 by_cases e:j = i
 ·subst e
  rw [Sz rfl,Sr (Nat.lt_irrefl j),Sz rfl,yf,Sz (by rw [hrd,h4,S2 h3]; rfl),hqf]
 ·rw [Sr e]
  by_cases e3:j < i
  ·rw [Sz e3,Sz e3]
  ·rw [Sr e3,Sr e3,Sr e,Sr e]
end Go.Proofs.YtngdohpikfcifaaGreatDoor
namespace Go.V
theorem MP {xs:List Int} {n:Int} {at_:Nat} (hs:dp xs) (h1:∀ y∈xs.take at_,y < n) (h2:∀ y,xs[at_]? = some y→n < y):dp (xs.take at_ ++ n :: xs.drop at_)∧∀ z,z∈xs.take at_ ++ n :: xs.drop at_↔z∈xs∨z = n:=by
 have hd:∀ y∈xs.drop at_,n < y:=fun y hy=>by
  obtain ⟨j,hj⟩:=SP hy
  rw [S8] at hj
  have hlt:=(Sk.1 hj).1
  have ha:xs[at_]? = some xs[at_]:=Sm (by omega)
  have h3:=h2 _ ha
  by_cases e:j = 0
  ·subst e; rw [Nat.add_zero,ha] at hj; cases hj; exact h3
  ·have:=I_ hs ha hj (by omega); omega
 refine ⟨?_,fun z=>?_⟩
 ·unfold dp at hs ⊢
  rw [List.pairwise_append,Tu]
  refine ⟨hs.sublist (List.take_sublist _ _),⟨hd,hs.sublist (List.drop_sublist _ _)⟩,fun a ha b hb=>?_⟩
  have h3:=h1 a ha
  rcases SA.1 hb with rfl | hb
  ·exact h3
  ·have:=hd b hb; omega
 ·rw [Sp,SA]
  have e:z∈xs↔z∈xs.take at_∨z∈xs.drop at_:=by rw [← Sp,S5]
  rw [e]
  constructor
  ·rintro (h | h | h)
   ·exact .inl (.inl h)
   ·exact .inr h
   ·exact .inl (.inr h)
  ·rintro ((h | h) | h)
   ·exact .inl h
   ·exact .inr (.inr h)
   ·exact .inr (.inl h)
end Go.V
namespace Go.Proofs.YtngdohpikfcifaaGreatDoor
open Go.V
variable {w:World} {L:List aw} {g:af} {x:GA} {ss:List SQ} {nn:List Bool}
theorem O9 {a:Option Addr} {l c:Nat} {xs:List Int} {n:Int} (h:St w (own 1 a l c (iv xs) :: L)) (hs:dp xs) (hb:(l + 1) * 8≤140737488355328):aC Tryz.prog jZ [.slice a l c,.int .i64 n] w fun v w'=>∃ (a' : Option Addr) (c' : Nat) (xs' : List Int),v = .slice a' xs'.length c'∧dp xs'∧(∀ z,z∈xs'↔z∈xs∨z = n)∧xs'.length≤xs.length + 1∧St w' (own 1 a' xs'.length c' (iv xs') :: L):=by
 have hln:xs.length = l:=by have:=ea h; rw [gi] at this; omega
 have hlc:=dJ h
 have rx:aW (hp w) xs a l:=b8 hln (gB 0 h.l)
 refine iz _ _ _ _ w _ ⟨fun z w'=>∃ at_:Nat,z = at_∧at_≤l∧(∀ y∈xs.take at_,y < n)∧(∀ y,xs[at_]? = some y→n≤y)∧w' = w,⟨fun z w'=>∃ at_:Nat,z = at_∧at_≤l∧(∀ y∈xs.take at_,y < n)∧w' = w,fun z _=>l - z.toNat,⟨0,rfl,Sv _,by simp,rfl⟩,?_⟩,?_⟩
 ·rintro _ _ w1 ⟨at_,rfl,hat,h1,rfl⟩
  refine ae (fun h2=>?_) fun h2=>?_
  ·have h2:at_ < l:=by have:=Si h2; omega
   obtain ⟨y,ad,hy1,hya,hy2⟩:=rx.bL h2
   refine aq hya h2 ⟨y,hy2 _ (sub.refl _),ae (fun h3=>?_) fun h3=>?_⟩
   ·have h3:=Si h3
    refine ⟨⟨by omega,by omega⟩,⟨at_ + 1,by simp,h2,fun z hz=>?_,rfl⟩,bA h2⟩
    rw [aV hy1,Sp,SE] at hz
    rcases hz with hz | rfl
    ·exact h1 z hz
    ·exact h3
   ·have h3:=Sj h3
    refine ⟨at_,rfl,hat,h1,fun z hz=>?_,rfl⟩
    rw [hy1] at hz; cases hz; omega
  ·have h2:at_ = l:=by have:=Sj h2; omega
   refine ⟨at_,rfl,hat,h1,fun z hz=>?_,rfl⟩
   have:=(Sk.1 hz).1
   omega
 rintro _ _ w2 ⟨at_,rfl,hat,h1,h2,e2⟩
 have h:=h.eq (by rw [e2] : hp w2 = hp w)
 have rx:aW (hp w2) xs a l:=by rw [e2]; exact rx
 have fin:(∀ y,xs[at_]? = some y→n < y)→∀ {w6:World} {o5:Option Addr} {c5:Nat},St w6 (own 1 o5 (0 + at_ + 1 + (l - at_)) c5 ([] ++ (xs.take at_).map gO.val ++ [.int .i64 n] ++ (xs.drop at_).map gO.val) :: L)→∃ (a' : Option Addr) (c' : Nat) (xs' : List Int),(.slice o5 (0 + at_ + 1 + (l - at_)) c5:Value) = .slice a' xs'.length c'∧dp xs'∧(∀ z,z∈xs'↔z∈xs∨z = n)∧xs'.length≤xs.length + 1∧St w6 (own 1 a' xs'.length c' (iv xs') :: L):=fun h3 {w6 o5 c5} h=>by
  obtain ⟨r1,r2⟩:=MP hs h1 h3
  have el:(xs.take at_ ++ n :: xs.drop at_).length = 0 + at_ + 1 + (l - at_):=by simp; omega
  refine ⟨o5,c5,xs.take at_ ++ n :: xs.drop at_,by rw [el],r1,r2,by rw [el]; omega,?_⟩
  rw [el]
  have e:iv (xs.take at_ ++ n :: xs.drop at_) = [] ++ (xs.take at_).map gO.val ++ [.int .i64 n] ++ (xs.drop at_).map gO.val:=by
   unfold iv
   rw [SU,S0,To,SI]
   rfl
  rw [e]
  exact h
 refine ae (fun h3=>?_) fun h3=>?_
 ·have h3:at_ < l:=by have:=Si h3; omega
  obtain ⟨y,ad,hy1,hya,hy2⟩:=rx.bL h3
  refine aq hya h3 ⟨y,hy2 _ (sub.refl _),ae (fun h4=>?_) fun h4=>?_⟩
  ·have h4:y = n:=by simpa using h4
   subst h4
   refine ⟨a,c,xs,by rw [hln],hs,fun z=>⟨.inl,fun h=>h.elim id fun h=>by rw [h]; exact Sl hy1⟩,by omega,by rw [hln]; exact h⟩
  have h4:y≠n:=by simpa using h4
  have hne:∀ z,xs[at_]? = some z→n < z:=fun z hz=>by
   have:=h2 z hz
   rw [hy1] at hz; cases hz
   omega
  refine kR (by omega) ?_
  rw [N7]
  refine (AF (us:=[]) (xs:=xs.take at_) aK (rfl:ag Ty _ = .slice _) (rfl:ag Ty _ = .slice _) rfl rfl rfl (aB 1 h) rfl (rx.take (k:=at_) (by omega)) (fun x=>rfl) (by show (0 + at_) * 8≤_; omega) (by omega)).mono ?_
  rintro _ w3 ⟨o2,c2,rfl,h⟩
  refine ⟨_,_,_,rfl,ah h fun k5 w4 h=>?_⟩
  refine (aQ (us:=[] ++ (xs.take at_).map gO.val) aK (rfl:ag Ty _ = .slice _) (rfl:ag Ty _ = .slice _) rfl rfl rfl h rfl (by simp [aS]) (by show (0 + at_ + 1) * 8≤_; omega) (by omega)).mono ?_
  rintro _ w5 ⟨o3,c3,rfl,h⟩
  have rx5:aW (hp w5) xs a l:=b8 hln (gB 2 h.l)
  refine ⟨_,_,_,rfl,cJ (by omega) hlc ?_⟩
  refine (AF (xs:=xs.drop at_) aK (rfl:ag Ty _ = .slice _) (rfl:ag Ty _ = .slice _) rfl rfl rfl h rfl (rx5.drop (k:=at_) (m:=c) (by omega) hlc) (fun x=>rfl) (by show (0 + at_ + 1 + (l - at_)) * 8≤_; omega) (by omega)).mono ?_
  rintro _ w6 ⟨o5,c5,rfl,h⟩
  exact ⟨_,_,_,rfl,fin hne (h.pick 3 [0])⟩
 ·have hne:∀ z,xs[at_]? = some z→n < z:=fun z hz=>by
   have:=(Sk.1 hz).1
   have:=Sj h3
   omega
  refine kR (by omega) ?_
  rw [N7]
  refine (AF (us:=[]) (xs:=xs.take at_) aK (rfl:ag Ty _ = .slice _) (rfl:ag Ty _ = .slice _) rfl rfl rfl (aB 1 h) rfl (rx.take (k:=at_) (by omega)) (fun x=>rfl) (by show (0 + at_) * 8≤_; omega) (by omega)).mono ?_
  rintro _ w3 ⟨o2,c2,rfl,h⟩
  refine ⟨_,_,_,rfl,ah h fun k5 w4 h=>?_⟩
  refine (aQ (us:=[] ++ (xs.take at_).map gO.val) aK (rfl:ag Ty _ = .slice _) (rfl:ag Ty _ = .slice _) rfl rfl rfl h rfl (by simp [aS]) (by show (0 + at_ + 1) * 8≤_; omega) (by omega)).mono ?_
  rintro _ w5 ⟨o3,c3,rfl,h⟩
  have rx5:aW (hp w5) xs a l:=b8 hln (gB 2 h.l)
  refine ⟨_,_,_,rfl,cJ (by omega) hlc ?_⟩
  refine (AF (xs:=xs.drop at_) aK (rfl:ag Ty _ = .slice _) (rfl:ag Ty _ = .slice _) rfl rfl rfl h rfl (rx5.drop (k:=at_) (m:=c) (by omega) hlc) (fun x=>rfl) (by show (0 + at_ + 1 + (l - at_)) * 8≤_; omega) (by omega)).mono ?_
  rintro _ w6 ⟨o5,c5,rfl,h⟩
  exact ⟨_,_,_,rfl,fin hne (h.pick 3 [0])⟩
end Go.Proofs.YtngdohpikfcifaaGreatDoor
namespace Go.V
def kV (n:Nat) (P:Nat→Int→Prop) (B k:Nat) (L:List aw) (w:World):Prop:=∃ f:Nat→List Int,(∀ j,j < n→dp (f j)∧(∀ z,z∈f j↔P j z)∧(f j).length≤B)∧bD n f k L w
theorem kV.gr {n B k:Nat} {P:Nat→Int→Prop} {L:List aw} {w w' : World} (h:kV n P B k L w) (g:Gr w w'):kV n P B k L w':=by
 obtain ⟨f,h1,h2⟩:=h
 exact ⟨f,h1,h2.gr g⟩
theorem kV.gw {n B k:Nat} {P:Nat→Int→Prop} {w0 w:World} (h:kV n P B k (all w0) w):Gr w0 w:=by
 obtain ⟨f,h1,h2⟩:=h
 exact h2.gw
theorem kV.iff {n B k:Nat} {P Q:Nat→Int→Prop} {L:List aw} {w:World} (h:kV n P B k L w) (e:∀ j z,j < n→(P j z↔Q j z)):kV n Q B k L w:=by
 obtain ⟨f,h1,h2⟩:=h
 exact ⟨f,fun j hj=>⟨(h1 j hj).1,fun z=>by rw [(h1 j hj).2.1 z,e j z hj],(h1 j hj).2.2⟩,h2⟩
end Go.V
namespace Go.Proofs.YtngdohpikfcifaaGreatDoor
open Go.V
variable {w:World} {L:List aw} {g:af} {x:GA} {ss:List SQ} {nn:List Bool}
theorem F0 {k:Nat} (hw:Kh (hp w) g ss nn k) (hb:iM g) (hc:av g) (hA:bG g ss) (hnn:pM g nn):aC Tryz.prog iy [.pointer (some (aM k))] w fun v w'=>∃ (o:Option Addr) (c:Nat) (ds:List (Lq Int)),v = .slice o ds.length c∧ds.map (·.2) = tA g nn ss∧St w' (own 1 o ds.length c (ds.map bF) :: aT (ds.map (bX 1 iv)) :: all w):=by
 obtain ⟨x',o,c',a',int,ol,cl,on,cn,rk,hg,hs,rT,rN⟩:=hw.ex
 have rA:=Kh.Fz rk
 have hkl:=hA.wz hc
 obtain ⟨sT,sN,sP,sP2,_,_⟩:=hc.eD
 have h256:=hA.dn.2.1
 have hnl:=fL hc hA
 have pl:=hg.p.1
 have hke:∀ q∈ss,q.2.2.length≤130:=fun q hq=>(hkl q hq).2
 have hnx:∀ i s j,eE ss i s = some j→0≤j∧j < ss.length:=fun i s j h=>jj hc hA h
 obtain ⟨n,hn⟩ : ∃ n,(aU g ss).length = n:=⟨_,rfl⟩
 have rT0:=rT
 rw [hn] at rk rT hnl
 refine gE _ w _ ⟨_,_,_,rk.cell (sub.refl _) (j:=8) rfl,⟨by omega,rfl,by omega⟩,?_⟩
 rw [SJ]
 have e0:gG n [(Value.slice none 0 0:Value)] = (List.replicate n (((none,0),[]):Lq Int)).map bF:=by rw [dB]; simp [bF]
 rw [e0]
 refine ah (St.all w) fun k3 w1 h=>?_
 have hR:kV n (jT g nn ss 0) 0 k3 (all w) w1:=⟨_,fun j _=>⟨by simp [dp],fun z=>⟨fun h=>by simp at h,fun h=>by obtain ⟨_,_,h,_⟩:=h; omega⟩,by simp⟩,bD.start h⟩
 clear h
 refine ⟨fun z w'=>∃ (i B:Nat),z = i∧i≤n∧B≤i * 30000∧kV n (jT g nn ss i) B k3 (all w) w',fun z _=>n - z.toNat,⟨0,0,rfl,Sv _,Sv _,hR⟩,?_⟩
 clear hR
 rintro _ _ w2 ⟨i,B0,rfl,hi,hB0,hR⟩
 have g2:=hR.gw
 refine ⟨_,_,_,rk.cell g2 (j:=8) rfl,ae (fun h1=>?_) fun h1=>?_⟩
 rotate_left
 ·have h1:i = n:=by have:=Sj h1; omega
  subst h1
  obtain ⟨f,hf,hC⟩:=hR
  obtain ⟨ds,hdl,hds,h⟩:=hC.fin
  refine ⟨_,_,ds,by rw [hdl],?_,by rw [hdl]; exact h⟩
  rw [hds]
  unfold tA
  rw [hn]
  refine TJ fun j hj=>?_
  obtain ⟨r1,r2,_⟩:=hf j (SO.1 hj)
  refine sL r1 (mU _ _) fun z=>?_
  rw [r2 z,← hn]
  exact jT.all hA
 have h1:i < n:=by have:=Si h1; omega
 obtain ⟨t,tad,ht,hta,rt⟩:=fm rT h1
 obtain ⟨i0,q0,k0,e0',hi0,hq0,he0,hge,hte⟩:=dw (Sl ht)
 have hst0:0≤t.st:=by rw [hte]; exact S_ _
 have hst1:t.st < ss.length:=by rw [hte]; show (i0:Int) < _; omega
 refine ⟨fun z w'=>∃ (m B:Nat),z = ((m + 1:Nat):Int)∧m + 1≤x'.pl∧B≤B0 + m * 300∧kV n (fun j z=>jT g nn ss i j z∨z = i∧lM g nn ss t (xg g (m + 1) t.sym) j) B k3 (all w) w',fun z _=>x'.pl - z.toNat,
  ⟨0,B0,rfl,by omega,by omega,hR.iff fun j z _=>⟨.inl,fun h=>h.elim id fun h=>by
   obtain ⟨_,m',hm',_⟩:=h
   have:=(S7.1 hm')
   have h2:=this.1
   unfold JT at h2
   have h3:=SO.1 (S7.1 h2).1
   have h4:=Si this.2
   omega⟩⟩,?_⟩
 clear hR
 rintro _ _ w3 ⟨m,B1,rfl,hm,hB1,hR⟩
 have g3:=hR.gw
 refine ⟨_,_,_,rk.cell g3 (j:=4) rfl,ae (fun h2=>?_) fun h2=>?_⟩
 rotate_left
 ·have h2:m + 1 = x'.pl:=by have:=Sj h2; omega
  refine ⟨⟨by omega,by omega⟩,⟨i + 1,B1,by simp,h1,by omega,hR.iff fun j z _=>?_⟩,bA h1⟩
  rw [jT.succ ht,h2,← pl]
 have h2:m + 1 < x'.pl:=by have:=Si h2; omega
 obtain ⟨p,pad,pvs,hp1,hpa,hp2,ra,rl,rc,rfl,hrc,hp3⟩:=hg.p.get h2
 have hpr:=Sl hp1
 have rl1:=hp3.1
 have b7:=hb.2.2.2.2.2.2 p hpr
 refine ⟨_,_,_,rk.cell g3 (j:=4) rfl,ay hpa h2 ⟨_,_,_,hp2.cell g3 (j:=1) rfl,?_⟩⟩
 intro w4 hd
 have hR:=hR.gr (Gr.drawn hd)
 have g4:=hR.gw
 refine ⟨fun u=>Gr w4 u,Gr.refl _,_,_,_,fun u s=>rk.cell (sub.trans g4 s) (j:=4) rfl,ay hpa h2 ⟨_,fun u s=>hp2.cell0 (sub.trans g4 s),_,_,_,fun u s=>rk.cell (sub.trans g4 s) (j:=8) rfl,ay hta h1 ⟨_,fun u s=>rt.cell (sub.trans g4 s) (j:=1) rfl,ae (fun h3=>?_) fun h3=>?_⟩⟩⟩
 ·have h3:p.left≠t.sym:=by simpa using h3
  refine ⟨⟨by omega,by omega⟩,⟨m + 1,B1,by simp,by omega,by omega,hR.iff fun j z _=>?_⟩,bA h2⟩
  rw [rz hp1,Sr (fun h=>h3 h.1.symm),S6]
 have h3:p.left = t.sym:=by simpa using h3
 obtain ⟨i0',q',e1',hq',hcl'⟩:=Bn hc hA ht hp1 h3
 have hrl:=ye hc hA hq' hp1 hcl'
 obtain ⟨jw,_,hjw,hjl,_⟩:=nX hc hA hp1 p.right.length 0 (by omega) i0' q' hq' (by simpa using hcl')
 rw [List.drop_zero,← e1'] at hjw
 have hway:∀ k,0≤bM ss t.st (p.right.take k)∧bM ss t.st (p.right.take k) < ss.length:=fun k=>by
  rcases wG hnx (p.right.take k) t.st hst0 hst1 with e | e
  ·have h5:=q_ hnx (p.right.drop k) (p.right.take k) t.st hst0 hst1
   rw [S5,Sz e,hjw] at h5
   omega
  ·exact e
 have hrow:∀ s∈p.right,0≤s∧s < g.T + g.N:=fun s hs=>by have:=hc.sym hpr hs; omega
 refine ⟨_,_,_,rk.cell g4 (j:=8) rfl,ay hta h1 ⟨_,rt.cell0 g4,fun a z w'=>∃ (k B:Nat),a = bM ss t.st (p.right.take k)∧z = k∧k≤rl∧B≤B1 + k∧kV n (fun j z=>(jT g nn ss i j z∨z = i∧lM g nn ss t (xg g (m + 1) t.sym) j)∨z = i∧wP g nn ss t p k j) B k3 (all w) w',fun _ z _=>rl - z.toNat,
  ⟨0,B1,rfl,rfl,Sv _,by omega,hR.iff fun j z _=>⟨.inl,fun h=>h.elim id fun h=>by obtain ⟨_,_,_,h,_⟩:=h; omega⟩⟩,?_⟩⟩
 clear hR
 rintro _ _ _ w9 ⟨kk,B2,rfl,rfl,hkk,hB2,hR⟩
 have g9:=hR.gw
 refine ae (fun h4=>vQ (S2 (hway kk).1) ?_) fun h4=>?_
 rotate_left
 ·have h4:kk = rl:=by have:=Sj h4; omega
  subst h4
  refine ⟨⟨by omega,by omega⟩,⟨m + 1,B2,by simp,by omega,by omega,hR.iff fun j z _=>?_⟩,bA h2⟩
  rw [rz hp1,Sz ⟨h3.symm,by omega⟩,lM.snoc hp1,← rl1]
  constructor
  ·rintro ((h | h) | h)
   ·exact .inl h
   ·exact .inr ⟨h.1,.inl h.2⟩
   ·exact .inr ⟨h.1,.inr h.2⟩
  ·rintro (h | ⟨h,h2 | h2⟩)
   ·exact .inl (.inl h)
   ·exact .inl (.inr ⟨h,h2⟩)
   ·exact .inr ⟨h,h2⟩
 have h4:kk < rl:=by have:=Si h4; omega
 obtain ⟨y,ad,hy1,hya,hy2⟩:=hp3.bL h4
 obtain ⟨wq,hwq⟩ : ∃ wq:Nat,bM ss t.st (p.right.take kk) = wq:=⟨(bM ss t.st (p.right.take kk)).toNat,by have:=(hway kk).1; omega⟩
 have hwql:wq < ss.length:=by have:=(hway kk).2; omega
 have hsucc:∀ (P:Nat→Int→Prop) j z,((jT g nn ss i j z∨z = i∧lM g nn ss t (xg g (m + 1) t.sym) j)∨z = i∧wP g nn ss t p (kk + 1) j)↔(((jT g nn ss i j z∨z = i∧lM g nn ss t (xg g (m + 1) t.sym) j)∨z = i∧wP g nn ss t p kk j)∨(z = i∧mW g ss ⟨bM ss t.st (p.right.take kk),y⟩ = (j:Int) + 1∧rr g nn (p.right.drop (kk + 1)) = true)):=fun _ j z=>by
  rw [wP.succ hy1]
  constructor
  ·rintro (h | ⟨h,h2 | h2⟩)
   ·exact .inl (.inl h)
   ·exact .inl (.inr ⟨h,h2⟩)
   ·exact .inr ⟨h,h2⟩
  ·rintro ((h | h) | h)
   ·exact .inl h
   ·exact .inr ⟨h.1,.inl h.2⟩
   ·exact .inr ⟨h.1,.inr h.2⟩
 intro w10 hd2
 have hR:=hR.gr (Gr.drawn hd2)
 have g10:=hR.gw
 refine ⟨fun u=>Gr w10 u,Gr.refl _,_,_,_,fun u s=>rk.cell (sub.trans g10 s) (j:=8) rfl,aq hya h4 ⟨y,fun u s=>hy2 _ (sub.trans g10 s),?_⟩⟩
 rw [← hn]
 refine (MN hA (rT0.mono g10) (by omega)).mono ?_
 rintro _ w13 ⟨rfl,e13⟩
 rw [hn]
 refine ⟨_,rfl,by rw [e13]; exact Gr.refl _,fun w'=>∃ B',B'≤B2 + 1∧kV n (fun j z=>(jT g nn ss i j z∨z = i∧lM g nn ss t (xg g (m + 1) t.sym) j)∨z = i∧wP g nn ss t p (kk + 1) j) B' k3 (all w) w',?_,?_⟩
 ·rw [e13]
  have nop:(∀ j:Nat,¬(mW g ss ⟨bM ss t.st (p.right.take kk),y⟩ = (j:Int) + 1∧rr g nn (p.right.drop (kk + 1)) = true))→∀ {u:World},Gr w10 u→∃ B',B'≤B2 + 1∧kV n (fun j z=>(jT g nn ss i j z∨z = i∧lM g nn ss t (xg g (m + 1) t.sym) j)∨z = i∧wP g nn ss t p (kk + 1) j) B' k3 (all w) u:=fun hno {u} gu=>by
   refine ⟨B2,by omega,(hR.gr gu).iff fun j z _=>?_⟩
   rw [hsucc (fun _ _=>True)]
   exact ⟨.inl,fun h=>h.elim id fun h=>absurd h.2 (hno j)⟩
  refine ae (fun h5=>?_) fun h5=>nop (fun j h=>by have:=Sj h5; omega) (Gr.refl _)
  have h5:=Si h5
  obtain ⟨u0,hu0,hu1⟩:=rD hA (t:=⟨bM ss t.st (p.right.take kk),y⟩) (by omega)
  have hul:u0 < n:=by rw [← hn]; exact (Sk.1 hu1).1
  have ek:(kk:Int) + 1 = ((kk + 1:Nat):Int):=by omega
  have eu:mW g ss ⟨bM ss t.st (p.right.take kk),y⟩ - 1 = (u0:Int):=by omega
  refine ⟨⟨by omega,by omega⟩,?_⟩
  rw [ek]
  refine cJ (by omega) hrc ((Ki (hw.mono g10) hb hnn hc ((hp3.drop (k:=kk + 1) (m:=rc) (by omega) hrc).mono g10) (by omega) fun s hs=>hrow s (Tw hs)).mono ?_)
  rintro _ w14 ⟨rfl,g14⟩
  refine ⟨_,rfl,ae (fun h6=>?_) fun h6=>nop (fun j h=>by rw [h.2] at h6; cases h6) g14⟩
  obtain ⟨f,hf,hC⟩:=hR.gr g14
  obtain ⟨q,es,hqf,hesl,hV,h,back⟩:=hC.take hul
  obtain ⟨f1,f2,f3⟩:=hf u0 hul
  rw [eu]
  refine aq rfl hul ⟨_,_,_,(ai 2 h.l).cell (sub.refl _) (j:=u0) hV,(O9 (n:=(i:Int)) h (by rw [hqf]; exact f1) (by rw [hqf]; omega)).mono ?_⟩
  rintro _ w15 ⟨a2,c2,xs',rfl,hx1,hx2,hx3,h⟩
  refine ⟨_,_,_,rfl,aq rfl hul ?_⟩
  rw [aO]
  refine bg (h.pick 3 [2,0,1]) (by rw [Ss]; omega) fun w16 h=>?_
  have hC:=back _ _ _ _ _ (h.pick 3 [1,2,0])
  refine ⟨B2 + 1,SF _,_,fun j hj=>?_,hC⟩
  by_cases e:j = u0
  ·subst e
   simp only [if_true]
   refine ⟨hx1,fun z=>?_,by rw [hqf] at hx3; omega⟩
   rw [hx2 z,hqf,f2 z,hsucc (fun _ _=>True)]
   constructor
   ·rintro (h | h)
    ·exact .inl h
    ·exact .inr ⟨h,hu0,h6⟩
   ·rintro (h | h)
    ·exact .inl h
    ·exact .inr h.1
  ·simp only [Sr e]
   obtain ⟨r1,r2,r3⟩:=hf j hj
   refine ⟨r1,fun z=>?_,by omega⟩
   rw [r2 z,hsucc (fun _ _=>True)]
   exact ⟨.inl,fun h=>h.elim id fun h=>absurd (by have:=h.2.1; omega:j = u0) e⟩
 rintro _ w17 ⟨B3,hB3,hR⟩
 intro w18 hd3
 have hR:=hR.gr (Gr.drawn hd3)
 have g18:=hR.gw
 rw [hwq]
 refine ⟨fun u=>Gr w18 u,Gr.refl _,_,_,_,_,_,fun u s=>rA.at (sub.trans g18 s) rfl,aq hya h4 ⟨y,fun u s=>hy2 _ (sub.trans g18 s),(G5 (i:=wq) (s:=y) hA (hs.mono g18) hwql hke h256).mono ?_⟩⟩
 rintro _ w21 ⟨rfl,g21⟩
 refine ⟨_,rfl,g21,⟨by omega,by omega⟩,⟨kk + 1,B3,?_,by simp,h4,by omega,hR.gr g21⟩,bA h4⟩
 rw [aV hy1,q_ hnx _ _ _ hst0 hst1,hwq,Sr (by omega),mS,SJ]
 unfold yR
 cases eE ss wq y with
 | none=>rfl
 | some j=>rfl
end Go.Proofs.YtngdohpikfcifaaGreatDoor
namespace Go.Proofs.YtngdohpikfcifaaGreatDoor
open Go.V
variable {w:World} {L:List aw} {a a2:Option Addr} {l c c2:Nat}
theorem yY {xss:List (List Int)} (hx:aW (hp w) xss a l) (hy:aW (hp w) xss a2 l) (hb:l≤4611686018427387904) (hbs:∀ xs∈xss,xs.length≤4611686018427387904):aC Tryz.prog lU [.slice a l c,.slice a2 l c2] w fun v w'=>v = .bool true∧Gr w w':=by
 refine jY _ _ _ _ _ _ w _ (Dq (by simp) ⟨fun z w'=>∃ j:Nat,z = j∧j≤l∧Gr w w',fun z _=>l - z.toNat,⟨0,rfl,Sv _,Gr.refl _⟩,?_⟩)
 rintro _ _ w1 ⟨j,rfl,hj,g1⟩
 refine ae (fun h1=>?_) fun h1=>⟨rfl,g1⟩
 have h1:j < l:=by have:=Si h1; omega
 intro w2 hd
 have g2:Gr w w2:=g1.trans (Gr.drawn hd)
 obtain ⟨x1,ad1,b1,d1,hx1,e1,cx1,rx1⟩:=jU hx h1
 obtain ⟨x2,ad2,b2,d2,hx2,e2,cx2,rx2⟩:=jU hy h1
 rw [hx1] at hx2; cases hx2
 refine ⟨fun u=>Gr w2 u,Gr.refl _,aq e1 h1 ⟨_,_,_,fun u s=>cx1 _ (sub.trans g2 s),aq e2 h1 ⟨_,_,_,fun u s=>cx2 _ (sub.trans g2 s),(uA (rx1.mono g2) (rx2.mono g2) (hbs _ (Sl hx1))).mono ?_⟩⟩⟩
 rintro _ w5 ⟨rfl,e5⟩
 have g5:Gr w2 w5:=Gr.of_eq e5
 exact ⟨_,rfl,g5,Dq rfl ⟨⟨by omega,by omega⟩,⟨j + 1,by simp,h1,g2.trans g5⟩,bA h1⟩⟩
end Go.Proofs.YtngdohpikfcifaaGreatDoor
namespace Go.Proofs.YtngdohpikfcifaaGreatDoor
open Go.V
variable {w:World} {L:List aw} {g:af} {x:GA}
theorem Kk {a:Option Addr} {l c:Nat} {xs:List Int} {n:Int} (rx:aW (hp w) xs a l) (hs:dp xs) (hn:n∈xs) (hb:l≤4611686018427387904):aC Tryz.prog jZ [.slice a l c,.int .i64 n] w fun v w'=>v = .slice a l c∧w' = w:=by
 have hln:=rx.1
 refine iz _ _ _ _ w _ ⟨fun z w'=>∃ at_:Nat,z = at_∧at_≤l∧(∀ y∈xs.take at_,y < n)∧(∀ y,xs[at_]? = some y→n≤y)∧w' = w,⟨fun z w'=>∃ at_:Nat,z = at_∧at_≤l∧(∀ y∈xs.take at_,y < n)∧w' = w,fun z _=>l - z.toNat,⟨0,rfl,Sv _,by simp,rfl⟩,?_⟩,?_⟩
 ·rintro _ _ w1 ⟨at_,rfl,hat,h1,rfl⟩
  refine ae (fun h2=>?_) fun h2=>?_
  ·have h2:at_ < l:=by have:=Si h2; omega
   obtain ⟨y,ad,hy1,hya,hy2⟩:=rx.bL h2
   refine aq hya h2 ⟨y,hy2 _ (sub.refl _),ae (fun h3=>?_) fun h3=>?_⟩
   ·have h3:=Si h3
    refine ⟨⟨by omega,by omega⟩,⟨at_ + 1,by simp,h2,fun z hz=>?_,rfl⟩,bA h2⟩
    rw [aV hy1,Sp,SE] at hz
    rcases hz with hz | rfl
    ·exact h1 z hz
    ·exact h3
   ·have h3:=Sj h3
    refine ⟨at_,rfl,hat,h1,fun z hz=>?_,rfl⟩
    rw [hy1] at hz; cases hz; omega
  ·have h2:at_ = l:=by have:=Sj h2; omega
   refine ⟨at_,rfl,hat,h1,fun z hz=>?_,rfl⟩
   have:=(Sk.1 hz).1
   omega
 rintro _ _ w2 ⟨at_,rfl,hat,h1,h2,rfl⟩
 obtain ⟨k,hk⟩:=SP hn
 have hkl:=(Sk.1 hk).1
 have hka:at_≤k:=TH fun hlt=>by
  have:=h1 n (Sl (i:=k) (by rw [TE,Sz hlt]; exact hk))
  omega
 have hal:at_ < l:=by omega
 obtain ⟨y,ad,hy1,hya,hy2⟩:=rx.bL hal
 have hyn:y = n:=by
  have h3:=h2 y hy1
  by_cases e:at_ = k
  ·subst e; rw [hy1] at hk; exact Option.some.inj hk
  ·have:=I_ hs hy1 hk (by omega); omega
 refine ae (fun h3=>?_) fun h3=>?_
 ·exact aq hya hal ⟨y,hy2 _ (sub.refl _),vQ (by simpa using hyn) ⟨rfl,rfl⟩⟩
 ·have:=Sj h3; omega
end Go.Proofs.YtngdohpikfcifaaGreatDoor
namespace Go.V
open Go.Proofs.YtngdohpikfcifaaGreatDoor
inductive Ro (g:af) (ss:List SQ):Nat→Nat→Prop
 | now (j x:Nat):x < g.T→(eE ss j (x:Int)).isSome→Ro g ss j x
 | via (j k x:Nat) (s:Int):(g.T:Int)≤s→uP g s→eE ss j s = some (k:Int)→Ro g ss k x→Ro g ss j x
section
variable {g:af} {nn:List Bool} {ss:List SQ}
theorem MQ (hn:pM g nn) {s:Int} (h:(g.T:Int)≤s):kF g nn s = true↔uP g s:=by
 unfold kF
 rw [S2 h,TS,hn.2,show ((g.T + (s.toNat - g.T):Nat):Int) = s by omega]
def rest (g:af) (y:aj):List Int:=match g.prods[y.prod.toNat]? with
 | some p=>p.right.drop y.dot.toNat
 | none=>[]
theorem xZ.head {s:Int} {l:List Int} {x:Nat} (h:FH g s x):xZ g (s :: l) x:=⟨0,s,rfl,by simp,h⟩
theorem xZ.skip {s:Int} {l:List Int} {x:Nat} (h:uP g s) (hl:xZ g l x):xZ g (s :: l) x:=by
 obtain ⟨i,y,h1,h2,h3⟩:=hl
 refine ⟨i + 1,y,h1,fun z hz=>?_,h3⟩
 rw [List.take_succ_cons] at hz
 rcases SA.1 hz with rfl | hz
 ·exact h
 ·exact h2 z hz
theorem xZ.left {p:aJ} {x:Nat} (hp:p∈g.prods) (h:xZ g p.right x):FH g p.left x:=by
 obtain ⟨i,s,h1,h2,h3⟩:=h
 exact .pr p i s x hp h1 h2 h3
end
end Go.V
namespace Go.V
open Go.Proofs.YtngdohpikfcifaaGreatDoor
inductive RE (g:af):Int→Nat→Prop
 | st:RE g (g.T:Int) 0
 | fst (p:aJ) (k:Nat) (s:Int) (x:Nat):p∈g.prods→p.right[k]? = some s→xZ g (p.right.drop (k + 1)) x→RE g s x
 | up (p:aJ) (k:Nat) (s:Int) (x:Nat):p∈g.prods→p.right[k]? = some s→FI g (p.right.drop (k + 1))→RE g p.left x→RE g s x
section
variable {g:af} {nn:List Bool} {ss:List SQ}
theorem OH {v:Nat} {t:ak} (ht:(aU g ss)[v]? = some t):(xb g ss).getD v [] = cS g ss t:=by
 unfold xb; rw [Sq,Sn,ht]; rfl
theorem Ql {n:Nat} {f:Nat→Nat→Bool} {v m:Nat}:m∈En ((List.range n).map fun i=>bQ n (f i)) v↔v < n∧m < n∧f v m = true:=by
 unfold En
 rw [Sq]
 by_cases hv:v < n
 ·rw [Sn,TA hv]
  simp only [Tf,Option.getD_some,SG]
  constructor
  ·rintro ⟨z,hz,rfl⟩
   obtain ⟨k,rfl,h1,h2⟩:=gn.1 hz
   exact ⟨hv,h1,h2⟩
  ·rintro ⟨_,h1,h2⟩
   exact ⟨(m:Int),gn.2 ⟨m,rfl,h1,h2⟩,rfl⟩
 ·rw [SH (by simp; omega)]
  simp
  omega
theorem Qm {v m:Nat}:m∈En (ry g nn ss) v↔v < (aU g ss).length∧m < (aU g ss).length∧cY g nn ss v m = true:=Ql
theorem Qn {v:Nat} {t:ak} (hc:av g) (hA:bG g ss) (ht:(aU g ss)[v]? = some t):∃ (i j:Nat) (q r:SQ),t.st = i∧ss[i]? = some q∧(g.T:Int)≤t.sym∧eE ss i t.sym = some (j:Int)∧1≤j∧ss[j]? = some r∧r.1.2 = aF g q.1.2 t.sym:=by
 obtain ⟨i,q,k,e,hi,hq,he,hge,rfl⟩:=dw (Sl ht)
 obtain ⟨_,_,j,r,hj,hj1,hr,hrk,_⟩:=fl hc hA hq he
 exact ⟨i,j,q,r,rfl,hq,hge,by rw [← hj]; exact jM hA hq he,hj1,hr,hrk⟩
theorem Qo {i:Nat} {s j:Int} (h:eE ss i s = some j) (hs:(g.T:Int)≤s):∃ v:Nat,(aU g ss)[v]? = some ⟨(i:Int),s⟩:=by
 obtain ⟨q,k,e,hq,he,rfl,_⟩:=DT h
 exact ⟨_,G8 hq he hs⟩
theorem OI (hc:av g) (hA:bG g ss) {v i j x:Nat} {t:ak} (ht:(aU g ss)[v]? = some t) (hi:t.st = i) (hj:eE ss i t.sym = some (j:Int)):(x:Int)∈(xb g ss).getD v []↔(t = ⟨0,g.start⟩∧x = 0)∨(x < g.T∧(eE ss j (x:Int)).isSome):=by
 have hc':=hc.eD
 obtain ⟨i',j',q,r,h1,h2,h3,h4,h5,h6,_⟩:=Qn hc hA ht
 have:i' = i:=by omega
 subst this
 rw [hj] at h4
 have:j = j':=by have:=Option.some.inj h4; omega
 subst this
 rw [OH ht,wE (j:=j) (q:=r) (by rw [hi]; exact hj) h6,Sp,Mb hA h6,SG]
 refine or_congr ?_ ?_
 ·unfold dm
  by_cases e:t = ⟨0,g.start⟩
  ·rw [Sz e]; simp [e]
  ·rw [Sr e]; simp [e]
 ·constructor
  ·rintro ⟨y,hy,e⟩
   have:y = x:=by have e:(y:Int) = x:=e; omega
   subst this
   obtain ⟨h7,h8⟩:=S7.1 hy
   have h7:=SO.1 h7
   exact ⟨h7,by rw [wF hA h6 (by omega)]; exact h8⟩
  ·rintro ⟨h7,h8⟩
   rw [wF hA h6 (by omega)] at h8
   exact ⟨x,S7.2 ⟨SO.2 h7,h8⟩,rfl⟩
theorem Ro.has (hc:av g) (hA:bG g ss) (hn:pM g nn) {j x:Nat} (h:Ro g ss j x):∀ (v i:Nat) t,(aU g ss)[v]? = some t→t.st = i→eE ss i t.sym = some (j:Int)→dL (ry g nn ss) (xb g ss) v x:=by
 induction h with
 | now j x hx hs=>exact fun v i t ht hi hj=>dL.iff.2 (.inl ((OI hc hA ht hi hj).2 (.inr ⟨hx,hs⟩)))
 | via j k x s hs hnu hk hr ih =>
  intro v i t ht hi hj
  obtain ⟨u,hu⟩:=Qo (g:=g) hk hs
  refine dL.iff.2 (.inr ⟨u,Qm.2 ⟨(Sk.1 ht).1,(Sk.1 hu).1,?_⟩,ih u j _ hu rfl hk⟩)
  unfold cY
  rw [ht,hu]
  simp only [SB,Sy]
  rw [hi]
  exact ⟨hj,(MQ hn hs).2 hnu⟩
end
end Go.V
namespace Go.V
open Go.Proofs.YtngdohpikfcifaaGreatDoor
section
variable {g:af} {nn:List Bool} {ss:List SQ} {w w' : World} {v:Value} {a i f:Int}
theorem fq.at {F:af→List Bool→List SQ→List (List Int)} (hF:zI F) (hR:vf g ss a i f) (hn:f = 0→pM g nn) (h:fq F g w v w'):∃ (o:Option Addr) (c:Nat),v = .tuple #[.slice o (aU g ss).length c,.int .i64 f]∧aW (hp w') (F g nn ss) o (aU g ss).length∧Gr w w':=by
 obtain ⟨ss2,ask,int,f2,nn2,o,c,ds,rfl,hR2,hn2,hds,h⟩:=h
 obtain ⟨_,hes,_,_,rfl,_⟩:=hR.one hR2
 have e:F g nn2 ss2 = F g nn ss:=by
  by_cases hf:f = 0
  ·rw [(hn2 hf).inj (hn hf),hF.es hes]
  ·rw [hR.nil hf,hR2.nil hf,hF.nil,hF.nil]
 rw [e] at hds
 have hl:ds.length = (aU g ss).length:=by have:=congrArg List.length hds; rw [Ss,hF.ln] at this; exact this
 have r:=wR h
 rw [hds,hl] at r
 exact ⟨o,c,by rw [hl],r,aZ 2 h.l⟩
end
end Go.V
namespace Go.V
section
variable {n k i j:Nat} {f f0:Nat→List Int} {L:List aw} {A:aw} {w w' w0:World}
theorem bD.eq (h:bD n f k L w) (e:hp w' = hp w):bD n f k L w':=by
 obtain ⟨es,h1,h2,h3⟩:=h
 exact ⟨es,h1,h2,h3.eq e⟩
theorem bD.tail (h:bD n f k (A :: L) w):bD n f k L w:=by
 obtain ⟨es,h1,h2,h3⟩:=h
 exact ⟨es,h1,h2,(h3.pick 3 [2,0,1]).tail⟩
theorem bD.vK (h:bD n f k L w) (h1:St w' (A :: all w)):bD n f k (A :: L) w':=by
 obtain ⟨es,q1,q2,q3⟩:=h
 exact ⟨es,q1,q2,(h1.vK q3).pick 3 [1,2,0]⟩
theorem bD.cell (h:bD n f k L w) (hi:i < n):∃ (o:Option Addr) (c:Nat),w.cell? ((aM k).add i) = some (.slice o (f i).length c):=by
 obtain ⟨q,es,e1,_,e3,h,_⟩:=h.take hi
 refine ⟨q.1.1,q.1.2,?_⟩
 rw [← e1]
 exact (ai 2 h.l).cell (sub.refl _) e3
theorem sO {α : Type} {l:List α} {i:Nat} {x:α} (h:l[i]? = some x):l.set i x = l:=by
 obtain ⟨h1,rfl⟩:=Sk.1 h
 exact List.set_getElem_self h1
theorem bD.Rp (h:bD n f k L w) (hi:i < n) (hj:j < n) (hij:i≠j):∃ (q r:Lq Int) (es:List (Lq Int)) (M:List aw),q.2 = f i∧r.2 = f j∧es.length = n∧(es.map bF)[i]? = some (bF q)∧(es.map bF)[j]? = some (bF r) ∧
  St w (own 1 q.1.1 q.2.length q.1.2 (iv q.2) :: own 1 r.1.1 r.2.length r.1.2 (iv r.2) :: aT M :: aR k (es.map bF) :: L) ∧
  ∀ (w' : World) (L' : List aw) (o:Option Addr) (c:Nat) (xs:List Int),St w' (own 1 o xs.length c (iv xs) :: own 1 r.1.1 r.2.length r.1.2 (iv r.2) :: aT M :: aR k ((es.map bF).set i (.slice o xs.length c)) :: L')→bD n (fun j=>if j = i then xs else f j) k L' w':=by
 have hC:=h
 obtain ⟨es,h1,h2,h3⟩:=h
 obtain ⟨q,hq⟩ : ∃ q,es[i]? = some q:=⟨_,Sm (by omega)⟩
 obtain ⟨r,hr⟩ : ∃ r,es[j]? = some r:=⟨_,Sm (by omega)⟩
 have hA:(es.map (bX 1 iv))[i]? = some (bX 1 iv q):=by rw [Sn,hq]; rfl
 obtain ⟨j',hj'⟩ : ∃ j',((es.map (bX 1 iv)).eraseIdx i)[j']? = some (bX 1 iv r):=by
  by_cases hlt:j < i
  ·exact ⟨j,by rw [List.getElem?_eraseIdx_of_lt hlt,Sn,hr]; rfl⟩
  ·refine ⟨j - 1,?_⟩
   rw [List.getElem?_eraseIdx_of_ge (by omega),show j - 1 + 1 = j by omega,Sn,hr]; rfl
 refine ⟨q,r,es,((es.map (bX 1 iv)).eraseIdx i).eraseIdx j',h2 i q hq,h2 j r hr,h1,by rw [Sn,hq]; rfl,by rw [Sn,hr]; rfl,?_,fun w' L' o c xs h=>?_⟩
 ·have h:=St.out (h3.pick 2 [1,0]) hA
  have h:=St.out (h.pick 2 [1,0]) hj'
  exact h.pick 3 [2,0,1]
 ·have h:=St.back (B:=bX 1 iv r) (h.pick 3 [1,2,0]) hj'
  rw [sO hj'] at h
  have h:=St.back (B:=own 1 o xs.length c (iv xs)) (h.pick 2 [1,0]) hA
  refine ⟨es.set i ((o,c),xs),by rw [SL]; exact h1,fun j r hr=>?_,?_⟩
  ·by_cases e:i = j
   ·subst e
    rw [SY (by omega)] at hr
    cases hr
    show xs = if i = i then xs else f i
    rw [Sz rfl]
   ·rw [SR e] at hr
    show r.2 = if j = i then xs else f j
    rw [Sr (TM e)]
    exact h2 j r hr
  ·rw [show own 1 o xs.length c (iv xs) = bX 1 iv (((o,c),xs):Lq Int) from rfl,← Ta,show (.slice o xs.length c:Value) = bF (((o,c),xs):Lq Int) from rfl,← Ta] at h
   exact h.pick 2 [1,0]
def Jb (f:Nat→List Int) (i:Nat) (xs:List Int):Nat→List Int:=fun j=>if j = i then xs else f j
theorem ft {xs:List Int}:Jb f i xs i = xs:=by unfold Jb; rw [Sz rfl]
theorem oE {xs:List Int} (h:j≠i):Jb f i xs j = f j:=by unfold Jb; rw [Sr h]
def tU (n:Nat) (f:Nat→List Int):Nat:=((List.range n).map fun j=>(f j).length).sum
theorem nk:tU (n + 1) f = tU n f + (f n).length:=by
 unfold tU; rw [TX,SU,List.sum_append]; simp
theorem Jc {xs:List Int}:∀ {n:Nat},i < n→tU n (Jb f i xs) + (f i).length = tU n f + xs.length
 | n + 1,h=>by
  rw [nk,nk]
  by_cases e:i = n
  ·subst e
   rw [ft]
   have:∀ m,m≤i→tU m (Jb f i xs) = tU m f:=by
    intro m
    induction m with
    | zero=>intro _; rfl
    | succ m ih =>
     intro hm
     rw [nk,nk,ih (by omega),oE (by omega)]
   rw [this i (SF _)]
   omega
  ·rw [oE (fun h=>e h.symm)]
   have:=Jc (xs:=xs) (n:=n) (by omega)
   omega
theorem Ed {B:Nat}:∀ {n:Nat},(∀ j,j < n→(f j).length≤B)→tU n f≤n * B
 | 0,_=>by simp [tU]
 | n + 1,h=>by
  rw [nk,TN]
  have:=Ed (n:=n) fun j hj=>h j (by omega)
  have:=h n (by omega)
  omega
theorem Jd {l:List Int} (h:dp l):l.Nodup:=TI.2 (h.imp fun h e=>by omega)
theorem oF {l:List Int} {B:Nat} (h:dp l) (hb:∀ z∈l,0≤z∧z < B):l.length≤B:=by
 have e:l = bQ B fun k=>decide ((k:Int)∈l):=by
  refine sL h (mU _ _) fun z=>?_
  rw [gn]
  constructor
  ·intro hz
   have:=hb z hz
   exact ⟨z.toNat,by omega,by omega,by rw [Sy,show ((z.toNat:Nat):Int) = z by omega]; exact hz⟩
  ·rintro ⟨k,rfl,_,hk⟩
   exact Si hk
 rw [e]
 exact fp _ _
theorem yh:∀ {l m:List Int},l.Nodup→(∀ z∈l,z∈m)→l.length≤m.length
 | [],_,_,_=>Sv _
 | a :: l,m,h,hs=>by
  obtain ⟨h1,h2⟩:=Te.1 h
  have h3:=yh (m:=m.erase a) h2 fun z hz=>(List.mem_erase_of_ne (fun e=>h1 (by rw [← e]; exact hz))).2 (hs z (by simp [hz]))
  have h4:=List.length_erase_of_mem (hs a (by simp))
  have h5:=List.length_pos_of_mem (hs a (by simp))
  simp only [S4]
  omega
theorem MR {l m:List Int} (h:dp l) (hs:∀ z∈l,z∈m):l.length≤m.length:=yh (Jd h) hs
theorem CZ {l m:List Int} (h:dp l) (hm:dp m) (hs:∀ z∈l,z∈m) (hl:m.length≤l.length):l = m:=by
 refine sL h hm fun z=>⟨hs z,fun hz=>Tl fun hn=>?_⟩
 have:=yh (l:=z :: l) (m:=m) (Te.2 ⟨hn,Jd h⟩) fun y hy=>by
  rcases SA.1 hy with rfl | hy
  ·exact hz
  ·exact hs y hy
 simp only [S4] at this
 omega
structure Hy (n:Nat) (f0 f:Nat→List Int) (b:Bool):Prop where
 le:tU n f0≤tU n f
 yes:b = true→tU n f0 < tU n f
 no:b = false→∀ j,j < n→f j = f0 j
theorem Hy.start:Hy n f0 f0 false:=⟨SF _,fun h=>(by cases h),fun _ _ _=>rfl⟩
theorem Hy.step {b:Bool} {xs:List Int} (h:Hy n f0 f b) (hi:i < n) (hr:dp (f i)) (hx:dp xs) (hs:∀ z∈f i,z∈xs):Hy n f0 (Jb f i xs) (b || decide ((f i).length < xs.length)):=by
 have h1:=Jc (f:=f) (xs:=xs) hi
 have h2:=MR hr hs
 have h3:=h.le
 refine ⟨by omega,fun hb=>?_,fun hb j hj=>?_⟩
 ·rw [Tk,Sy] at hb
  rcases hb with hb | hb
  ·have:=h.yes hb; omega
  ·omega
 ·rw [Bool.or_eq_false_iff,SZ] at hb
  have e:=CZ hr hx hs (by omega)
  by_cases e2:j = i
  ·subst e2
   rw [ft,← e]
   exact h.no hb.1 j hj
  ·rw [oE e2]
   exact h.no hb.1 j hj
end
end Go.V
namespace Go.V
open Go.Proofs.YtngdohpikfcifaaGreatDoor
section
variable {g:af} {nn:List Bool} {ss:List SQ} {f f' : Nat→List Int} {n k:Nat}
structure Qp (g:af) (f:Nat→List Int):Prop where
 ri:∀ j,j < g.T + g.N→dp (f j)∧∀ z∈f j,0≤z∧z < g.T
 st:(0:Int)∈f g.T
def F1 (g:af) (f:Nat→List Int) (p:aJ) (k:Nat):Prop:=∀ (k' : Nat) (s:Int),k' < k→p.right[k']? = some s→(∀ x,xZ g (p.right.drop (k' + 1)) x→(x:Int)∈f s.toNat)∧(FI g (p.right.drop (k' + 1))→∀ z∈f p.left.toNat,z∈f s.toNat)
def Kl (g:af) (f:Nat→List Int) (i:Nat):Prop:=∀ (m:Nat) p,m < i→g.prods[m]? = some p→F1 g f p p.right.length
theorem F1.congr (hG:Kq g) {p:aJ} (hp:p∈g.prods) (he:∀ j,j < g.T + g.N→f' j = f j) (h:F1 g f p k):F1 g f' p k:=fun k' s hk hs=>by
 have h1:=hG p hp
 have h2:=h1.2 s (Sl hs)
 rw [he s.toNat (by omega),he p.left.toNat (by omega)]
 exact h k' s hk hs
theorem Kl.congr (hG:Kq g) {i:Nat} (he:∀ j,j < g.T + g.N→f' j = f j) (h:Kl g f i):Kl g f' i:=fun m p hm hp=>(h m p hm hp).congr hG (Sl hp) he
theorem Kl.succ {i:Nat} {p:aJ} (h:Kl g f i) (hp:g.prods[i]? = some p) (h2:F1 g f p p.right.length):Kl g f (i + 1):=fun m p' hm hp'=>by
 by_cases e:m = i
 ·subst e; rw [hp] at hp'; cases hp'; exact h2
 ·exact h m p' (by omega) hp'
theorem F1.succ {p:aJ} {s:Int} (h:F1 g f p k) (hs:p.right[k]? = some s) (h1:∀ x,xZ g (p.right.drop (k + 1)) x→(x:Int)∈f s.toNat) (h2:FI g (p.right.drop (k + 1))→∀ z∈f p.left.toNat,z∈f s.toNat):F1 g f p (k + 1):=fun k' s' hk hs'=>by
 by_cases e:k' = k
 ·subst e; rw [hs] at hs'; cases hs'; exact ⟨h1,h2⟩
 ·exact h k' s' (by omega) hs'
theorem Qp.len (h:Qp g f) {j:Nat} (hj:j < g.T + g.N):(f j).length≤g.T:=oF (h.ri j hj).1 (h.ri j hj).2
theorem Qp.R_ (h:Qp g f):tU (g.T + g.N) f≤(g.T + g.N) * g.T:=Ed fun j hj=>h.len hj
theorem Qp.up (h:Qp g f) {i:Nat} {xs:List Int} (hx:dp xs) (hz:∀ z∈xs,0≤z∧z < g.T) (hs:∀ z∈f i,z∈xs):Qp g (Jb f i xs):=by
 refine ⟨fun j hj=>?_,?_⟩
 ·by_cases e:j = i
  ·subst e; rw [ft]; exact ⟨hx,hz⟩
  ·rw [oE e]; exact h.ri j hj
 ·by_cases e:g.T = i
  ·subst e; rw [ft]; exact hs _ h.st
  ·rw [oE e]; exact h.st
end
end Go.V
namespace Go.Proofs.YtngdohpikfcifaaGreatDoor
open Go.V
abbrev oG:FuncId:=9
def lV:bj:={ rngs:=[],loops:=[],joins:=[],blocks:=[] }
def nm (a:Option Addr) (b c:Nat) (d:Option Addr) (e f:Nat) (g:Option Addr) (i j:Nat) (k:Int) (l:Option Addr) (m n:Nat) (w:World) (R:Value→WP):Prop :=  new w (oC [vS a b c,vS d e f,vS g i j,iI k,vS l m n] 27) fun k1 w1=>∃ o1 k2 k3 o2 k4 k5 o3 k6 k7 n1 o4 k8 k9,V.rowAt w1 (aM k1) 0 5 = some [vS o1 k2 k3,vS o2 k4 k5,vS o3 k6 k7,iI n1,vS o4 k8 k9]∧au Proofs.Tryz.prog Ev 32 [vA (Array.mk [vS o1 k2 k3,vS o2 k4 k5,vS o3 k6 k7,iI n1,vS o4 k8 k9])] w1 fun v1 w2=>∃ o5 k10 k11 o6 k12 k13 o7 k14 k15 n2 o8 k16 k17 o9 k18 k19 n3 n4 o10 k20 k21 o11 k22 k23 n5,v1 = vT (Array.mk [vA (Array.mk [vS o5 k10 k11,vS o6 k12 k13,vS o7 k14 k15,iI n2,vS o8 k16 k17,vS o9 k18 k19,iI n3,iI n4,vS o10 k20 k21,vS o11 k22 k23]),iI n5])∧new w2 (oC [vS none 0 0,vS none 0 0,vS none 0 0,iI 0,vS none 0 0,vS none 0 0,iI 0,iI 0,vS none 0 0,vS none 0 0] 80) fun k24 w3=>iA w3 (aM k24) [vS o5 k10 k11,vS o6 k12 k13,vS o7 k14 k15,iI n2,vS o8 k16 k17,vS o9 k18 k19,iI n3,iI n4,vS o10 k20 k21,vS o11 k22 k23] fun w4=>br (n5 != 0) (R (vT (Array.mk [vS none 0 0,iI n5])) w4) (au Proofs.Tryz.prog Ev 33 [vP (some (aM k24))] w4 fun v2 w5=>∃ o12 k25 k26,v2 = vS o12 k25 k26∧R (vT (Array.mk [vS o12 k25 k26,iI 0])) w5)
theorem lW (a:Option Addr) (b c:Nat) (d:Option Addr) (e f:Nat) (g:Option Addr) (i j:Nat) (k:Int) (l:Option Addr) (m n:Nat) (w:World) (R:Value→WP) (h:nm a b c d e f g i j k l m n w R):aC Tryz.prog 9 [(.agg #[(.slice a b c),(.slice d e f),(.slice g i j),(.int .i64 k),(.slice l m n)])] w R:=rv Tryz.func9 lV (by kernel_rfl) h

abbrev lX:FuncId:=10
def j4:bj:={ rngs:=[],loops:=[],joins:=[],blocks:=[] }
def kM (a:Option Addr) (b c:Nat) (d:Option Addr) (e f:Nat) (g:Option Addr) (i j:Nat) (k:Int) (l:Option Addr) (m n:Nat) (w:World) (R:Value→WP):Prop :=  new w (oC [vS a b c,vS d e f,vS g i j,iI k,vS l m n] 27) fun k1 w1=>∃ o1 k2 k3 o2 k4 k5 o3 k6 k7 n1 o4 k8 k9,V.rowAt w1 (aM k1) 0 5 = some [vS o1 k2 k3,vS o2 k4 k5,vS o3 k6 k7,iI n1,vS o4 k8 k9]∧au Proofs.Tryz.prog Ev 32 [vA (Array.mk [vS o1 k2 k3,vS o2 k4 k5,vS o3 k6 k7,iI n1,vS o4 k8 k9])] w1 fun v1 w2=>∃ o5 k10 k11 o6 k12 k13 o7 k14 k15 n2 o8 k16 k17 o9 k18 k19 n3 n4 o10 k20 k21 o11 k22 k23 n5,v1 = vT (Array.mk [vA (Array.mk [vS o5 k10 k11,vS o6 k12 k13,vS o7 k14 k15,iI n2,vS o8 k16 k17,vS o9 k18 k19,iI n3,iI n4,vS o10 k20 k21,vS o11 k22 k23]),iI n5])∧new w2 (oC [vS none 0 0,vS none 0 0,vS none 0 0,iI 0,vS none 0 0,vS none 0 0,iI 0,iI 0,vS none 0 0,vS none 0 0] 80) fun k24 w3=>iA w3 (aM k24) [vS o5 k10 k11,vS o6 k12 k13,vS o7 k14 k15,iI n2,vS o8 k16 k17,vS o9 k18 k19,iI n3,iI n4,vS o10 k20 k21,vS o11 k22 k23] fun w4=>br (n5 != 0) (R (vT (Array.mk [vS none 0 0,iI n5])) w4) (au Proofs.Tryz.prog Ev 35 [vP (some (aM k24))] w4 fun v2 w5=>∃ o12 k25 k26,v2 = vS o12 k25 k26∧au Proofs.Tryz.prog Ev 33 [vP (some (aM k24))] w5 fun v3 w6=>∃ o13 k27 k28,v3 = vS o13 k27 k28∧au Proofs.Tryz.prog Ev 34 [vS o12 k25 k26,vS o13 k27 k28] w6 fun v4 w7=>∃ o14 k29 k30,v4 = vS o14 k29 k30∧R (vT (Array.mk [vS o14 k29 k30,iI 0])) w7)
theorem j5 (a:Option Addr) (b c:Nat) (d:Option Addr) (e f:Nat) (g:Option Addr) (i j:Nat) (k:Int) (l:Option Addr) (m n:Nat) (w:World) (R:Value→WP) (h:kM a b c d e f g i j k l m n w R):aC Tryz.prog 10 [(.agg #[(.slice a b c),(.slice d e f),(.slice g i j),(.int .i64 k),(.slice l m n)])] w R:=rv Tryz.func10 j4 (by kernel_rfl) h

abbrev oH:FuncId:=33
def lY:bj:={ rngs:=[],loops:=[(3,[(3,(.one .slice)),(4,(.one (.int .i64)))])],joins:=[],blocks:=[] }
def np (a:Option Addr) (w:World) (R:Value→WP):Prop :=  ∃ (x1:lP [(3,js),(4,aI)]),∃ (x2:lN [(3,js),(4,aI)]),x1 none 0 0 0 w∧∀ (I1:Nat→Value) (o1:Option Addr) (k1 k2:Nat) (n1:Int) (w1:World),x1 o1 k1 k2 n1 w1→nn a fun a1=>∃ o2 k3 k4,World.cell? w1 (Addr.add a1 8) = some (vS o2 k3 k4)∧br (decide (n1 < (↑k3:Int))) (∀ w2,drawn w1 w2→∃ (I2:World→Prop),I2 w2∧nn a fun a2=>∃ o3 k5 k6 o4 k7 k8 o5 k9 k10 n2 o6 k11 k12,(∀ w3,I2 w3→V.rowAt w3 a2 0 5 = some [vS o3 k5 k6,vS o4 k7 k8,vS o5 k9 k10,iI n2,vS o6 k11 k12])∧nn a fun a3=>∃ o7 k13 k14 n3 n4,(∀ w4,I2 w4→V.rowAt w4 (Addr.add a3 5) 0 3 = some [vS o7 k13 k14,iI n3,iI n4])∧nn a fun a4=>∃ o8 k15 k16,(∀ w5,I2 w5→World.cell? w5 (Addr.add a4 8) = some (vS o8 k15 k16))∧idx o8 k15 n1 2 fun a5=>∃ n5 n6,(∀ w6,I2 w6→V.rowAt w6 a5 0 2 = some [iI n5,iI n6])∧au Proofs.Tryz.prog Ev 73 [vA (Array.mk [vS o3 k5 k6,vS o4 k7 k8,vS o5 k9 k10,iI n2,vS o6 k11 k12]),vA (Array.mk [vS o7 k13 k14,iI n3,iI n4]),vA (Array.mk [iI n5,iI n6])] w2 fun v1 w7=>∃ o9 k17 k18,v1 = vS o9 k17 k18∧I2 w7∧new w7 (oC [vS o9 k17 k18] 24) fun k19 w8=>I2 w8∧az Proofs.Tryz.prog (f_ 30 (Array.mk [vS o1 k1 k2,vS (some (aM k19)) 1 1])) w8 fun v2 w9=>∃ o10 k20 k21,v2 = vS o10 k20 k21∧I2 w9∧aG (n1 + 1)∧x1 o10 k20 k21 (n1 + 1) w9∧x2 o10 k20 k21 (n1 + 1) w9 < x2 o1 k1 k2 n1 w1) (au Proofs.Tryz.prog Ev 74 [vP a] w1 fun v3 w10=>∃ o11 k22 k23,v3 = vS o11 k22 k23∧au Proofs.Tryz.prog Ev 34 [vS o11 k22 k23,vS o1 k1 k2] w10 fun v4 w11=>∃ o12 k24 k25,v4 = vS o12 k24 k25∧R (vS o12 k24 k25) w11)
theorem lZ (a:Option Addr) (w:World) (R:Value→WP) (h:np a w R):aC Tryz.prog 33 [(.pointer a)] w R:=rv Tryz.func33 lY (by kernel_rfl) h

abbrev pZ:FuncId:=34
def nq:bj:={ rngs:=[],loops:=[(3,[(6,(.one (.int .i64)))]),(7,[(7,(.one .bool))]),(10,[(7,(.one .bool)),(8,(.one (.int .i64)))]),(14,[(10,(.one (.int .i64)))]),(18,[(12,(.one (.int .i64)))])],joins:=[],blocks:=[] }
def oJ (a:Option Addr) (b c:Nat) (d:Option Addr) (e f:Nat) (w:World) (R:Value→WP):Prop :=  y7 (↑e:Int) (↑e:Int) 24∧new w (Obj.cells (Array.mk (gG (Int.toNat (↑e:Int)) [vS none 0 0])) 24) fun k1 w1=>∃ (x1:lP [(6,aI)]),∃ (x2:lN [(6,aI)]),x1 0 w1∧∀ (I1:Nat→Value) (n1:Int) (w2:World),x1 n1 w2→br (decide (n1 < (↑e:Int))) (∀ w3,drawn w2 w3→∃ (I2:World→Prop),I2 w3∧idx (some (aM k1)) (Int.toNat (↑e:Int)) n1 1 fun a1=>∃ o1 k2 k3,(∀ w4,I2 w4→World.cell? w4 a1 = some (vS o1 k2 k3))∧idx d e n1 1 fun a2=>∃ o2 k4 k5,(∀ w5,I2 w5→World.cell? w5 a2 = some (vS o2 k4 k5))∧az Proofs.Tryz.prog (f_ 24 (Array.mk [vS o1 k2 k3,vS o2 k4 k5])) w3 fun v1 w6=>∃ o3 k6 k7,v1 = vS o3 k6 k7∧I2 w6∧idx (some (aM k1)) (Int.toNat (↑e:Int)) n1 1 fun a3=>st1 w6 a3 (vS o3 k6 k7) fun w7=>aG (n1 + 1)∧x1 (n1 + 1) w7∧x2 (n1 + 1) w7 < x2 n1 w2) (∃ (x3:lP [(7,yL)]),∃ (x4:lN [(7,yL)]),x3 true w2∧∀ (I3:Nat→Value) (b1:Bool) (w8:World),x3 b1 w8→br b1 (∃ (x5:lP [(7,yL),(8,aI)]),∃ (x6:lN [(7,yL),(8,aI)]),x5 false 0 w8∧∀ (I4:Nat→Value) (b2:Bool) (n2:Int) (w9:World),x5 b2 n2 w9→br (decide (n2 < (↑b:Int))) (idx (some (aM k1)) (Int.toNat (↑e:Int)) n2 1 fun a4=>∃ o4 k8 k9,World.cell? w9 a4 = some (vS o4 k8 k9)∧∃ (x7:lP [(10,aI)]),∃ (x8:lN [(10,aI)]),x7 0 w9∧∀ (I5:Nat→Value) (n3:Int) (w10:World),x7 n3 w10→idx a b n2 1 fun a5=>∃ o5 k10 k11,World.cell? w10 a5 = some (vS o5 k10 k11)∧br (decide (n3 < (↑k10:Int))) (idx a b n2 1 fun a6=>∃ o6 k12 k13,World.cell? w10 a6 = some (vS o6 k12 k13)∧idx o6 k12 n3 1 fun a7=>∃ n4,World.cell? w10 a7 = some (iI n4)∧idx (some (aM k1)) (Int.toNat (↑e:Int)) n4 1 fun a8=>∃ o7 k14 k15,World.cell? w10 a8 = some (vS o7 k14 k15)∧∃ (x9:lP [(12,aI)]),∃ (x10:lN [(12,aI)]),x9 0 w10∧∀ (I6:Nat→Value) (n5:Int) (w11:World),x9 n5 w11→br (decide (n5 < (↑k14:Int))) (∀ w12,drawn w11 w12→∃ (I7:World→Prop),I7 w12∧idx (some (aM k1)) (Int.toNat (↑e:Int)) n2 1 fun a9=>∃ o8 k16 k17,(∀ w13,I7 w13→World.cell? w13 a9 = some (vS o8 k16 k17))∧idx o7 k14 n5 1 fun a10=>∃ n6,(∀ w14,I7 w14→World.cell? w14 a10 = some (iI n6))∧au Proofs.Tryz.prog Ev 56 [vS o8 k16 k17,iI n6] w12 fun v2 w15=>∃ o9 k18 k19,v2 = vS o9 k18 k19∧I7 w15∧idx (some (aM k1)) (Int.toNat (↑e:Int)) n2 1 fun a11=>st1 w15 a11 (vS o9 k18 k19) fun w16=>aG (n5 + 1)∧x9 (n5 + 1) w16∧x10 (n5 + 1) w16 < x10 n5 w11) (aG (n3 + 1)∧x7 (n3 + 1) w11∧x8 (n3 + 1) w11 < x8 n3 w10)) (br b2 (aG (n2 + 1)∧x5 true (n2 + 1) w10∧x6 true (n2 + 1) w10 < x6 b2 n2 w9) (idx (some (aM k1)) (Int.toNat (↑e:Int)) n2 1 fun a12=>∃ o10 k20 k21,World.cell? w10 a12 = some (vS o10 k20 k21)∧aG (n2 + 1)∧x5 (decide ((↑k8:Int) < (↑k20:Int))) (n2 + 1) w10∧x6 (decide ((↑k8:Int) < (↑k20:Int))) (n2 + 1) w10 < x6 b2 n2 w9))) (x3 b2 w9∧x4 b2 w9 < x4 b1 w8)) (R (vS (some (aM k1)) (Int.toNat (↑e:Int)) (Int.toNat (↑e:Int))) w8))
theorem nr (a:Option Addr) (b c:Nat) (d:Option Addr) (e f:Nat) (w:World) (R:Value→WP) (h:oJ a b c d e f w R):aC Tryz.prog 34 [(.slice a b c),(.slice d e f)] w R:=rv Tryz.func34 nq (by kernel_rfl) h

end Go.Proofs.YtngdohpikfcifaaGreatDoor
namespace Go.V
open Go.Proofs.YtngdohpikfcifaaGreatDoor
section
variable {es ow:List (List Int)} {f f' : Nat→List Int} {n k m:Nat} {L:List aw} {w:World}
structure OJ (es ow:List (List Int)) (n:Nat) (f:Nat→List Int):Prop where
 ri:∀ j,j < n→dp (f j)∧(∀ z∈f j,∃ x:Nat,z = x∧x < 1024∧dL es ow j x)∧∀ z∈ow.getD j [],z∈f j
def Qq (es:List (List Int)) (f:Nat→List Int) (m:Nat):Prop:=∀ j,j < m→∀ u∈En es j,∀ z∈f u,z∈f j
def OL (es ow:List (List Int)) (n k:Nat) (L:List aw) (f:Nat→List Int) (w:World):Prop:=OJ es ow n f∧bD n f k L w
theorem OJ.len (h:OJ es ow n f) {j:Nat} (hj:j < n):(f j).length≤1024:=oF (B:=1024) (h.ri j hj).1 fun z hz=>by
 obtain ⟨x,rfl,hx,_⟩:=(h.ri j hj).2.1 z hz
 omega
theorem OJ.R_ (h:OJ es ow n f):tU n f≤n * 1024:=Ed fun j hj=>h.len hj
theorem OJ.up (h:OJ es ow n f) {i:Nat} {xs:List Int} (hx:dp xs) (hz:∀ z∈xs,∃ x:Nat,z = x∧x < 1024∧dL es ow i x) (hs:∀ z∈f i,z∈xs):OJ es ow n (Jb f i xs):=by
 refine ⟨fun j hj=>?_⟩
 by_cases e:j = i
 ·subst e; rw [ft]; exact ⟨hx,hz,fun z h1=>hs z ((h.ri j hj).2.2 z h1)⟩
 ·rw [oE e]; exact h.ri j hj
def Hz (n:Nat) (f:Nat→List Int):Nat:=n * 1024 - tU n f
theorem Qq.congr (he:∀ j,j < n→f' j = f j) (hR:∀ j u,u∈En es j→u < n) (hm:m≤n) (h:Qq es f m):Qq es f' m:=fun j hj u hu=>by
 rw [he u (hR j u hu),he j (by omega)]
 exact h j hj u hu
theorem Qr (hn:es.length = n) (hR:yw es) (hi:OJ es ow n f) (hc:Qq es f n):(List.range n).map f = u_ es ow:=by
 refine MG (by simp [hn]) fun v row hr=>?_
 have hv:v < n:=by have:=(Sk.1 hr).1; simpa using this
 rw [Sn,TA hv] at hr
 have e:f v = row:=Option.some.inj hr
 subst e
 obtain ⟨h1,h2,_⟩:=hi.ri v hv
 refine ⟨h1,fun z=>⟨h2 z,?_⟩⟩
 rintro ⟨x,rfl,_,hx⟩
 exact dL.least (Q:=fun v x=>v < n→(x:Int)∈f v) (fun v x h hv=>(hi.ri v hv).2.2 _ h) (fun v m x hm ih hv=>hc v hv m hm _ (ih (by rw [← hn]; exact IK hR hm))) hx hv
end
end Go.V
namespace Go.Proofs.YtngdohpikfcifaaGreatDoor
open Go.V
variable {w:World} {L:List aw} {g:af} {x:GA} {ss:List SQ} {nn:List Bool}
theorem BD {a d:Option Addr} {n c c2:Nat} {es ow:List (List Int)} (re:aW (hp w) es a n) (ro:aW (hp w) ow d n) (hR:gq es = true) (hn:n≤33280) (hE:∀ l∈es,l.length≤33280) (hO:∀ l∈ow,dp l∧∀ z∈l,0≤z∧z < 1024):aC Tryz.prog pZ [.slice a n c,.slice d n c2] w fun v w'=>∃ (o:Option Addr) (c:Nat) (ds:List (Lq Int)),v = .slice o ds.length c∧ds.map (·.2) = u_ es ow∧St w' (own 1 o ds.length c (ds.map bF) :: aT (ds.map (bX 1 iv)) :: all w):=by
 have hR:=u9.1 hR
 have hel:=re.1
 have hol:=ro.1
 refine nr _ _ _ _ _ _ w _ ⟨⟨by omega,rfl,by omega⟩,?_⟩
 rw [SJ]
 have e0:gG n [(Value.slice none 0 0:Value)] = (List.replicate n (((none,0),[]):Lq Int)).map bF:=by rw [dB]; simp [bF]
 rw [e0]
 refine ah (St.all w) fun k1 w1 h=>?_
 have hC:=bD.start h
 clear h
 refine ⟨fun z w'=>∃ i:Nat,z = i∧i≤n∧bD n (fun j=>if j < i then ow.getD j [] else []) k1 (all w) w',fun z _=>n - z.toNat,⟨0,rfl,Sv _,hC.iff fun j _=>by simp⟩,?_⟩
 clear hC
 rintro _ _ w2 ⟨i,rfl,hi,hC⟩
 refine ae (fun h1=>?_) fun h1=>?_
 ·have h1:i < n:=by have:=Si h1; omega
  intro w3 hd
  have hC:=hC.gr (Gr.drawn hd)
  obtain ⟨po,oad,poa,poc,hpo,hoa,cpo,rpo⟩:=jU ro h1
  obtain ⟨hr1,hr2⟩:=hO po (Sl hpo)
  have hpl:po.length≤1024:=oF (B:=1024) hr1 hr2
  obtain ⟨q,es2,hqf,hesl,hV,h,back⟩:=hC.take h1
  have hq0:q.2 = []:=by rw [hqf]; simp
  refine ⟨fun u=>ax (hp u) (aM k1) (es2.map bF)∧Gr w u,⟨ai 2 h.l,aZ 3 h.l⟩,aq rfl h1 ⟨_,_,_,fun u s=>s.1.cell (sub.refl _) hV,aq hoa h1 ⟨_,_,_,fun u s=>cpo u s.2,?_⟩⟩⟩
  refine (AF (us:=iv q.2) (xs:=po) aK (rfl:ag Ty _ = .slice _) (rfl:ag Ty _ = .slice _) rfl rfl rfl h rfl (rpo.mono (aZ 3 h.l)) (fun x=>rfl) (by rw [hq0]; show (0 + po.length) * 8≤_; omega) (by rw [hq0]; show 0 + po.length≤_; omega)).mono ?_
  rintro _ w6 ⟨o3,c3,rfl,h⟩
  rw [hq0] at h ⊢
  refine ⟨_,_,_,rfl,⟨ai 2 h.l,aZ 3 h.l⟩,aq rfl h1 ?_⟩
  rw [aO]
  refine bg (h.pick 3 [2,0,1]) (by rw [Ss]; omega) fun w7 h=>?_
  have hC:=back w7 (all w) o3 c3 po (by
   have e:([] : List Int).length + po.length = po.length:=by simp
   have h:=h.pick 3 [1,2,0]
   rw [e] at h
   exact h)
  refine ⟨⟨by omega,by omega⟩,⟨i + 1,by simp,h1,hC.iff fun j _=>?_⟩,bA h1⟩
  by_cases e:j = i
  ·subst e
   rw [Sz rfl,Sz (by omega),Sq,hpo]; rfl
  ·by_cases e2:j < i
   ·rw [Sr e,Sz e2,Sz (by omega)]
   ·rw [Sr e,Sr e2,Sr (by omega)]
 have h1:i = n:=by have:=Sj h1; omega
 subst h1
 have hW:OL es ow i k1 (all w) (fun j=>ow.getD j []) w2:=by
  refine ⟨⟨fun j hj=>?_⟩,hC.iff fun j hj=>by rw [Sz hj]⟩
  have hg:ow[j]? = some (ow[j]'(by omega)):=Sm _
  have e:ow.getD j [] = ow[j]'(by omega):=by rw [Sq,hg]; rfl
  obtain ⟨q1,q2⟩:=hO _ (Sl hg)
  rw [e]
  refine ⟨q1,fun z hz=>?_,fun z hz=>hz⟩
  have:=q2 z hz
  exact ⟨z.toNat,by omega,by omega,dL.iff.2 (.inl (by rw [e,show ((z.toNat:Nat):Int) = z by omega]; exact hz))⟩
 clear hC
 refine ⟨fun b w'=>∃ f,OL es ow i k1 (all w) f w'∧(b = false→Qq es f i),fun b w'=>if b = true then 1 + Lw (OL es ow i k1 (all w)) (Hz i) w' else 0,⟨_,hW,fun h=>(by cases h)⟩,?_⟩
 clear hW
 rintro _ b3 w8 hst
 refine ae (fun hb3=>?_) fun hb3=>?_
 rotate_left
 ·have hb3:b3 = false:=by simpa using hb3
  obtain ⟨f,⟨hI,hC⟩,hcl⟩:=hst
  obtain ⟨ds,hdl,hds,h⟩:=hC.fin
  exact ⟨_,i,ds,by rw [hdl],by rw [hds]; exact Qr hel hR hI (hcl hb3),by rw [hdl]; exact h⟩
 subst hb3
 obtain ⟨f0,hW0,hm0⟩:=Dz (P:=OL es ow i k1 (all w)) (f:=Hz i) (w:=w8) (by obtain ⟨f,h,_⟩:=hst; exact ⟨f,h⟩)
 clear hst
 have enl:∀ j u,u∈En es j→u < i:=fun j u hu=>by rw [← hel]; exact IK hR hu
 refine ⟨fun b z w'=>∃ (m:Nat) (f:Nat→List Int),z = m∧m≤i∧OL es ow i k1 (all w) f w'∧Hy i f0 f b∧(b = false→Qq es f0 m),fun _ z _=>i - z.toNat,⟨0,f0,rfl,Sv _,hW0,.start,fun _ j hj=>absurd hj (Nat.not_lt_zero _)⟩,?_⟩
 clear hW0
 rintro _ b4 _ w9 ⟨m,f,rfl,hm,hW,hG,hcl⟩
 refine ae (fun h1=>?_) fun h1=>?_
 rotate_left
 ·have h1:m = i:=by have:=Sj h1; omega
  subst h1
  have q1:=AU (f:=Hz m) hW
  have q2:=hW.1.R_
  have q3:=hG.le
  cases b4 with
  | true =>
   refine ⟨⟨f,hW,fun h=>(by cases h)⟩,?_⟩
   have q4:=hG.yes rfl
   show 1 + Lw (OL es ow m k1 (all w)) (Hz m) w9 < 1 + Lw (OL es ow m k1 (all w)) (Hz m) w8
   rw [← hm0]
   unfold Hz at q1 ⊢
   omega
  | false =>
   refine ⟨⟨f,hW,fun _=>(hcl rfl).congr (fun j hj=>hG.no rfl j hj) enl (SF _)⟩,?_⟩
   show 0 < 1 + Lw (OL es ow m k1 (all w)) (Hz m) w8
   omega
 have h1:m < i:=by have:=Si h1; omega
 obtain ⟨hI,hC⟩:=hW
 obtain ⟨oc0,cc0,hcell0⟩:=hC.cell h1
 obtain ⟨hri,hra,hrb⟩:=hI.ri m h1
 obtain ⟨pe,ead,pea,pec,hpe,hea,cpe,rpe⟩:=jU re h1
 have hel2:=hE pe (Sl hpe)
 have een:En es m = pe.map Int.toNat:=Ho hpe
 refine aq rfl h1 ⟨_,_,_,hcell0,?_⟩
 refine ⟨fun z w'=>∃ (k:Nat) (xs:List Int),z = k∧k≤pe.length∧dp xs∧(∀ z∈f m,z∈xs)∧(∀ z∈xs,∃ x:Nat,z = x∧x < 1024∧dL es ow m x)∧(∀ u∈pe.take k,∀ z∈f u.toNat,z∈xs)∧bD i (Jb f m xs) k1 (all w) w',fun z _=>pe.length - z.toNat,⟨0,f m,rfl,Sv _,hri,fun _ h=>h,hra,fun u hu=>by simp at hu,hC.iff fun j _=>by unfold Jb; by_cases e:j = m <;> simp [e]⟩,?_⟩
 clear hC hcell0
 rintro _ _ w10 ⟨k,xs,rfl,hk,hx,hfx,hxa,hxc,hC⟩
 have g10:=hC.gw
 have hxl:xs.length≤1024:=oF (B:=1024) hx fun z hz=>by obtain ⟨x,rfl,hx,_⟩:=hxa z hz; omega
 refine aq hea h1 ⟨_,_,_,cpe _ g10,ae (fun h2=>?_) fun h2=>?_⟩
 rotate_left
 ·-- the row is done
  have h2:k = pe.length:=by have:=Sj h2; omega
  rw [h2,SM] at hxc
  have fin:∃ (m' : Nat) (f' : Nat→List Int),(m:Int) + 1 = m'∧m'≤i∧OL es ow i k1 (all w) f' w10∧Hy i f0 f' (b4 || decide ((f m).length < xs.length))∧((b4 || decide ((f m).length < xs.length)) = false→Qq es f0 m'):=by
   refine ⟨m + 1,Jb f m xs,by simp,h1,⟨hI.up hx hxa hfx,hC⟩,hG.step h1 hri hx hfx,fun hb=>?_⟩
   rw [Bool.or_eq_false_iff,SZ] at hb
   have e1:f m = xs:=CZ hri hx hfx (by omega)
   have e2:=hG.no hb.1
   intro j hj u hu
   by_cases e:j = m
   ·subst e
    rw [← e2 u (enl j u hu),← e2 j h1,e1]
    rw [een] at hu
    obtain ⟨u',hu',rfl⟩:=SG.1 hu
    exact hxc u' hu'
   ·exact hcl hb.1 j (by omega) u hu
  refine ae (fun h3=>?_) fun h3=>?_
  ·rw [h3,Bool.true_or] at fin
   exact ⟨⟨by omega,by omega⟩,fin,bA h1⟩
  ·rw [h3,Bool.false_or] at fin
   obtain ⟨oc,cc,hcell⟩:=hC.cell h1
   rw [ft] at hcell
   refine aq rfl h1 ⟨_,_,_,hcell,⟨by omega,by omega⟩,?_,bA h1⟩
   rw [show decide (((f m).length:Int) < (xs.length:Int)) = decide ((f m).length < xs.length) by simp]
   exact fin
 -- one edge more
 have h2:k < pe.length:=by have:=Si h2; omega
 obtain ⟨y,yad,hy1,hya,hy2⟩:=rpe.bL h2
 have hyr:=hR pe (Sl hpe) y (Sl hy1)
 obtain ⟨u,rfl⟩ : ∃ u:Nat,y = u:=⟨y.toNat,by omega⟩
 have hui:u < i:=by omega
 have hue:u∈En es m:=by rw [een]; exact SG.2 ⟨_,Sl hy1,by simp⟩
 obtain ⟨hui1,hui2,_⟩:=hI.ri u hui
 have hul:=hI.len hui
 have next:∀ {w' : World} {ys:List Int},dp ys→(∀ z,z∈ys↔z∈xs∨z∈f u)→bD i (Jb f m ys) k1 (all w) w'→aG ((k:Int) + 1)∧(∃ (k' : Nat) (xs:List Int),(k:Int) + 1 = k'∧k'≤pe.length∧dp xs∧(∀ z∈f m,z∈xs)∧(∀ z∈xs,∃ x:Nat,z = x∧x < 1024∧dL es ow m x)∧(∀ u∈pe.take k',∀ z∈f u.toNat,z∈xs)∧bD i (Jb f m xs) k1 (all w) w')∧pe.length - ((k:Int) + 1).toNat < pe.length - (k:Int).toNat:=fun {w' ys} q1 q2 q3=>by
  refine ⟨⟨by omega,by omega⟩,⟨k + 1,ys,by simp,h2,q1,fun z hz=>(q2 z).2 (.inl (hfx z hz)),fun z hz=>?_,fun u' hu' z hz=>?_,q3⟩,bA h2⟩
  ·rcases (q2 z).1 hz with h | h
   ·exact hxa z h
   ·obtain ⟨x,rfl,hx1,hx2⟩:=hui2 z h
    exact ⟨x,rfl,hx1,dL.iff.2 (.inr ⟨u,hue,hx2⟩)⟩
  ·rw [aV hy1,Sp,SE] at hu'
   rcases hu' with hu' | rfl
   ·exact (q2 z).2 (.inl (hxc u' hu' z hz))
   ·rw [SJ] at hz
    exact (q2 z).2 (.inr hz)
 refine aq hea h1 ⟨_,_,_,cpe _ g10,aq hya h2 ⟨_,hy2 _ g10,?_⟩⟩
 by_cases hmu:u = m
 ·-- to itself
  subst hmu
  obtain ⟨q,es2,hqf,hesl,hV,h,back⟩:=hC.take h1
  rw [ft] at hqf
  have hql:q.2.length≤1024:=by rw [hqf]; exact hxl
  refine aq rfl h1 ⟨_,_,_,(ai 2 h.l).cell (sub.refl _) hV,?_⟩
  refine ⟨fun z w'=>∃ j:Nat,z = j∧j≤q.2.length∧St w' (own 1 q.1.1 q.2.length q.1.2 (iv q.2) :: aT ((es2.map (bX 1 iv)).eraseIdx u) :: aR k1 (es2.map bF) :: all w),fun z _=>q.2.length - z.toNat,⟨0,rfl,Sv _,h⟩,?_⟩
  clear h
  rintro _ _ w11 ⟨j,rfl,hj,h⟩
  refine ae (fun h3=>?_) fun h3=>?_
  ·have h3:j < q.2.length:=by have:=Si h3; omega
   intro w12 hd
   have h:=h.eq (aD hd)
   have rq:aW (hp w12) q.2 q.1.1 q.2.length:=b8 rfl (gB 0 h.l)
   obtain ⟨z,zad,hz1,hza,hz2⟩:=rq.bL h3
   refine ⟨fun t=>t = w12,rfl,aq rfl h1 ⟨_,_,_,fun t e=>(ai 2 h.l).cell (by rw [e]; exact sub.refl _) hV,aq hza h3 ⟨z,fun t e=>hz2 t (by rw [e]; exact sub.refl _),(Kk rq (by rw [hqf]; exact hx) (Sl hz1) (by rw [hqf]; omega)).mono ?_⟩⟩⟩
   rintro _ w13 ⟨rfl,rfl⟩
   refine ⟨_,_,_,rfl,rfl,aq rfl h1 ?_⟩
   rw [aO]
   refine bg (h.pick 3 [2,0,1]) (by rw [Ss]; omega) fun w14 h=>?_
   have hh:(es2.map bF).set u (.slice q.1.1 q.2.length q.1.2) = es2.map bF:=sO hV
   rw [hh] at h
   exact ⟨⟨by omega,by omega⟩,⟨j + 1,by simp,h3,h.pick 3 [1,2,0]⟩,bA h3⟩
  ·have hC:=back w11 (all w) q.1.1 q.1.2 q.2 (by
    have hh:(es2.map bF).set u (.slice q.1.1 q.2.length q.1.2) = es2.map bF:=sO hV
    rw [hh]; exact h)
   refine next hx (fun z=>⟨.inl,fun h=>h.elim id (hfx z)⟩) (hC.iff fun j _=>?_)
   by_cases e:j = u
   ·subst e; rw [Sz rfl,ft,hqf]
   ·rw [Sr e]
 ·-- to another one
  obtain ⟨q,r,es2,M,hqf,hrf,hesl,hV,hVr,h,back⟩:=hC.Rp h1 hui (fun e=>hmu e.symm)
  rw [ft] at hqf
  rw [oE hmu] at hrf
  refine aq rfl hui ⟨_,_,_,(ai 3 h.l).cell (sub.refl _) hVr,?_⟩
  refine ⟨fun z w'=>∃ (j:Nat) (o:Option Addr) (c:Nat) (ys:List Int),z = j∧j≤r.2.length∧dp ys∧(∀ z,z∈ys↔z∈xs∨z∈r.2.take j)∧ys.length≤xs.length + j∧St w' (own 1 o ys.length c (iv ys) :: own 1 r.1.1 r.2.length r.1.2 (iv r.2) :: aT M :: aR k1 ((es2.map bF).set m (.slice o ys.length c)) :: all w),fun z _=>r.2.length - z.toNat,⟨0,q.1.1,q.1.2,q.2,rfl,Sv _,by rw [hqf]; exact hx,fun z=>by rw [hqf]; simp,by rw [hqf]; omega,by
    have hh:(es2.map bF).set m (.slice q.1.1 q.2.length q.1.2) = es2.map bF:=sO hV
    rw [hh]; exact h⟩,?_⟩
  clear h
  rintro _ _ w11 ⟨j,o,c,ys,rfl,hj,hy,hym,hyl,h⟩
  have hrl:r.2.length≤1024:=by rw [hrf]; exact hul
  refine ae (fun h3=>?_) fun h3=>?_
  ·have h3:j < r.2.length:=by have:=Si h3; omega
   intro w12 hd
   have h:=h.eq (aD hd)
   have rq:aW (hp w12) r.2 r.1.1 r.2.length:=b8 rfl (gB 1 h.l)
   obtain ⟨z,zad,hz1,hza,hz2⟩:=rq.bL h3
   have hVm:((es2.map bF).set m (.slice o ys.length c))[m]? = some (.slice o ys.length c):=SY (by rw [Ss]; omega)
   refine ⟨fun t=>ax (hp t) (aM k1) ((es2.map bF).set m (.slice o ys.length c))∧aW (hp t) r.2 r.1.1 r.2.length,⟨ai 3 h.l,rq⟩,aq rfl h1 ⟨_,_,_,fun t e=>e.1.cell (sub.refl _) hVm,aq hza h3 ⟨z,fun t e=>?_,(O9 h hy (by omega)).mono ?_⟩⟩⟩
   ·obtain ⟨ad2,e2,hc⟩:=e.2.at hz1
    rw [hza] at e2; cases e2
    exact hc _ (sub.refl _)
   rintro _ w13 ⟨a2,c3,ys2,rfl,q1,q2,q3,h⟩
   refine ⟨_,_,_,rfl,⟨ai 3 h.l,b8 rfl (gB 1 h.l)⟩,aq rfl h1 ?_⟩
   rw [aO]
   refine bg (h.pick 4 [3,0,1,2]) (by rw [SL,Ss]; omega) fun w14 h=>?_
   rw [List.set_set] at h
   refine ⟨⟨by omega,by omega⟩,⟨j + 1,a2,c3,ys2,by simp,h3,q1,fun z'=>?_,by omega,h.pick 4 [1,2,3,0]⟩,bA h3⟩
   rw [q2,hym,aV hz1,Sp,SE,or_assoc]
  ·have h3:j = r.2.length:=by have:=Sj h3; omega
   rw [h3,SM,hrf] at hym
   have hC:=back w11 (all w) o c ys h
   refine next hy hym (hC.iff fun j _=>?_)
   by_cases e:j = m
   ·subst e; rw [Sz rfl,ft]
   ·rw [Sr e,oE e,oE e]
end Go.Proofs.YtngdohpikfcifaaGreatDoor
namespace Go.Proofs.YtngdohpikfcifaaGreatDoor
open Go.V
variable {w:World} {L:List aw} {g:af} {x:GA} {ss:List SQ} {nn:List Bool}
theorem Qs (hc:av g) (hA:bG g ss):∀ l∈ry g nn ss,l.length≤33280:=fun l hl=>by
 unfold ry at hl
 obtain ⟨j,_,rfl⟩:=SG.1 hl
 exact SK (fp _ _) (fL hc hA)
theorem inc_le (hc:av g) (hA:bG g ss):∀ l∈tA g nn ss,l.length≤33280:=fun l hl=>by
 unfold tA at hl
 obtain ⟨j,_,rfl⟩:=SG.1 hl
 exact SK (fp _ _) (fL hc hA)
theorem yZ {k:Nat} (hw:Kh (hp w) g ss nn k) (hb:iM g) (hc:av g) (hA:bG g ss) (hnn:pM g nn):aC Tryz.prog oH [.pointer (some (aM k))] w fun v w'=>∃ (o:Option Addr) (c:Nat) (ds:List (Lq Int)),v = .slice o ds.length c∧ds.map (·.2) = Kc g nn ss∧St w' (own 1 o ds.length c (ds.map bF) :: aT (ds.map (bX 1 iv)) :: all w):=by
 obtain ⟨x',o,c',a',int,ol,cl,on,cn,rk,hg,hs,rT,rN⟩:=hw.ex
 have rA:=Kh.Fz rk
 have rG:ax (hp w) (aM k) x'.cells:=BC rk
 have hnl:=fL hc hA
 have hnl2:(aU g ss).length * 24≤800000:=by omega
 refine lZ _ w _ ⟨fun o n c z w'=>∃ (i:Nat) (ds:List (Lq Int)),z = i∧i≤(aU g ss).length∧n = ds.length∧ds.map (·.2) = ((aU g ss).take i).map (cS g ss)∧St w' (own 1 o n c (ds.map bF) :: aT (ds.map (bX 1 iv)) :: all w),fun _ _ _ z _=>(aU g ss).length - z.toNat,
  ⟨0,[],rfl,Sv _,rfl,rfl,aB 1 ((St.flat (M:=[])).2 (St.all w))⟩,?_⟩
 rintro _ o1 _ c1 _ w1 ⟨i,ds,rfl,hi,rfl,hds,h⟩
 have g1:Gr w w1:=aZ 2 h.l
 have hdl:ds.length = i:=by have:=congrArg List.length hds; rw [Ss,Ss,SN] at this; omega
 refine ⟨_,_,_,rk.cell g1 (j:=8) rfl,ae (fun h1=>?_) fun h1=>?_⟩
 ·have h1:i < (aU g ss).length:=by have:=Si h1; omega
  obtain ⟨t,tad,ht,hta,rt⟩:=fm rT h1
  obtain ⟨i0,q0,k0,e0,hi0,hq0,he0,hge,hte⟩:=dw (Sl ht)
  have hnx:eE ss i0 t.sym = some e0.to:=by rw [hte]; exact jM hA hq0 he0
  obtain ⟨hto1,hto2⟩:=jj hc hA hnx
  obtain ⟨j0,hj0⟩ : ∃ j0:Nat,e0.to = j0:=⟨e0.to.toNat,by omega⟩
  rw [hj0] at hnx
  have htk:(aU g ss).take (i + 1) = (aU g ss).take i ++ [t]:=by rw [Su,ht]; rfl
  intro w2 hd
  have h:=h.eq (aD hd)
  have s2:Gr w w2:=aZ 2 h.l
  refine ⟨fun u=>Gr w u,s2,_,_,_,_,_,_,_,_,_,_,_,_,_,fun u s=>rG.at s rfl,_,_,_,_,_,fun u s=>rA.at s rfl,_,_,_,fun u s=>rk.cell s (j:=8) rfl,ay hta h1 ⟨_,_,fun u s=>rt.at s rfl,(Hx (t:=t) (hg.mono s2) hb hc hA (hs.mono s2) (by rw [hte]) hi0 hnx).mono ?_⟩⟩
  rintro _ w7 ⟨o9,c9,rfl,h2⟩
  have h:=St.vK h2 h.l
  clear h2
  refine ⟨_,_,_,rfl,aZ 3 h.l,ah h fun k19 w8 h=>⟨aZ 4 h.l,?_⟩⟩
  have z1:(ds.length + 1) * 24≤140737488355328∧ds.length < 9223372036854775807:=by omega
  refine (aQ (us:=ds.map bF) aK (rfl:ag Ty _ = .slice _) (rfl:ag Ty _ = .slice _) rfl rfl rfl (h.pick 4 [0,2,1,3]) rfl (by simp [aS]) z1.1 z1.2).mono ?_
  rintro _ w9 ⟨o10,c10,rfl,h⟩
  have h:=St.snoc (h.pick 4 [2,3,0])
  have h3:St w9 (own 1 o10 (ds.length + 1) c10 (ds.map bF ++ [.slice o9 (cS g ss t).length c9]) :: aT (ds.map (bX 1 iv) ++ [own 1 o9 (cS g ss t).length c9 (iv (cS g ss t))]) :: all w):=h.pick 2 [1,0]
  refine ⟨_,_,_,rfl,aZ 2 h3.l,⟨by omega,by omega⟩,⟨i + 1,ds ++ [((o9,c9),cS g ss t)],by simp,h1,by simp,by rw [htk]; simp [hds],?_⟩,bA h1⟩
  simpa [bF,bX] using h3
 have h1:i = (aU g ss).length:=by have:=Sj h1; omega
 rw [h1,SM] at hds
 have rO:=wR h
 rw [hds] at rO
 have hdl2:ds.length = (aU g ss).length:=by omega
 rw [hdl2] at rO ⊢
 clear h
 refine (MO (hw.mono g1) hc hA hnn).mono ?_
 rintro _ w10 ⟨o11,c11,ds2,rfl,hds2,h⟩
 have g10:Gr w1 w10:=aZ 2 h.l
 have rE:=wR h
 have hl2:ds2.length = (aU g ss).length:=by have:=congrArg List.length hds2; rw [Ss,Bx] at this; exact this
 rw [hds2,hl2] at rE
 rw [hl2]
 clear h
 refine ⟨_,_,_,rfl,(BD rE (rO.mono g10) sM hnl (Qs hc hA) fun l hl=>?_).mono ?_⟩
 ·obtain ⟨_,q2,q3⟩:=IX hc hA hl
  obtain ⟨hT,_⟩:=hc.eD
  exact ⟨q2,fun z hz=>by have:=q3 z hz; omega⟩
 rintro _ w11 ⟨o12,c12,ds3,rfl,hds3,h⟩
 exact ⟨_,_,_,rfl,_,_,ds3,rfl,hds3,St.JA h (cE (g1.trans g10))⟩
theorem F2 (hg:gR (hp w) g x) (hb:iM g):aC Tryz.prog oG [.agg ⟨x.cells⟩] w (fq Kc g w):=by
 refine lW _ _ _ _ _ _ _ _ _ _ _ _ _ w _ (de hg fun k1 w1 gw hg B=>?_)
 refine ⟨_,_,_,_,_,_,_,_,_,_,_,_,_,B.row (sub.refl _),(MM hg hb).mono ?_⟩
 rintro _ w2 ⟨ss,ask,int,f,nn,x',o,n,c,a,i,ol,nl,cl,on,nN,cn,rfl,hR,g2,h0⟩
 refine ⟨_,_,_,_,_,_,_,_,_,_,_,_,_,_,_,_,_,_,_,_,_,_,_,_,_,rfl,ah (St.all w2) fun k24 w3 h=>bh h rfl (by intro v hv; simp at hv; rcases hv with rfl | rfl | rfl | rfl | rfl | rfl | rfl | rfl | rfl | rfl <;> rfl) fun w4 h=>?_⟩
 have g24:Gr w2 w4:=h.aX
 have rk:ax (hp w4) (aM k24) (M5 x' o n c a i ol nl cl on nN cn):=ai 0 h.l
 clear h
 have gw4:=gw.trans (g2.trans g24)
 refine ae (fun h1=>?_) fun h1=>?_
 ·have h1:f≠0:=by simpa using h1
  have hz:=hR.nil h1
  subst hz
  exact ⟨[],ask,int,f,[],none,0,[],rfl,hR,fun h=>absurd h h1,rfl,aB 1 ((St.flat (M:=[])).2 (St.here gw4))⟩
 have h1:f = 0:=by simpa using h1
 subst h1
 obtain ⟨hc,hA⟩:=hR.Fz rfl
 obtain ⟨hnn,rfl,rfl,rfl,hg',hs,rT,rN⟩:=h0 rfl
 have hw:Kh (hp w4) g ss nn k24:=⟨x',o,c,a,i,ol,cl,on,cn,rk,hg'.mono g24,hs.mono g24,rT.mono g24,rN.mono g24⟩
 refine (yZ hw hb hc hA hnn).mono ?_
 rintro _ w5 ⟨o5,c5,ds,rfl,hds,h⟩
 exact ⟨_,_,_,rfl,ss,ask,int,0,nn,o5,c5,ds,rfl,hR,fun _=>hnn,hds,St.JA h (cE gw4)⟩
theorem Cf (hg:gR (hp w) g x) (hb:iM g):aC Tryz.prog lX [.agg ⟨x.cells⟩] w (fq Hs g w):=by
 refine j5 _ _ _ _ _ _ _ _ _ _ _ _ _ w _ (de hg fun k1 w1 gw hg B=>?_)
 refine ⟨_,_,_,_,_,_,_,_,_,_,_,_,_,B.row (sub.refl _),(MM hg hb).mono ?_⟩
 rintro _ w2 ⟨ss,ask,int,f,nn,x',o,n,c,a,i,ol,nl,cl,on,nN,cn,rfl,hR,g2,h0⟩
 refine ⟨_,_,_,_,_,_,_,_,_,_,_,_,_,_,_,_,_,_,_,_,_,_,_,_,_,rfl,ah (St.all w2) fun k24 w3 h=>bh h rfl (by intro v hv; simp at hv; rcases hv with rfl | rfl | rfl | rfl | rfl | rfl | rfl | rfl | rfl | rfl <;> rfl) fun w4 h=>?_⟩
 have g24:Gr w2 w4:=h.aX
 have rk:ax (hp w4) (aM k24) (M5 x' o n c a i ol nl cl on nN cn):=ai 0 h.l
 clear h
 have gw4:=gw.trans (g2.trans g24)
 refine ae (fun h1=>?_) fun h1=>?_
 ·have h1:f≠0:=by simpa using h1
  have hz:=hR.nil h1
  subst hz
  exact ⟨[],ask,int,f,[],none,0,[],rfl,hR,fun h=>absurd h h1,rfl,aB 1 ((St.flat (M:=[])).2 (St.here gw4))⟩
 have h1:f = 0:=by simpa using h1
 subst h1
 obtain ⟨hc,hA⟩:=hR.Fz rfl
 obtain ⟨hnn,rfl,rfl,rfl,hg',hs,rT,rN⟩:=h0 rfl
 have hw:Kh (hp w4) g ss nn k24:=⟨x',o,c,a,i,ol,cl,on,cn,rk,hg'.mono g24,hs.mono g24,rT.mono g24,rN.mono g24⟩
 refine (F0 hw hb hc hA hnn).mono ?_
 rintro _ w5 ⟨o5,c5,ds,rfl,hds,h⟩
 have g45:Gr w4 w5:=aZ 2 h.l
 have rE:=wR h
 have hl2:ds.length = (aU g ss).length:=by have:=congrArg List.length hds; rw [Ss,Bz] at this; exact this
 rw [hds,hl2] at rE
 rw [hl2]
 clear h
 refine ⟨_,_,_,rfl,(yZ (hw.mono g45) hb hc hA hnn).mono ?_⟩
 rintro _ w6 ⟨o6,c6,ds6,rfl,hds6,h⟩
 have g56:Gr w5 w6:=aZ 2 h.l
 have rO:=wR h
 have hl6:ds6.length = (aU g ss).length:=by have:=congrArg List.length hds6; rw [Ss,IQ] at this; exact this
 rw [hds6,hl6] at rO
 rw [hl6]
 clear h
 refine ⟨_,_,_,rfl,(BD (rE.mono g56) rO sM (fL hc hA) (inc_le hc hA) fun l hl=>(xc hl).2).mono ?_⟩
 rintro _ w7 ⟨o7,c7,ds7,rfl,hds7,h⟩
 exact ⟨_,_,_,rfl,ss,ask,int,0,nn,o7,c7,ds7,rfl,hR,fun _=>hnn,hds7,St.JA h (cE (gw4.trans (g45.trans g56)))⟩
end Go.Proofs.YtngdohpikfcifaaGreatDoor
namespace Go.Proofs.YtngdohpikfcifaaGreatDoor
open Go.V
variable {w:World} {L:List aw} {g:af} {x:GA}
theorem fq.lens {F:af→List Bool→List SQ→List (List Int)} (hF:zI F) {ss:List SQ} {nn:List Bool} {ds:List (Lq Int)} (h:ds.map (·.2) = F g nn ss):ds.length = (aU g ss).length:=by
 have:=congrArg List.length h; rw [Ss,hF.ln] at this; exact this
theorem fq.same {F:af→List Bool→List SQ→List (List Int)} (hF:zI F) {ss ss2:List SQ} {nn nn2:List Bool} {a i f a2 i2:Int} (h1:vf g ss a i f) (h2:vf g ss2 a2 i2 f) (n1:f = 0→pM g nn) (n2:f = 0→pM g nn2):F g nn2 ss2 = F g nn ss:=by
 obtain ⟨_,hes,_⟩:=h1.one h2
 by_cases hf:f = 0
 ·rw [(n2 hf).inj (n1 hf),hF.es hes]
 ·rw [h1.nil hf,h2.nil hf,hF.nil,hF.nil]
theorem Rq {ss:List SQ} {a i f:Int} (h:vf g ss a i f):(aU g ss).length≤33280:=by
 by_cases hf:f = 0
 ·obtain ⟨hc,hA⟩:=h.Fz hf
  exact fL hc hA
 ·rw [h.nil hf]; simp [aU,j6]
theorem F3 (hg:gR (hp w) g x) (hb:iM g) (hbT:g.terms.length * 24≤140737488355328) (hbN:g.nons.length * 16≤140737488355328) (ht:gz (hp w)):aC Tryz.prog lT [.agg ⟨x.cells⟩] w fun v w'=>v = .bool true∧Gr w w':=by
 refine jW _ _ _ _ _ _ _ _ _ _ _ _ _ w _ (de hg fun k1 w1 gw hg B=>(Kg (gN.mono gw ht)).mono ?_)
 rintro _ w2 ⟨rfl,g2⟩
 refine ⟨_,rfl,_,_,_,_,_,_,_,_,_,_,_,_,_,B.row g2,(PO (x:=x) (hg.mono g2) hb hbT hbN).mono ?_⟩
 rintro _ w3 ⟨y,os,rfl,hy,hos,h3⟩
 have hk3:gR (hp w3) g y:=NP hy hos h3
 have g3:Gr w2 w3:=aZ 5 h3.l
 refine ⟨_,_,_,_,_,_,_,_,_,_,_,_,_,rfl,ah (St.all w3) fun k18 w4 h4=>bh h4 rfl (by intro v hv; simp at hv; rcases hv with rfl | rfl | rfl | rfl | rfl <;> rfl) fun w5 h5=>?_⟩
 have C:GB (hp w5) k18 y:=Lo h5.row
 have g5:Gr w3 w5:=h5.aX
 have s5:Gr w1 w5:=(g2.trans g3).trans g5
 have hk5:gR (hp w5) g y:=hk3.mono g5
 have hg5:gR (hp w5) g x:=hg.mono s5
 have gw5:Gr w w5:=gw.trans s5
 have ht5:gz (hp w5):=gN.mono gw5 ht
 clear h3 h4 h5
 refine ⟨_,_,_,_,_,_,_,_,_,_,_,_,_,C.row (sub.refl _),(F2 hk5 hb).mono ?_⟩
 rintro _ w6 ⟨ss,ask,int,f,nn,oR,cR,dsR,rfl,hR,hnn,hdsR,h⟩
 have g56:Gr w5 w6:=aZ 2 h.l
 have rR:=wR h
 clear h
 refine ⟨_,_,_,_,rfl,_,_,_,_,_,_,_,_,_,_,_,_,_,C.row g56,(Cf (hk5.mono g56) hb).mono ?_⟩
 rintro _ w7 ⟨ss2,ask2,int2,f2,nn2,oI,cI,dsI,rfl,hR2,hnn2,hdsI,h⟩
 obtain ⟨_,_,_,_,rfl,_⟩:=hR.one hR2
 have g67:Gr w6 w7:=aZ 2 h.l
 have rI:=wR h
 clear h
 have g57:=g56.trans g67
 rw [fq.same IW hR hR2 hnn hnn2] at hdsI
 have z1:=Rq hR
 have hlR:=fq.lens IV hdsR
 have hlI:=fq.lens IW hdsI
 rw [hdsR,hlR] at rR
 rw [hdsI,hlI] at rI
 rw [hlR,hlI]
 have rR:=rR.mono g67
 have zr:∀ xs∈Kc g nn ss,xs.length≤1024:=fun xs hx=>(xc hx).1
 have zf:∀ xs∈Hs g nn ss,xs.length≤1024:=fun xs hx=>(xc hx).1
 refine ⟨_,_,_,_,rfl,fun n w'=>∃ j:Nat,n = j∧j≤2∧Gr w7 w',fun n _=>2 - n.toNat,⟨0,rfl,by omega,Gr.refl _⟩,?_⟩
 rintro _ _ w9 ⟨j,rfl,hj,g79⟩
 have g59:=g57.trans g79
 refine ae (fun hlt=>?_) fun _=>?_
 rotate_left
 ·refine ⟨_,_,_,_,_,_,_,_,_,_,_,_,_,B.row (s5.trans g59),_,_,_,_,_,_,_,_,_,_,_,_,_,C.row g59,(PQ (x:=x) (y:=y) (hg5.mono g59) (hk5.mono g59) hb).mono ?_⟩
  rintro _ w29 ⟨rfl,g29⟩
  exact ⟨_,rfl,vQ rfl ⟨rfl,gw5.trans (g59.trans g29)⟩⟩
 have hlt:j < 2:=by have:=Si hlt; omega
 refine ⟨_,_,_,_,_,_,_,_,_,_,_,_,_,B.row (s5.trans g59),(yy (hg5.mono g59) hb (gN.mono g59 ht5)).mono ?_⟩
 rintro _ w10 ⟨ss4,ask4,int4,f4,nn4,oA,cA,dsA,rfl,hR4,hnn4,hdsA,h⟩
 obtain ⟨_,_,_,_,rfl,_⟩:=hR.one hR4
 have g910:Gr w9 w10:=aZ 2 h.l
 have g510:=g59.trans g910
 refine ⟨_,_,_,_,rfl,_,_,_,_,_,_,_,_,_,_,_,_,_,B.row (s5.trans g510),(rZ (hg5.mono g510) hb (gN.mono g510 ht5)).mono ?_⟩
 rintro _ w11 ⟨ss5,ask5,int5,f5,nn5,oB,cB,dsB,rfl,hR5,hnn5,hdsB,h2⟩
 obtain ⟨_,_,_,_,rfl,_⟩:=hR.one hR5
 have h:St w11 (own 1 oB dsB.length cB (dsB.map bF) :: aT (dsB.map (bX 1 iv)) :: own 1 oA dsA.length cA (dsA.map bF) :: aT (dsA.map (bX 1 iv)) :: all w9):=St.JA h2 h.l
 clear h2
 have g911:Gr w9 w11:=aZ 4 h.l
 rw [fq.same IV hR hR4 hnn hnn4] at hdsA
 rw [fq.same IW hR hR5 hnn hnn5] at hdsB
 have hlA:=fq.lens IV hdsA
 have hlB:=fq.lens IW hdsB
 have rA:=wR (h.pick 4 [2,3])
 have rB:=wR h
 rw [hdsA,hlA] at rA
 rw [hdsB,hlB] at rB
 have hA0:∀ (k:Nat) q,dsA[k]? = some q→q.2.length≤33280:=fun k q hq=>SK (zr _ (by rw [← hdsA]; exact SG.2 ⟨q,Sl hq,rfl⟩)) (by omega)
 have hB0:∀ (k:Nat) q,dsB[k]? = some q→q.2.length≤33280:=fun k q hq=>SK (zf _ (by rw [← hdsB]; exact SG.2 ⟨q,Sl hq,rfl⟩)) (by omega)
 rw [hlA,hlB] at h
 rw [hlA,hlB]
 have g711:=g79.trans g911
 refine ⟨_,_,_,_,rfl,(yY rA (rR.mono g711) (by omega) fun xs hx=>by have:=zr xs hx; omega).mono ?_⟩
 rintro _ w13 ⟨rfl,g1113⟩
 refine ⟨_,rfl,(yY (rB.mono g1113) ((rI.mono g711).mono g1113) (by omega) fun xs hx=>by have:=zf xs hx; omega).mono ?_⟩
 rintro _ w15 ⟨rfl,g1315⟩
 have h:=h.gr (g1113.trans g1315)
 clear rA rB rR rI
 refine ⟨_,rfl,fun b w'=>b = false∧w' = w15,Dq rfl (Dq rfl (Dq (by simp) ⟨by simp,rfl⟩)),?_⟩
 rintro _ b w16 ⟨rfl,e16⟩
 rw [e16]
 refine Dq rfl ?_
 obtain ⟨N,hN⟩ : ∃ N,N = (aU g ss).length:=⟨_,rfl⟩
 rw [← hN] at h hlA hlB z1 ⊢
 clear hdsA hdsB hlR hlI hdsR hdsI zr zf
 refine ⟨fun z w'=>∃ (i:Nat) (es fs:List (Lq Int)),z = i∧i≤N∧es.length = N∧fs.length = N∧(∀ k q,i≤k→es[k]? = some q→q.2.length≤33280)∧(∀ k q,i≤k→fs[k]? = some q→q.2.length≤33280)∧St w' (own 1 oA N cA (es.map bF) :: aT (es.map (bX 1 iv)) :: own 1 oB N cB (fs.map bF) :: aT (fs.map (bX 1 iv)) :: all w9),fun z _=>N - z.toNat,
  ⟨0,dsA,dsB,rfl,Sv _,hlA,hlB,fun k q _ hq=>hA0 k q hq,fun k q _ hq=>hB0 k q hq,h.pick 4 [2,3,0,1]⟩,?_⟩
 clear h hA0 hB0 hlA hlB e16
 rintro _ _ w17 ⟨i,es,fs,rfl,hi,hes,hfs,hei,hfi,h⟩
 refine ae (fun h1=>?_) fun h1=>?_
 ·have h1:i < N:=by have:=Si h1; omega
  obtain ⟨q,hq⟩ : ∃ q,es[i]? = some q:=⟨_,Sm (by omega)⟩
  obtain ⟨r,hr⟩ : ∃ r,fs[i]? = some r:=⟨_,Sm (by omega)⟩
  have hq3:=hei i q (SF _) hq
  have hr3:=hfi i r (SF _) hr
  have hOA:(es.map (bX 1 iv))[i]? = some (bX 1 iv q):=by rw [Sn,hq]; rfl
  have hVA:(es.map bF)[i]? = some (bF q):=by rw [Sn,hq]; rfl
  have hOB:(fs.map (bX 1 iv))[i]? = some (bX 1 iv r):=by rw [Sn,hr]; rfl
  have hVB:(fs.map bF)[i]? = some (bF r):=by rw [Sn,hr]; rfl
  have h:=St.out (h.pick 2 [1,0]) hOA
  have h:=St.out (h.pick 5 [4,0,1,2,3]) hOB
  have h:St w17 (own 1 r.1.1 r.2.length r.1.2 (iv r.2) :: aT ((fs.map (bX 1 iv)).eraseIdx i) :: own 1 q.1.1 q.2.length q.1.2 (iv q.2) :: aT ((es.map (bX 1 iv)).eraseIdx i) :: own 1 oA N cA (es.map bF) :: own 1 oB N cB (fs.map bF) :: all w9):=h
  refine ⟨fun z w'=>∃ (m:Nat) (vs:List Int),z = m∧m≤q.2.length∧vs.length = q.2.length∧St w' (own 1 q.1.1 q.2.length q.1.2 (iv vs) :: aT ((es.map (bX 1 iv)).eraseIdx i) :: own 1 oA N cA (es.map bF) :: own 1 r.1.1 r.2.length r.1.2 (iv r.2) :: aT ((fs.map (bX 1 iv)).eraseIdx i) :: own 1 oB N cB (fs.map bF) :: all w9),fun z _=>q.2.length - z.toNat,⟨0,q.2,rfl,Sv _,rfl,h.pick 6 [2,3,4,0,1,5]⟩,?_⟩
  clear h
  rintro _ _ w18 ⟨m,vs,rfl,hm,hvs,h⟩
  obtain ⟨Ry,hadA,hcoA⟩:=bH (h.pick 3 [2]) hVA
  refine aq hadA h1 ⟨_,_,_,hcoA,ae (fun h2=>?_) fun h2=>?_⟩
  ·have h2:m < q.2.length:=by have:=Si h2; omega
   obtain ⟨adr,hadr⟩:=jG h (by rw [gi]; omega)
   refine aq hadA h1 ⟨_,_,_,hcoA,aq hadr h2 (gh h hadr (by rw [gi]; omega) fun w19 h=>⟨⟨by omega,by omega⟩,⟨m + 1,vs.set m (-9),by simp,h2,by rw [SL]; exact hvs,?_⟩,bA h2⟩)⟩
   rw [DA] at h
   exact h
  clear hcoA
  refine ⟨fun z w'=>∃ (m:Nat) (us:List Int),z = m∧m≤r.2.length∧us.length = r.2.length∧St w' (own 1 r.1.1 r.2.length r.1.2 (iv us) :: aT ((fs.map (bX 1 iv)).eraseIdx i) :: own 1 oB N cB (fs.map bF) :: own 1 q.1.1 q.2.length q.1.2 (iv vs) :: aT ((es.map (bX 1 iv)).eraseIdx i) :: own 1 oA N cA (es.map bF) :: all w9),fun z _=>r.2.length - z.toNat,⟨0,r.2,rfl,Sv _,rfl,h.pick 6 [3,4,5,0,1,2]⟩,?_⟩
  clear h
  rintro _ _ w20 ⟨m2,us,rfl,hm2,hus,h⟩
  obtain ⟨adB,hadB,hcoB⟩:=bH (h.pick 3 [2]) hVB
  refine aq hadB h1 ⟨_,_,_,hcoB,ae (fun h3=>?_) fun h3=>?_⟩
  ·have h3:m2 < r.2.length:=by have:=Si h3; omega
   obtain ⟨adr,hadr⟩:=jG h (by rw [gi]; omega)
   refine aq hadB h1 ⟨_,_,_,hcoB,aq hadr h3 (gh h hadr (by rw [gi]; omega) fun w21 h=>⟨⟨by omega,by omega⟩,⟨m2 + 1,us.set m2 (-9),by simp,h3,by rw [SL]; exact hus,?_⟩,bA h3⟩)⟩
   rw [DA] at h
   exact h
  obtain ⟨adA',hadA',hcoA⟩:=bH (h.pick 6 [5]) hVA
  rw [hadA] at hadA'; cases hadA'
  refine aq hadA h1 ⟨_,_,_,hcoA,ah h fun k89 w22 h=>?_⟩
  refine (aQ (us:=iv vs) aK (rfl:ag Ty _ = .slice _) (rfl:ag Ty _ = .slice _) rfl rfl rfl (h.pick 7 [0,4,1,2,3,5,6]) rfl (by simp [aS]) (by show (_ + 1) * 8≤_; omega) (by omega)).mono ?_
  rintro _ w23 ⟨oq,cq,rfl,h⟩
  refine ⟨_,_,_,rfl,aq hadA h1 (gh (h.pick 7 [6,0,2,3,4,5]) hadA (by rw [Ss]; omega) fun w24 h=>?_)⟩
  obtain ⟨adB',hadB',hcoB⟩:=bH (h.pick 5 [4]) hVB
  rw [hadB] at hadB'; cases hadB'
  refine aq hadB h1 ⟨_,_,_,hcoB,ah h fun k94 w25 h=>?_⟩
  refine (aQ (us:=iv us) aK (rfl:ag Ty _ = .slice _) (rfl:ag Ty _ = .slice _) rfl rfl rfl (h.pick 7 [0,3,1,2,4,5,6]) rfl (by simp [aS]) (by show (_ + 1) * 8≤_; omega) (by omega)).mono ?_
  rintro _ w26 ⟨orr,cr,rfl,h⟩
  refine ⟨_,_,_,rfl,aq hadB h1 (gh (h.pick 7 [5,0,2,3,4,6]) hadB (by rw [Ss]; omega) fun w27 h=>⟨⟨by omega,by omega⟩,⟨i + 1,es.set i ((oq,cq),vs ++ [-8]),fs.set i ((orr,cr),us ++ [-8]),by simp,h1,by rw [SL]; exact hes,by rw [SL]; exact hfs,fun k q' hk hq'=>?_,fun k q' hk hq'=>?_,?_⟩,bA h1⟩)⟩
  ·rw [SR (by omega)] at hq'
   exact hei k q' (by omega) hq'
  ·rw [SR (by omega)] at hq'
   exact hfi k q' (by omega) hq'
  ·have eqs:(.slice oq (q.2.length + 1) cq:Value) = bF (((oq,cq),vs ++ [-8]):Lq Int):=by simp [bF,hvs]
   have eqo:own 1 oq (q.2.length + 1) cq (iv vs ++ [.int .i64 (-8)]) = bX 1 iv (((oq,cq),vs ++ [-8]):Lq Int):=by simp [bX,hvs,iv]
   have ers:(.slice orr (r.2.length + 1) cr:Value) = bF (((orr,cr),us ++ [-8]):Lq Int):=by simp [bF,hus]
   have ero:own 1 orr (r.2.length + 1) cr (iv us ++ [.int .i64 (-8)]) = bX 1 iv (((orr,cr),us ++ [-8]):Lq Int):=by simp [bX,hus,iv]
   have h:St w27 (own 1 oB N cB ((fs.map bF).set i (.slice orr (r.2.length + 1) cr)) :: own 1 orr (r.2.length + 1) cr (iv us ++ [.int .i64 (-8)]) :: own 1 oA N cA ((es.map bF).set i (.slice oq (q.2.length + 1) cq)) :: own 1 oq (q.2.length + 1) cq (iv vs ++ [.int .i64 (-8)]) :: aT ((fs.map (bX 1 iv)).eraseIdx i) :: aT ((es.map (bX 1 iv)).eraseIdx i) :: all w9):=h
   rw [eqs,ers,← Ta,← Ta] at h
   have h:=St.back (B:=own 1 orr (r.2.length + 1) cr (iv us ++ [.int .i64 (-8)])) (h.pick 6 [1,4,0,2,3,5]) hOB
   rw [ero,← Ta] at h
   have h:=St.back (B:=own 1 oq (q.2.length + 1) cq (iv vs ++ [.int .i64 (-8)])) (h.pick 5 [3,4,2,0,1]) hOA
   rw [eqo,← Ta] at h
   exact h.pick 4 [1,0,3,2]
 exact ⟨⟨by omega,by omega⟩,⟨j + 1,by simp,by omega,g79.trans (aZ 4 h.l)⟩,bA hlt⟩
end Go.Proofs.YtngdohpikfcifaaGreatDoor
namespace Go.V
open Go.RowKit Go.WideShapes Go.ChangeShapes
theorem F4 {w:World} {a:Addr} {v:Value} (h:w.cell? a = some v):qx (hp w) a = some v:=by
 unfold World.cell? at h
 unfold qx hp
 cases ho:w.heap[a.block]? with
 | none=>rw [ho] at h; cases h
 | some o=>rw [ho] at h; cases o <;> first | exact h | cases h
theorem C0 {α β : Type} {f:α→Option β}:∀ {l:List α} {r:List β},l.mapM f = some r→r.length = l.length∧∀ (i:Nat) (a:α) (b:β),l[i]? = some a→r[i]? = some b→f a = some b
 | [],r,h=>by
  simp at h; subst h; exact ⟨rfl,fun i a b ha=>by simp at ha⟩
 | x :: l,r,h=>by
  simp only [List.mapM_cons,Option.bind_eq_bind,Option.bind_eq_some_iff,Option.pure_def,Option.some.injEq] at h
  obtain ⟨b,hb,r',hr',rfl⟩:=h
  obtain ⟨h1,h2⟩:=C0 hr'
  refine ⟨by simp [h1],fun i a b' ha hb'=>?_⟩
  cases i with
  | zero=>simp at ha hb'; subst ha; subst hb'; exact hb
  | succ i=>exact h2 i a b' (by simpa using ha) (by simpa using hb')
theorem Km {w:World} {base n:Nat} {a:Addr} {vs:List Value} (h:w.cells? base a n = some vs):ax (hp w) a vs:=by
 unfold World.cells? at h
 split at h
 ·obtain ⟨h1,h2⟩:=C0 h
  intro j v hj
  have hlt:=(Sk.1 hj).1
  rw [h1,Ts] at hlt
  exact F4 (h2 j j v (by simp [hlt]) hj)
 ·cases h
theorem si {H:Type} {P:Program} {e:TypeId} {N:Nat}:∀ {l:List (DataW H)},(DataW.weightsAll P e l).all (·≤N) = true→∀ d∈l,(d.weights P e).all (·≤N) = true
 | [],_,d,hd=>by simp at hd
 | x :: l,h,d,hd=>by
  rw [DataW.weightsAll,List.all_append,SB] at h
  rcases SA.1 hd with rfl | hd
  ·exact h.1
  ·exact si h.2 d hd
theorem iT {H:Type} {P:Program} {N:Nat}:∀ {ts:List TypeId} {l:List (DataW H)},(DataW.weightsEach P ts l).all (·≤N) = true→∀ (i:Nat) t d,ts[i]? = some t→l[i]? = some d→(d.weights P t).all (·≤N) = true
 | [],l,_,i,t,d,ht,_=>by simp at ht
 | _ :: _,[],_,i,t,d,_,hd=>by simp at hd
 | t0 :: ts,x :: l,h,i,t,d,ht,hd=>by
  rw [DataW.weightsEach,List.all_append,SB] at h
  cases i with
  | zero=>simp at ht hd; subst ht; subst hd; exact h.1
  | succ i=>exact iT h.2 i t d (by simpa using ht) (by simpa using hd)
def HA (P:Program) (α : Type) [nI α] (bd:α→Prop) (t:TypeId):Prop :=
 ∀ {H:Type} (enc:TypeId × Value→H) (W:World) (n:Nat) (cs:List Value) (x:DataW H × List MemPlace),DataW.trod enc P W 0 (fun _=>true) true n t cs = some x→(x.1.weights P t).all (·≤reachBytes) = true→∃ y:α,rd (hp W) y cs∧bd y
def anyS:ByteArray→Prop:=fun s=>s.size≤reachBytes
def HB {α : Type} (bytes:Nat) (bd:α→Prop):List α→Prop:=fun xs=>xs.length * bytes≤reachBytes∧∀ x∈xs,bd x
section
variable {P:Program} {t e:TypeId}
theorem OM (ht:P.underlying t = some (.int .i64)):HA P Int anyI t:=by
 intro H enc W n cs x h hw
 obtain ⟨z,rfl,_,hwf⟩:=DataW.trod_int ht h
 refine ⟨z,rfl,?_⟩
 have:IntKind.i64.min≤z∧z≤IntKind.i64.max:=by simpa [Lit.wf] using hwf
 exact this
theorem ON (ht:P.underlying t = some .string):HA P ByteArray anyS t:=by
 intro H enc W n cs x h hw
 obtain ⟨z,rfl,rfl,_⟩:=DataW.trod_string ht h
 refine ⟨z,rfl,?_⟩
 simpa [DataW.weights,anyS] using hw
theorem sQ {α : Type} [nI α] {bd:α→Prop} {bb:Nat} (ht:P.underlying t = some (.slice e)) (hc:P.cellsOf e = nI.n α) (hb:P.bytesOf e = bb) (he:HA P α bd e):HA P (List α) (HB bb bd) t:=by
 intro H enc W n cs x h hw
 rcases DataW.trod_slice ht h with ⟨rfl,rfl⟩ | ⟨a,len,cap,elems,rest,m,rfl,rfl,rfl,_,hlc,hcm,hel,hg,_,_⟩
 ·exact ⟨[],⟨none,0,0,rfl,SF _,aW.nil⟩,by simp [reachBytes],fun x hx=>by simp at hx⟩
 ·simp only [DataW.weights,ht,List.all_cons,List.all_append,SB,Sy,Ss] at hw
  obtain ⟨hw1,hw2,_⟩:=hw
  have key:∀ k,k≤len→∃ ys:List α,ys.length = k∧(∀ i y,ys[i]? = some y→∃ vs,ax (hp W) (a.add (dP i (nI.n α))) vs∧rd (hp W) y vs)∧∀ y∈ys,bd y:=by
   intro k
   induction k with
   | zero=>exact fun _=>⟨[],rfl,fun i y hy=>by simp at hy,fun y hy=>by simp at hy⟩
   | succ k ih =>
    intro hk
    obtain ⟨ys,h1,h2,h3⟩:=ih (by omega)
    have hgk:=hg k (by omega)
    obtain ⟨d,hd⟩ : ∃ d,elems[k]? = some d:=⟨elems[k]'(by omega),Sm _⟩
    rw [hd,Option.bind_eq_some_iff] at hgk
    obtain ⟨vs,hv1,hv2⟩:=hgk
    obtain ⟨y,hy1,hy2⟩:=he enc W m vs d hv2 (si hw2 _ (by
     have:=Sl hd
     exact List.mem_map_of_mem this))
    refine ⟨ys ++ [y],by simp [h1],fun i z hz=>?_,fun z hz=>?_⟩
    ·by_cases hi:i < k
     ·rw [Sw (by omega)] at hz
      exact h2 i z hz
     ·have:i = k:=by
       have:=(Sk.1 hz).1
       simp at this; omega
      subst this
      rw [SC (by omega),h1,Tx] at hz
      cases hz
      refine ⟨vs,?_,hy1⟩
      rw [aH,← hc]
      exact Km hv1
    ·rcases Sp.1 hz with hz | hz
     ·exact h3 z hz
     ·simp at hz; subst hz; exact hy2
  obtain ⟨ys,h1,h2,h3⟩:=key len (SF _)
  refine ⟨ys,⟨some a,len,cap,rfl,hlc,h1,fun i y hy=>?_⟩,?_,h3⟩
  ·obtain ⟨vs,h4,h5⟩:=h2 i y hy
   exact ⟨a,vs,rfl,h4,h5⟩
  ·rw [h1,← hb,← hel]
   exact SK (TT _ (Nat.le_add_right _ _)) hw1
theorem vd {fs:Array Field} (ht:P.underlying t = some (.struct fs)) {H:Type} {enc:TypeId × Value→H} {W:World} {n:Nat} {cs:List Value} {x:DataW H × List MemPlace} (h:DataW.trod enc P W 0 (fun _=>true) true n t cs = some x) (hw:(x.1.weights P t).all (·≤reachBytes) = true) :
  cs.length = P.cellsOf t∧∀ (i:Nat) (f:Field) (ty k o:Nat),fs[i]? = some f→P.cellsOf ty = k→f.type = ty→f.offset = o→∃ (m:Nat) (d:DataW H × List MemPlace),DataW.trod enc P W 0 (fun _=>true) true m ty ((cs.drop o).take k) = some d∧(d.1.weights P ty).all (·≤reachBytes) = true:=by
 obtain ⟨xs,m,rfl,rfl,hl,hxs,hf⟩:=DataW.trod_struct ht h
 refine ⟨hl,?_⟩
 rintro i f _ _ _ hi rfl rfl rfl
 have hlt:=(S3.1 hi).1
 obtain ⟨d,hd⟩ : ∃ d,xs[i]? = some d:=⟨xs[i]'(by omega),Sm _⟩
 refine ⟨m,d,by rw [hf i f hi,hd],?_⟩
 simp only [DataW.weights,ht] at hw
 exact iT hw i f.type d.1 (by simp [hi]) (by simp [hd])
theorem OO {α : Type} [nI α] {bd:α→Prop} (ho:HA P α bd t) {H:Type} {enc:TypeId × Value→H} {W:World} {v:Value} {d:DataW H} {ps:List MemPlace} (h:DataW.Trod enc P W 0 (fun _=>true) true t v d ps)
  (hw:(d.weights P t).all (·≤reachBytes) = true):∃ y:α,rd (hp W) y v.cells.toList∧bd y:=by
 obtain ⟨n,h⟩:=h
 exact ho enc W n _ _ h hw
theorem HC {α : Type} [nI α] {bd:α→Prop} {fs:Array Field} (ho:HA P α bd t) (ht:P.underlying t = some (.struct fs)) {H:Type} {enc:TypeId × Value→H} {W:World} {b:Nat} {v:Value} {d:DataW H} {ps:List MemPlace}
  (hval:Value.okWide P W .any b t v) (h:DataW.Trod enc P W 0 (fun _=>true) true t v d ps) (hw:(d.weights P t).all (·≤reachBytes) = true):∃ (x:α) (cs:List Value),v = .agg ⟨cs⟩∧rd (hp W) x cs∧bd x:=by
 obtain ⟨x,hr,hb⟩:=OO ho h hw
 simp only [Value.okWide,ht] at hval
 obtain ⟨cs,rfl,_⟩:=hval
 exact ⟨x,cs.toList,rfl,hr,hb⟩
theorem MS {w w' : World} (h:Ev w w') (g:Gr w w'):Below w.heap.size w w':=by
 refine ⟨h.os,h.tape,h.output,h.size,fun k hk=>?_⟩
 cases ho:w.heap[k]? with
 | none=>rw [Array.getElem?_eq_none_iff] at ho; omega
 | some o =>
  by_cases hd:Eg o = true
  ·have:hp w k = some o:=by unfold hp; rw [ho,zZ hd]
   exact l7 (g k o this)
  ·cases o <;> first | exact absurd rfl hd | exact h.dfr _ _ ho
theorem ua (hl:laidOutB P = true) {H:Type} {enc:TypeId × Value→H} {W W' : World} (hb:Below W.heap.size W W') {sp:Nat→Bool}:∀ {ts:List TypeId} {vs:List Value} {ds:List (DataW H)} {ps:List MemPlace},
  (ts.all fun t=>P.readableRec t && decide (t < P.types.size)) = true→DataW.TrodAll enc P W 0 (fun _=>true) true ts vs ds ps→(∀ x∈ps,x.block < W.heap.size)→(∀ x∈ps,sp x.block = true) →
  DataW.TrodAll enc P W' 0 sp true ts vs ds ps
 | [],[],[],ps,_,h,_,_=>h
 | [],_ :: _,_,_,_,h,_,_=>h.elim
 | [],[],_ :: _,_,_,h,_,_=>h.elim
 | _ :: _,[],_,_,_,h,_,_=>h.elim
 | _ :: _,_ :: _,[],_,_,h,_,_=>h.elim
 | t :: ts,v :: vs,d :: ds,ps,ht,h,hlt,hsp=>by
  obtain ⟨p,q,h1,h2,rfl⟩:=h
  rw [List.all_cons,SB,SB,Sy] at ht
  exact ⟨p,q,WideElems.Trod_stays hl ht.1.1 ht.1.2 h1 (fun x hx=>hb.same (hlt x (by simp [hx]))) (fun x hx=>hsp x (by simp [hx])),ua hl hb ht.2 h2 (fun x hx=>hlt x (by simp [hx])) (fun x hx=>hsp x (by simp [hx])),rfl⟩
theorem MT {H:Type} {enc:TypeId × Value→H} {s:ChangeSpec} {f:Func} {W W' : World} {args:Array Value} {ds gs:List (DataW H)} {before:List MemPlace} {tb:TypeId} (hv:s.vars = []) (hrt:f.resultTypes = #[tb]) (htb:P.underlying tb = some .bool)
  (hsp:s.fn H (ds ++ gs) = { results:=[.lit (.bool true)],args:=ds }) (hl:laidOutB P = true) (hrd:(f.params.toList.all fun t=>P.readableRec t && decide (t < P.types.size)) = true)
  (hW:DataW.Whole enc P f.params.toList s.vars false W args.toList ds gs before) (hE:Ev W W') (hg:Gr W W'):s.post enc P f false true false false W args (.bool true) W':=by
 have hb:=MS hE hg
 have hlt:∀ p∈before,p.block < W.heap.size:=fun p hp=>hW.lt p hp
 have hold:∀ p∈before,(fun b=>decide (b < W.heap.size)) p.block = true:=fun p hp=>by simpa using hlt p hp
 have hW':=hW
 obtain ⟨p,q,h1,h2,rfl,h3,h4⟩:=hW
 have hq:q = []:=by
  rw [hv] at h2
  cases gs with
  | nil=>exact h2
  | cons _ _=>exact h2.elim
 subst hq
 rw [S6] at *
 have hargs:∀ sp:Nat→Bool,(∀ x∈p,sp x.block = true)→DataW.TrodAll enc P W' 0 sp true f.params.toList args.toList (s.fn H (ds ++ gs)).args p:=fun sp hs=>by
  rw [hsp]; exact ua hl hb hrd h1 hlt hs
 have hvars:∀ sp:Nat→Bool,DataW.TrodVars enc P W' sp s.vars (s.fn H (ds ++ gs)).vars []:=fun sp=>by
  rw [hsp,hv]; exact rfl
 have hres:∀ (b:Nat) (sp:Nat→Bool) (hd:Bool),DataW.TrodAll enc P W' b sp hd f.resultTypes.toList ((Value.bool true).resultList f.resultTypes.size) (s.fn H (ds ++ gs)).results []:=fun b sp hd=>by
  rw [hsp,hrt]; exact trodAll_cons_mk (shut_bool htb _) trodAll_mk0
 have hok:∀ (j:Nat) (t:TypeId) (r:Value),f.resultTypes[j]? = some t→((Value.bool true).resultList f.resultTypes.size)[j]? = some r→Value.okWide P W' .any 0 t r:=ok_one hrt rfl (okWide_bool_mk htb _)
 refine ⟨ds,gs,p,[],p,[],hW',hres _ _ _,hargs _ hold,hvars _,World.keptBut_mono (fun x hx=>⟨hx,?_⟩) (hb.frame (·∈p)),fun _=>?_⟩
 ·exact Or.inr (by simpa using hx)
 ·refine ⟨hok,_,_,([] ++ p) ++ [],⟨[] ++ p,[],trodAll_append (hargs _ (fun _ _=>rfl)) (hres _ _ _),hvars _,rfl,?_,?_⟩,?_⟩
  ·intro b off hp
   have hin:MemPlace.cell b off∈p:=by simpa using hp
   rw [hb.frozen (hlt _ hin)]
   exact h3 b off hin
  ·intro ha; cases ha
  ·intro x hx _
   simpa using hx
end
end Go.V
namespace Go.Proofs.YtngdohpikfcifaaGreatDoor
open Go.V Go.RowKit Go.WideShapes Go.ChangeShapes Go.ChangeAt
theorem R4:ownKnob Tryz.prog.godebug = none:=by kernel_rfl
theorem Rr:laidOutB Tryz.prog = true:=by kernel_rfl
theorem BE:Tryz.prog.cellsOf 3 = 1:=by kernel_rfl
theorem Qt:Tryz.prog.bytesOf 3 = 8:=by kernel_rfl
theorem F5:Tryz.prog.cellsOf 9 = 1:=by kernel_rfl
theorem MU:Tryz.prog.bytesOf 9 = 16:=by kernel_rfl
theorem F6:Tryz.prog.cellsOf 24 = 1:=by kernel_rfl
theorem MV:Tryz.prog.cellsOf 22 = 1:=by kernel_rfl
theorem MW:Tryz.prog.cellsOf 23 = 1:=by kernel_rfl
theorem MX:Tryz.prog.cellsOf 25 = 1:=by kernel_rfl
theorem MY:Tryz.prog.cellsOf 92 = 2:=by kernel_rfl
theorem Qu:Tryz.prog.bytesOf 92 = 24:=by kernel_rfl
theorem MZ:Tryz.prog.cellsOf 55 = 3:=by kernel_rfl
theorem Qv:Tryz.prog.bytesOf 55 = 40:=by kernel_rfl
theorem Qw:Tryz.prog.cellsOf 27 = 5:=by kernel_rfl
theorem M0:HA Tryz.prog Int anyI 3:=OM Tryz.underlying3
theorem O_:HA Tryz.prog (List Int) (HB 8 anyI) 24:=sQ Tryz.underlying24 BE Qt M0
theorem Rs:HA Tryz.prog ByteArray anyS 9:=ON Tryz.underlying9
theorem Rt:HA Tryz.prog (List ByteArray) (HB 16 anyS) 23:=sQ Tryz.underlying23 F5 MU Rs
theorem Ru:HA Tryz.prog ij (fun t=>anyS t.name∧anyI t.level) 92:=by
 intro H enc W n cs x h hw
 obtain ⟨hl,hf⟩:=vd Tryz.underlying92 h hw
 rw [MY] at hl
 obtain ⟨_,_,t0,w0⟩:=hf 0 _ 9 1 0 rfl F5 rfl rfl
 obtain ⟨_,_,t1,w1⟩:=hf 1 _ 3 1 1 rfl BE rfl rfl
 obtain ⟨y0,r0,b0⟩:=Rs enc W _ _ _ t0 w0
 obtain ⟨y1,r1,b1⟩:=M0 enc W _ _ _ t1 w1
 match cs,hl with
 | [c0,c1],_ =>
  have e0:[c0] = [.string y0]:=r0
  have e1:[c1] = [.int .i64 y1]:=r1
  cases e0; cases e1
  exact ⟨⟨y0,y1⟩,rfl,b0,b1⟩
theorem Qx:HA Tryz.prog (List ij) (HB 24 fun t=>anyS t.name∧anyI t.level) 22:=sQ Tryz.underlying22 MY Qu Ru
theorem Rv:HA Tryz.prog aJ (fun p=>anyI p.left∧HB 8 anyI p.right∧anyI p.level) 55:=by
 intro H enc W n cs x h hw
 obtain ⟨hl,hf⟩:=vd Tryz.underlying55 h hw
 rw [MZ] at hl
 obtain ⟨_,_,t0,w0⟩:=hf 0 _ 3 1 0 rfl BE rfl rfl
 obtain ⟨_,_,t1,w1⟩:=hf 1 _ 24 1 1 rfl F6 rfl rfl
 obtain ⟨_,_,t2,w2⟩:=hf 2 _ 3 1 2 rfl BE rfl rfl
 obtain ⟨y0,r0,b0⟩:=M0 enc W _ _ _ t0 w0
 obtain ⟨y1,⟨a,l,c,r1,hlc,r1'⟩,b1⟩:=O_ enc W _ _ _ t1 w1
 obtain ⟨y2,r2,b2⟩:=M0 enc W _ _ _ t2 w2
 match cs,hl with
 | [c0,c1,c2],_ =>
  have e0:[c0] = [.int .i64 y0]:=r0
  have e1:[c1] = [.slice a l c]:=r1
  have e2:[c2] = [.int .i64 y2]:=r2
  cases e0; cases e1; cases e2
  exact ⟨⟨y0,y1,y2⟩,⟨a,l,c,rfl,hlc,r1'⟩,b0,b1,b2⟩
theorem Qy:HA Tryz.prog (List aJ) (HB 40 fun p=>anyI p.left∧HB 8 anyI p.right∧anyI p.level) 25:=sQ Tryz.underlying25 MZ Qv Rv
def R5 (g:af):Prop:=iM g∧g.terms.length * 24≤140737488355328∧g.nons.length * 16≤140737488355328
theorem Rw:HA Tryz.prog af R5 27:=by
 intro H enc W n cs x h hw
 obtain ⟨hl,hf⟩:=vd Tryz.underlying27 h hw
 rw [Qw] at hl
 obtain ⟨_,_,t0,w0⟩:=hf 0 _ 22 1 0 rfl MV rfl rfl
 obtain ⟨_,_,t1,w1⟩:=hf 1 _ 23 1 1 rfl MW rfl rfl
 obtain ⟨_,_,t2,w2⟩:=hf 2 _ 24 1 2 rfl F6 rfl rfl
 obtain ⟨_,_,t3,w3⟩:=hf 3 _ 3 1 3 rfl BE rfl rfl
 obtain ⟨_,_,t4,w4⟩:=hf 4 _ 25 1 4 rfl MX rfl rfl
 obtain ⟨y0,⟨a0,l0,c0',r0,k0,q0⟩,b0⟩:=Qx enc W _ _ _ t0 w0
 obtain ⟨y1,⟨a1,l1,c1',r1,k1,q1⟩,b1⟩:=Rt enc W _ _ _ t1 w1
 obtain ⟨y2,⟨a2,l2,c2',r2,k2,q2⟩,b2⟩:=O_ enc W _ _ _ t2 w2
 obtain ⟨y3,r3,b3⟩:=M0 enc W _ _ _ t3 w3
 obtain ⟨y4,⟨a4,l4,c4',r4,k4,q4⟩,b4⟩:=Qy enc W _ _ _ t4 w4
 match cs,hl with
 | [c0,c1,c2,c3,c4],_ =>
  have e0:[c0] = [.slice a0 l0 c0']:=r0
  have e1:[c1] = [.slice a1 l1 c1']:=r1
  have e2:[c2] = [.slice a2 l2 c2']:=r2
  have e3:[c3] = [.int .i64 y3]:=r3
  have e4:[c4] = [.slice a4 l4 c4']:=r4
  cases e0; cases e1; cases e2; cases e3; cases e4
  refine ⟨⟨y0,y1,y2,y3,y4⟩,⟨⟨a0,l0,c0',a1,l1,c1',a2,l2,c2',y3,a4,l4,c4'⟩,rfl,q0,q1,q2,rfl,q4,k0,k1,k2,k4⟩,?_⟩
  have z0:=b0.1
  have z1:=b1.1
  have z2:=b2.1
  have z4:=b4.1
  unfold reachBytes at z0 z1 z2 z4
  refine ⟨⟨by show y0.length≤_; omega,by show y1.length≤_; omega,by show y2.length≤_; omega,by show y4.length * 40≤_; omega,fun t ht=>⟨?_,(b0.2 t ht).2⟩,fun s hs=>?_,fun p hp=>?_⟩,by show y0.length * 24≤_; omega,by show y1.length * 16≤_; omega⟩
  ·have:=(b0.2 t ht).1; unfold anyS reachBytes at this; omega
  ·have:=b1.2 s hs; unfold anyS reachBytes at this; omega
  ·have:=(b4.2 p hp).2.1.1; unfold reachBytes at this; omega

theorem Rx : Tryz.prog.globalNamed "math/bits.deBruijn64tab" = some 0 := by kernel_rfl
theorem M1:(Tryz.prog.globals[0]?).map (·.type) = some 215:=by kernel_rfl
theorem M3:Tryz.prog.cellsOf 215 = 64:=by kernel_rfl
theorem Kn:Tryz.prog.cellsOf 5 = 1:=by kernel_rfl
theorem table {W : World} (h : laidMetH Tryz.prog [("math/bits.deBruijn64tab", Rows.laid_math_bits_deBruijn64tab)] W) : gz (hp W) := by
 have ht : Lib.TabIs Tryz.prog W "math/bits.deBruijn64tab" .u8 (Lib.deBruijn64tab.map fun (k : Nat) => (k : Int)) :=
  Lib.tabIs_of_head (rest:=[]) Rx M1 Tryz.underlying215 Tryz.underlying5 Kn M3 h
 refine .inr ⟨_,rfl,fun j v hj=>?_⟩
 have hlt:=(Sk.1 hj).1
 have hc:=ht.cell Rx j (by simpa [Ny] using hlt)
 rw [aO]
 refine F4 (hc.trans ?_)
 rw [← hj]
 simp only [Ny,Sn,Ss] at hj hlt ⊢
 rw [Sm hlt]
 simp [hlt]
noncomputable def yz (os:Os):World :=
  { World.holding Tryz.prog os ⟨#[],#[],[]⟩ with heap:=(World.holding Tryz.prog os ⟨#[],#[],[]⟩).heap.modify 0 fun
      | .cells _ t frozen=>.cells ⟨Ny⟩ t frozen
      | o=>o }
end Go.Proofs.YtngdohpikfcifaaGreatDoor
