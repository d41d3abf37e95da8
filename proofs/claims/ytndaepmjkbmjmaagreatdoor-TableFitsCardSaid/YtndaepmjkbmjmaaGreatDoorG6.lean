/- Texts of this claim, one behind the other. -/
import Derived.Test.YtndaepmjkbmjmaaGreatDoorG5
import Derived.Test.YtndaepmjkbmjmaaGreatDoorG1
import Derived.Test.YtndaepmjkbmjmaaGreatDoorG2
import Derived.Test.YtndaepmjkbmjmaaGreatDoorCards
import Derived.Test.YtndaepmjkbmjmaaGreatDoorTie
import Derived.WalkKit
import Derived.ProofKit
import Derived.OpenShut
import Derived.Carry
import Derived.OpenVars
import Derived.Deep.DeepHandedRow
import Derived.Lib.LaidTab
set_option linter.unusedVariables false
set_option maxRecDepth 4000
namespace Go.V
abbrev CkQ:=(Int × Int) × Lq ActT
def ckE (b:CkQ):List Value:=[.int .i64 b.1.1,.int .i64 b.1.2,slQ b.2]
def ckV (bs:List CkQ):List Value:=bs.flatMap ckE
def ckO (bs:List CkQ):List Asn:=bs.map fun b=>owQ 2 acV b.2
def toCk (b:CkQ):CellT:=⟨b.1.1,b.1.2,b.2.2⟩
def plQ (b:CkQ):PlcT × Lq ActT:=(⟨b.1.1,b.1.2⟩,b.2)
theorem ckV_len (bs:List CkQ):(ckV bs).length = bs.length * 3:=fm_len (f:=ckE) (n:=3) (fun _=>rfl) bs
theorem ckV_app (xs ys:List CkQ):ckV (xs ++ ys) = ckV xs ++ ckV ys:=List.flatMap_append
theorem sub_perm {α : Type}:∀ {l1 l2:List α},l1.Nodup→(∀ x∈l1,x∈l2)→∃ l3,l2.Perm (l1 ++ l3)
  | [],l2,_,_=>⟨l2,.refl _⟩
  | a :: l1,l2,hn,hs=>by
    obtain ⟨h1,h2⟩:=List.nodup_cons.1 hn
    obtain ⟨s,t,rfl⟩:=List.append_of_mem (hs a (by simp))
    obtain ⟨l3,h3⟩:=sub_perm (l2:=s ++ t) h2 fun x hx=>by
      have:=hs x (by simp [hx])
      simp only [List.mem_append,List.mem_cons] at this ⊢
      rcases this with h | rfl | h
      · exact .inl h
      · exact absurd hx h1
      · exact .inr h
    exact ⟨l3,List.perm_middle.trans (.cons a h3)⟩
section
variable {g:GramT} {nn:List Bool} {ss:List SQ} {least:Nat} {w:World} {L:List Asn}
theorem cells_take {ds:List CkQ} {ps:List (PlcT × Lq ActT)} {n:Nat} (hd:ds.map toCk = cellN g nn ss least n) (hm:∀ d∈ds,plQ d∈ps) (h:St w (sta (mO 2 acV ps) :: L)):St w (sta (ckO ds) :: L):=by
  have hnd:(ds.map plQ).Nodup:=by
    have h1:(ds.map toCk).Pairwise CellT.lt:=by rw [hd]; exact cellN_srt n
    rw [List.pairwise_map] at h1
    rw [List.nodup_iff_pairwise_ne,List.pairwise_map]
    refine h1.imp fun {a b} h e=>?_
    have e1:=congrArg (fun z=>z.1.st) e
    have e2:=congrArg (fun z=>z.1.tm) e
    unfold CellT.lt toCk at h
    simp only [plQ] at e1 e2
    simp only at h
    omega
  obtain ⟨l3,h3⟩:=sub_perm hnd (l2:=ps) fun x hx=>by
    obtain ⟨d,hd,rfl⟩:=List.mem_map.1 hx
    exact hm d hd
  have hp:(mO 2 acV ps).Perm (ckO ds ++ mO 2 acV l3):=by
    have:=h3.map fun q=>owQ 2 acV q.2
    rw [List.map_append,List.map_map] at this
    exact this
  have h1:=(St.flat.1 h).perm (hp.append_right _)
  rw [List.append_assoc] at h1
  have h2:St w (sta (ckO ds) :: (mO 2 acV l3 ++ L)):=St.flat.2 h1
  have h3:St w (mO 2 acV l3 ++ (sta (ckO ds) :: L)):=h2.perm List.perm_middle.symm
  exact (St.flat.2 h3).tail
theorem place_get (ps:List (PlcT × Lq ActT)) (p:PlcT):∃ e:Lq ActT,(assoc p (mV ps)).getD (.slice none 0 0) = slQ e∧e.2 = getK p ps∧(e.2≠[]→(p,e)∈ps):=by
  rw [assoc_mV]
  unfold getK
  cases h:getQ p ps with
  | none=>exact ⟨((none,0),[]),rfl,rfl,fun h=>absurd rfl h⟩
  | some e=>exact ⟨e,rfl,rfl,fun _=>getQ_mem h⟩
end
end Go.V
namespace Go.Proofs.YtndaepmjkbmjmaaGreatDoor
open Go.V
variable {w:World} {L:List Asn} {g:GramT} {x:GA}
set_option maxHeartbeats 4000000 in
theorem y_cells {least:Nat} (hl1:1≤least) (hl2:least≤10) (hg:gR (hp w) g x) (hb:okG g) (ht:tabA (hp w)):Run Tryz.prog n_table_cells [.agg ⟨x.cells⟩,.int .i64 (least:Int)] w fun v w'=>∃ (ss:List SQ) (ask int f:Int) (nn:List Bool) (o:Option Addr) (c:Nat) (ds:List CkQ),v = .tuple #[.slice o ds.length c,.int .i64 f]∧Res g ss ask int f∧(f = 0→NnP g nn)∧ds.map toCk = cellL g nn ss least∧St w' (own 3 o ds.length c (ckV ds) :: sta (ckO ds) :: all w):=by
  refine run_table_cells _ _ _ _ _ _ _ _ _ _ _ _ _ _ w _ (gbox hg fun k1 w1 gw hg1 B=>?_)
  refine ⟨_,_,_,_,_,_,_,_,_,_,_,_,_,B.row (sub.refl _),(y_gather hg1 hb (rdV.mono gw ht)).mono ?_⟩
  rintro _ w2 ⟨ss,ask,int,f,nn,b,z,rfl,hR,hn,g12,h2⟩
  refine ⟨_,_,_,rfl,br_intro (fun h1=>?_) fun h1=>?_⟩
  · have h1:f≠0:=by simpa using h1
    have hz:=hR.nil h1
    subst hz
    exact ⟨[],ask,int,f,[],none,0,[],rfl,hR,fun h=>absurd h h1,rfl,own_nil 3 ((St.flat (M:=[])).2 (St.here (gw.trans g12)))⟩
  have h1:f = 0:=by simpa using h1
  subst h1
  obtain ⟨hc,hA⟩:=hR.aut rfl
  obtain ⟨k,ps,rfl,rfl,hG,h⟩:=h2 rfl
  have h256:=hA.dn.2.1
  obtain ⟨sT,sN,sP,_,_,_⟩:=hc.sizes
  have tl:=hg.t.1
  have hcl:∀ n,n≤ss.length→(cellN g nn ss least n).length≤16640:=fun n hn=>by
    have h1:=cellN_len (g:=g) (nn:=nn) (ss:=ss) (least:=least) (n:=n)
    have h2:n * g.T≤256 * 65:=Nat.mul_le_mul (by omega) sT
    omega
  refine ⟨fun o n c z w'=>∃ (q:Nat) (ds:List CkQ),z = q∧q≤ss.length∧n = ds.length∧ds.map toCk = cellN g nn ss least q∧(∀ d∈ds,plQ d∈ps)∧St w' (own 3 o n c (ckV ds) :: mapA k (mV ps) :: sta (mO 2 acV ps) :: all w1),fun _ _ _ z _=>ss.length - z.toNat,⟨0,[],rfl,Nat.zero_le _,rfl,rfl,fun d hd=>by simp at hd,own_nil 3 h⟩,?_⟩
  clear h
  rintro _ o6 _ c6 _ w3 ⟨q,ds,rfl,hq,rfl,hds,hdp,h⟩
  refine br_intro (fun h1=>?_) fun h1=>?_
  rotate_left
  · have h1:q = ss.length:=by have:=of_decide_eq_false h1; omega
    subst h1
    have h:=cells_take hds hdp (h.pick 3 [2,0])
    exact ⟨ss,ask,int,0,nn,_,_,ds,rfl,hR,hn,hds,St.on2 (h.pick 2 [1,0]) (has_i gw)⟩
  have h1:q < ss.length:=by have:=of_decide_eq_true h1; omega
  have hcq:=hcl q hq
  refine ⟨_,_,_,B.c0 (rdH 3 h.l),fun o n c z w'=>∃ (t:Nat) (ds:List CkQ),z = t∧t≤g.T∧n = ds.length∧ds.map toCk = cellN g nn ss least q ++ cellR g nn ss least q t∧(∀ d∈ds,plQ d∈ps)∧St w' (own 3 o n c (ckV ds) :: mapA k (mV ps) :: sta (mO 2 acV ps) :: all w1),fun _ _ _ z _=>g.T - z.toNat,⟨0,ds,rfl,Nat.zero_le _,rfl,by rw [hds]; simp [cellR],hdp,h⟩,?_⟩
  clear h hds hdp
  rintro _ o8 _ c8 _ w4 ⟨t,ds2,rfl,ht2,rfl,hds,hdp,h⟩
  have hdl:ds2.length≤17000:=by
    have e:=congrArg List.length hds
    rw [List.length_map,List.length_append] at e
    have:=cellR_len (g:=g) (nn:=nn) (ss:=ss) (least:=least) (q:=q) (n:=t)
    omega
  refine br_intro (fun h2=>?_) fun h2=>?_
  rotate_left
  · have h2:t = g.T:=by have:=of_decide_eq_false h2; rw [← tl] at this; have e:g.T = g.terms.length:=rfl; omega
    refine ⟨⟨by omega,by omega⟩,⟨q + 1,ds2,by simp,h1,rfl,?_,hdp,h⟩,msr h1⟩
    rw [hds,h2,cellN_succ]
  have h2:t < g.T:=by have:=of_decide_eq_true h2; rw [← tl] at this; have e:g.T = g.terms.length:=rfl; omega
  obtain ⟨e,e1,e2,e3⟩:=place_get ps ⟨(q:Int),(t:Int)⟩
  rw [hG.2 q t h1 h2] at e2
  refine (map_lookupP (κ:=PlcT) tyOk (rfl:kdOfT Ty _ = .map _ _) key_place rfl rfl (h.pick 2 [1,0]) ⟨(q:Int),(t:Int)⟩).mono ?_
  rintro _ w5 ⟨rfl,rfl⟩
  rw [e1]
  refine ⟨_,_,_,rfl,br_intro (fun h3=>?_) fun h3=>?_⟩
  rotate_left
  · have h3:¬ least≤(actL g nn ss q t).length:=by have:=of_decide_eq_false h3; rw [e2] at this; omega
    refine ⟨⟨by omega,by omega⟩,⟨t + 1,ds2,by simp,h2,rfl,?_,hdp,h⟩,msr h2⟩
    rw [cellR_succ,show cellAt g nn ss least q t = [] by unfold cellAt; rw [if_neg h3],List.append_nil]
    exact hds
  have h3:least≤(actL g nn ss q t).length:=by have:=of_decide_eq_true h3; rw [e2] at this; omega
  refine newC_i h fun k18 w6 h=>?_
  refine (app_one (us:=ckV ds2) tyOk (rfl:kdOfT Ty _ = .slice _) (rfl:kdOfT Ty _ = .slice _) rfl rfl rfl h rfl (by simp [oneC]) (by show (ds2.length + 1) * 40≤_; omega) (by omega)).mono ?_
  rintro _ w7 ⟨o10,c10,rfl,h⟩
  refine ⟨_,_,_,rfl,⟨by omega,by omega⟩,⟨t + 1,ds2 ++ [(((q:Int),(t:Int)),e)],by simp,h2,by simp,?_,fun d hd=>?_,?_⟩,msr h2⟩
  · rw [List.map_append,hds,cellR_succ,List.append_assoc]
    congr 2
    unfold cellAt
    rw [if_pos h3,← e2]
    rfl
  · rcases List.mem_append.1 hd with hd | hd
    · exact hdp d hd
    · rw [List.mem_singleton] at hd
      subst hd
      exact e3 fun hh=>by rw [hh] at e2; rw [← e2] at h3; simp at h3; omega
  · rw [ckV_app]
    exact h.pick 2 [0]
theorem y_Merged (hg:gR (hp w) g x) (hb:okG g) (ht:tabA (hp w)):Run Tryz.prog n_table_Merged [.agg ⟨x.cells⟩] w fun v w'=>∃ (ss:List SQ) (ask int f:Int) (nn:List Bool) (o:Option Addr) (c:Nat) (ds:List CkQ),v = .tuple #[.slice o ds.length c,.int .i64 f]∧Res g ss ask int f∧(f = 0→NnP g nn)∧ds.map toCk = cellL g nn ss 1∧St w' (own 3 o ds.length c (ckV ds) :: sta (ckO ds) :: all w):=by
  refine run_table_Merged _ _ _ _ _ _ _ _ _ _ _ _ _ w _ (gbox hg fun k1 w1 gw hg1 B=>?_)
  refine ⟨_,_,_,_,_,_,_,_,_,_,_,_,_,B.row (sub.refl _),(y_cells (least:=1) (by decide) (by decide) hg1 hb (rdV.mono gw ht)).mono ?_⟩
  rintro _ w2 ⟨ss,ask,int,f,nn,o,c,ds,rfl,hR,hn,hds,h⟩
  exact ⟨_,_,_,_,rfl,ss,ask,int,f,nn,o,c,ds,rfl,hR,hn,hds,St.on2 h (has_i gw)⟩
theorem y_Clashes (hg:gR (hp w) g x) (hb:okG g) (ht:tabA (hp w)):Run Tryz.prog n_table_Clashes [.agg ⟨x.cells⟩] w fun v w'=>∃ (ss:List SQ) (ask int f:Int) (nn:List Bool) (o:Option Addr) (c:Nat) (ds:List CkQ),v = .tuple #[.slice o ds.length c,.int .i64 f]∧Res g ss ask int f∧(f = 0→NnP g nn)∧ds.map toCk = cellL g nn ss 2∧St w' (own 3 o ds.length c (ckV ds) :: sta (ckO ds) :: all w):=by
  refine run_table_Clashes _ _ _ _ _ _ _ _ _ _ _ _ _ w _ (gbox hg fun k1 w1 gw hg1 B=>?_)
  refine ⟨_,_,_,_,_,_,_,_,_,_,_,_,_,B.row (sub.refl _),(y_cells (least:=2) (by decide) (by decide) hg1 hb (rdV.mono gw ht)).mono ?_⟩
  rintro _ w2 ⟨ss,ask,int,f,nn,o,c,ds,rfl,hR,hn,hds,h⟩
  exact ⟨_,_,_,_,rfl,ss,ask,int,f,nn,o,c,ds,rfl,hR,hn,hds,St.on2 h (has_i gw)⟩
def ActR (g:GramT) (nn:List Bool) (ss:List SQ) (f q t e:Int) (acts:List ActT):Prop:=(f≠0∧e = f∧acts = [])∨(f = 0∧(q < 0∨(ss.length:Int)≤q∨t < 0∨(g.T:Int)≤t)∧e = 1∧acts = [])∨(f = 0∧∃ i j:Nat,q = i∧t = j∧i < ss.length∧j < g.T∧e = 0∧acts = actL g nn ss i j)
theorem y_Action {q t:Int} (hg:gR (hp w) g x) (hb:okG g) (ht:tabA (hp w)):Run Tryz.prog n_table_Action [.agg ⟨x.cells⟩,.int .i64 q,.int .i64 t] w fun v w'=>∃ (ss:List SQ) (ask int f e:Int) (nn:List Bool) (o:Option Addr) (c:Nat) (acts:List ActT),v = .tuple #[.slice o acts.length c,.int .i64 e]∧Res g ss ask int f∧(f = 0→NnP g nn)∧ActR g nn ss f q t e acts∧St w' (own 2 o acts.length c (acV acts) :: all w):=by
  refine run_table_Action _ _ _ _ _ _ _ _ _ _ _ _ _ _ _ w _ (gbox hg fun k1 w1 gw hg1 B=>?_)
  refine ⟨_,_,_,_,_,_,_,_,_,_,_,_,_,B.row (sub.refl _),(y_gather hg1 hb (rdV.mono gw ht)).mono ?_⟩
  rintro _ w2 ⟨ss,ask,int,f,nn,b,z,rfl,hR,hn,g12,h2⟩
  have gw2:=gw.trans g12
  refine ⟨_,_,_,rfl,br_intro (fun h1=>?_) fun h1=>?_⟩
  · have h1:f≠0:=by simpa using h1
    exact ⟨ss,ask,int,f,f,nn,none,0,[],rfl,hR,hn,.inl ⟨h1,rfl,rfl⟩,own_nil 2 (St.here gw2)⟩
  have h1:f = 0:=by simpa using h1
  subst h1
  obtain ⟨k,ps,rfl,rfl,hG,h⟩:=h2 rfl
  have tl:=hg.t.1
  have eT:g.T = g.terms.length:=rfl
  have no:(q < 0∨(ss.length:Int)≤q∨t < 0∨(g.T:Int)≤t)→∃ (ss' : List SQ) (ask int f e:Int) (nn:List Bool) (o:Option Addr) (c:Nat) (acts:List ActT),(.tuple #[.slice none 0 0,.int .i64 1] : Value) = .tuple #[.slice o acts.length c,.int .i64 e]∧Res g ss' ask int f∧(f = 0→NnP g nn)∧ActR g nn ss' f q t e acts∧St w2 (own 2 o acts.length c (acV acts) :: all w):=fun h=>⟨ss,ask,int,0,1,nn,none,0,[],rfl,hR,hn,.inr (.inl ⟨rfl,h,rfl,rfl⟩),own_nil 2 (St.here gw2)⟩
  refine br_intro (fun h1=>no (.inl (of_decide_eq_true h1))) fun h1=>br_intro (fun h2=>no (.inr (.inl (of_decide_eq_true h2)))) fun h2=>br_intro (fun h3=>no (.inr (.inr (.inl (of_decide_eq_true h3))))) fun h3=>⟨_,_,_,B.c0 (rdH 2 h.l),br_intro (fun h4=>no (.inr (.inr (.inr ?_)))) fun h4=>?_⟩
  · have:=of_decide_eq_true h4; omega
  have h1:=of_decide_eq_false h1
  have h2:=of_decide_eq_false h2
  have h3:=of_decide_eq_false h3
  have h4:=of_decide_eq_false h4
  obtain ⟨i,rfl⟩ : ∃ i:Nat,q = i:=⟨q.toNat,by omega⟩
  obtain ⟨j,rfl⟩ : ∃ j:Nat,t = j:=⟨t.toNat,by omega⟩
  have hi:i < ss.length:=by omega
  have hj:j < g.T:=by omega
  refine (map_lookupP (κ:=PlcT) tyOk (rfl:kdOfT Ty _ = .map _ _) key_place rfl rfl h ⟨(i:Int),(j:Int)⟩).mono ?_
  rintro _ w3 ⟨rfl,rfl⟩
  obtain ⟨e,M,e1,e2,he,_⟩:=mS_take rfl (h.pick 2 [1,0]) ⟨(i:Int),(j:Int)⟩
  rw [hG.2 i j hi hj] at e2
  have e1:(assoc (⟨(i:Int),(j:Int)⟩ : PlcT) (mV ps)).getD (.slice none 0 0) = slQ e:=e1
  refine ⟨_,_,_,e1,ss,ask,int,0,0,nn,e.1.1,e.1.2,e.2,rfl,hR,hn,.inr (.inr ⟨rfl,i,j,rfl,rfl,hi,hj,rfl,e2⟩),?_⟩
  exact St.on1 (he.pick 4 [0,3]) (has_i gw)
end Go.Proofs.YtndaepmjkbmjmaaGreatDoor
set_option linter.unusedVariables false
namespace Go.Proofs.YtndaepmjkbmjmaaGreatDoor
open Go.V
abbrev n_presagelaw14_TableFits:FuncId:=6
def ann_presagelaw14_TableFits:Ann:={ rngs:=[],loops:=[(11,[(9,(.one (.int .i64))),(11,(.one (.int .i64)))]),(14,[(9,(.one (.int .i64))),(12,(.one (.int .i64)))]),(19,[(10,(.one (.int .i64))),(13,(.one (.int .i64)))]),(24,[(9,(.one (.int .i64))),(10,(.one (.int .i64))),(14,(.one (.int .i64))),(15,(.one (.int .i64)))]),(30,[(9,(.one (.int .i64))),(10,(.one (.int .i64))),(14,(.one (.int .i64))),(17,(.one (.int .i64)))]),(37,[(19,(.one .bool)),(20,(.one (.int .i64)))]),(44,[(19,(.one .bool)),(22,(.one (.int .i64)))]),(51,[(19,(.one .bool)),(24,(.one (.int .i64)))])],joins:=[(5,[(50,(.one .bool))]),(29,[]),(56,[(9,(.one (.int .i64))),(10,(.one (.int .i64))),(14,(.one (.int .i64))),(19,(.one .bool))])],blocks:=[] }
set_option maxRecDepth 100000 in
def vc_presagelaw14_TableFits (a:Option Addr) (b c:Nat) (d:Option Addr) (e f:Nat) (g:Option Addr) (i j:Nat) (k:Int) (l:Option Addr) (m n:Nat) (w:World) (R:Value→WP):Prop :=  new w (oC [vS a b c,vS d e f,vS g i j,iI k,vS l m n] 27) fun k1 w1=>∃ o1 k2 k3 o2 k4 k5 o3 k6 k7 n1 o4 k8 k9,V.rowAt w1 (aM k1) 0 5 = some [vS o1 k2 k3,vS o2 k4 k5,vS o3 k6 k7,iI n1,vS o4 k8 k9]∧RunE Proofs.Tryz.prog Ev 14 [vA (Array.mk [vS o1 k2 k3,vS o2 k4 k5,vS o3 k6 k7,iI n1,vS o4 k8 k9])] w1 fun v1 w2=>∃ o5 k10 k11 o6 k12 k13 o7 k14 k15 n2 o8 k16 k17,v1 = vA (Array.mk [vS o5 k10 k11,vS o6 k12 k13,vS o7 k14 k15,iI n2,vS o8 k16 k17])∧RunE Proofs.Tryz.prog Ev 15 [vA (Array.mk [vS o5 k10 k11,vS o6 k12 k13,vS o7 k14 k15,iI n2,vS o8 k16 k17])] w2 fun v2 w3=>∃ o9 k18 k19 n3,v2 = vT (Array.mk [vS o9 k18 k19,iI n3])∧∃ o10 k20 k21 o11 k22 k23 o12 k24 k25 n4 o13 k26 k27,V.rowAt w3 (aM k1) 0 5 = some [vS o10 k20 k21,vS o11 k22 k23,vS o12 k24 k25,iI n4,vS o13 k26 k27]∧RunE Proofs.Tryz.prog Ev 14 [vA (Array.mk [vS o10 k20 k21,vS o11 k22 k23,vS o12 k24 k25,iI n4,vS o13 k26 k27])] w3 fun v3 w4=>∃ o14 k28 k29 o15 k30 k31 o16 k32 k33 n5 o17 k34 k35,v3 = vA (Array.mk [vS o14 k28 k29,vS o15 k30 k31,vS o16 k32 k33,iI n5,vS o17 k34 k35])∧RunE Proofs.Tryz.prog Ev 26 [vA (Array.mk [vS o14 k28 k29,vS o15 k30 k31,vS o16 k32 k33,iI n5,vS o17 k34 k35])] w4 fun v4 w5=>∃ o18 k36 k37 n6 n7 n8,v4 = vT (Array.mk [vA (Array.mk [vS o18 k36 k37,iI n6,iI n7]),iI n8])∧new w5 (oC [vS none 0 0,iI 0,iI 0] 45) fun k38 w6=>stR w6 (aM k38) [vS o18 k36 k37,iI n6,iI n7] fun w7=>∃ o19 k39 k40 o20 k41 k42 o21 k43 k44 n9 o22 k45 k46,V.rowAt w7 (aM k1) 0 5 = some [vS o19 k39 k40,vS o20 k41 k42,vS o21 k43 k44,iI n9,vS o22 k45 k46]∧RunE Proofs.Tryz.prog Ev 14 [vA (Array.mk [vS o19 k39 k40,vS o20 k41 k42,vS o21 k43 k44,iI n9,vS o22 k45 k46])] w7 fun v5 w8=>∃ o23 k47 k48 o24 k49 k50 o25 k51 k52 n10 o26 k53 k54,v5 = vA (Array.mk [vS o23 k47 k48,vS o24 k49 k50,vS o25 k51 k52,iI n10,vS o26 k53 k54])∧RunE Proofs.Tryz.prog Ev 27 [vA (Array.mk [vS o23 k47 k48,vS o24 k49 k50,vS o25 k51 k52,iI n10,vS o26 k53 k54])] w8 fun v6 w9=>∃ o27 k55 k56 n11,v6 = vT (Array.mk [vS o27 k55 k56,iI n11])∧∃ (x1:lP [(50,shB)]),br (n3 != n8) (x1 true w9) (x1 (n8 != n11) w9)∧∀ (I1:Nat→Value) (b1:Bool) (w10:World),x1 b1 w10→br b1 (R (vB false) w10) (br (n3 != 0) (br ((↑k18:Int) == 0) (RunE Proofs.Tryz.prog Ev 20 [] w10 fun v7 w11=>∃ b2,v7 = vB b2∧R (vB b2) w11) (R (vB false) w10)) (∃ (x2:lP [(9,shI),(11,shI)]),∃ (x3:lN [(9,shI),(11,shI)]),x2 0 0 w10∧∀ (I2:Nat→Value) (n12 n13:Int) (w12:World),x2 n12 n13 w12→∃ o28 k57 k58,World.cell? w12 (aM k38) = some (vS o28 k57 k58)∧br (decide (n13 < (↑k57:Int))) (∃ (x4:lP [(9,shI),(12,shI)]),∃ (x5:lN [(9,shI),(12,shI)]),x4 n12 0 w12∧∀ (I3:Nat→Value) (n14 n15:Int) (w13:World),x4 n14 n15 w13→∃ o29 k59 k60,World.cell? w13 (aM k38) = some (vS o29 k59 k60)∧idx o29 k59 n13 2 fun a1=>∃ o30 k61 k62,World.cell? w13 (Addr.add a1 1) = some (vS o30 k61 k62)∧br (decide (n15 < (↑k61:Int))) (∀ w14,drawn w13 w14→∃ (I4:World→Prop),I4 w14∧∃ o31 k63 k64,(∀ w15,I4 w15→World.cell? w15 (aM k38) = some (vS o31 k63 k64))∧idx o31 k63 n13 2 fun a2=>∃ o32 k65 k66,(∀ w16,I4 w16→World.cell? w16 (Addr.add a2 1) = some (vS o32 k65 k66))∧idx o32 k65 n15 2 fun a3=>∃ n16,(∀ w17,I4 w17→World.cell? w17 a3 = some (iI n16))∧∃ o33 k67 k68,(∀ w18,I4 w18→World.cell? w18 (aM k1) = some (vS o33 k67 k68))∧br (decide (n16 < (↑k67:Int))) (inI (n14 + 1)∧inI (n15 + 1)∧x4 (n14 + 1) (n15 + 1) w14∧x5 (n14 + 1) (n15 + 1) w14 < x5 n14 n15 w13) (inI (n15 + 1)∧x4 n14 (n15 + 1) w14∧x5 n14 (n15 + 1) w14 < x5 n14 n15 w13)) (inI (n13 + 1)∧x2 n14 (n13 + 1) w13∧x3 n14 (n13 + 1) w13 < x3 n12 n13 w12)) (∃ (x6:lP [(10,shI),(13,shI)]),∃ (x7:lN [(10,shI),(13,shI)]),x6 0 0 w12∧∀ (I5:Nat→Value) (n17 n18:Int) (w19:World),x6 n17 n18 w19→br (decide (n18 < (↑k55:Int))) (idx o27 k55 n18 3 fun a4=>∃ o34 k69 k70,World.cell? w19 (Addr.add a4 2) = some (vS o34 k69 k70)∧inI (n17 + (↑k69:Int))∧inI (n18 + 1)∧x6 (n17 + (↑k69:Int)) (n18 + 1) w19∧x7 (n17 + (↑k69:Int)) (n18 + 1) w19 < x7 n17 n18 w19) (∃ (x8:lP [(9,shI),(10,shI),(14,shI),(15,shI)]),∃ (x9:lN [(9,shI),(10,shI),(14,shI),(15,shI)]),x8 n12 n17 0 0 w19∧∀ (I6:Nat→Value) (n19 n20 n21 n22:Int) (w20:World),x8 n19 n20 n21 n22 w20→br (decide (n22 < (↑k18:Int))) (idx o9 k18 n22 3 fun a5=>∃ n23 n24 o35 k71 k72,V.rowAt w20 a5 0 3 = some [iI n23,iI n24,vS o35 k71 k72]∧new w20 (oC [iI 0,iI 0,vS none 0 0] 60) fun k73 w21=>stR w21 (aM k73) [iI n23,iI n24,vS o35 k71 k72] fun w22=>∃ (x10:lP []),(∀ w23,drawn w22 w23→∃ (I7:World→Prop),I7 w23∧∃ n25,(∀ w24,I7 w24→World.cell? w24 (aM k73) = some (iI n25))∧br (decide (n25 < 0)) (R (vB false) w23) (∃ n26,(∀ w25,I7 w25→World.cell? w25 (aM k73) = some (iI n26))∧∃ o36 k74 k75,(∀ w26,I7 w26→World.cell? w26 (aM k38) = some (vS o36 k74 k75))∧br (decide ((↑k74:Int)≤n26)) (R (vB false) w23) (∃ n27,(∀ w27,I7 w27→World.cell? w27 (Addr.add (aM k73) 1) = some (iI n27))∧br (decide (n27 < 0)) (R (vB false) w23) (∃ n28,(∀ w28,I7 w28→World.cell? w28 (Addr.add (aM k73) 1) = some (iI n28))∧∃ o37 k76 k77,(∀ w29,I7 w29→World.cell? w29 (aM k1) = some (vS o37 k76 k77))∧br (decide ((↑k76:Int)≤n28)) (R (vB false) w23) (∃ o38 k78 k79,(∀ w30,I7 w30→World.cell? w30 (Addr.add (aM k73) 2) = some (vS o38 k78 k79))∧br ((↑k78:Int) == 0) (R (vB false) w23) (br (decide (0 < n22)) (inI (n22 - 1)∧idx o9 k18 (n22 - 1) 3 fun a6=>∃ n29,(∀ w31,I7 w31→World.cell? w31 a6 = some (iI n29))∧∃ n30,(∀ w32,I7 w32→World.cell? w32 (aM k73) = some (iI n30))∧br (decide (n30 < n29)) (R (vB false) w23) (inI (n22 - 1)∧idx o9 k18 (n22 - 1) 3 fun a7=>∃ n31,(∀ w33,I7 w33→World.cell? w33 a7 = some (iI n31))∧∃ n32,(∀ w34,I7 w34→World.cell? w34 (aM k73) = some (iI n32))∧br (n31 == n32) (inI (n22 - 1)∧idx o9 k18 (n22 - 1) 3 fun a8=>∃ n33,(∀ w35,I7 w35→World.cell? w35 (Addr.add a8 1) = some (iI n33))∧∃ n34,(∀ w36,I7 w36→World.cell? w36 (Addr.add (aM k73) 1) = some (iI n34))∧br (decide (n34≤n33)) (R (vB false) w23) (x10 w23)) (x10 w23))) (x10 w23)))))))∧∀ (I8:Nat→Value) (w37:World),x10 w37→∃ (x11:lP [(9,shI),(10,shI),(14,shI),(17,shI)]),∃ (x12:lN [(9,shI),(10,shI),(14,shI),(17,shI)]),x11 n19 n20 n21 0 w37∧∀ (I9:Nat→Value) (n35 n36 n37 n38:Int) (w38:World),x11 n35 n36 n37 n38 w38→∃ o39 k80 k81,World.cell? w38 (Addr.add (aM k73) 2) = some (vS o39 k80 k81)∧br (decide (n38 < (↑k80:Int))) (∃ o40 k82 k83,World.cell? w38 (Addr.add (aM k73) 2) = some (vS o40 k82 k83)∧idx o40 k82 n38 2 fun a9=>∃ n39 n40,V.rowAt w38 a9 0 2 = some [iI n39,iI n40]∧new w38 (oC [iI 0,iI 0] 62) fun k84 w39=>stR w39 (aM k84) [iI n39,iI n40] fun w40=>∃ (x13:lP [(9,shI),(10,shI),(14,shI),(19,shB)]),(∃ n41,World.cell? w40 (aM k84) = some (iI n41)∧br (n41 == 1) (∃ (x14:lP [(19,shB),(20,shI)]),∃ (x15:lN [(19,shB),(20,shI)]),x14 false 0 w40∧∀ (I10:Nat→Value) (b3:Bool) (n42:Int) (w41:World),x14 b3 n42 w41→∃ o41 k85 k86,World.cell? w41 (aM k38) = some (vS o41 k85 k86)∧∃ n43,World.cell? w41 (aM k73) = some (iI n43)∧idx o41 k85 n43 2 fun a10=>∃ o42 k87 k88,World.cell? w41 (Addr.add a10 1) = some (vS o42 k87 k88)∧br (decide (n42 < (↑k87:Int))) (∃ o43 k89 k90,World.cell? w41 (aM k38) = some (vS o43 k89 k90)∧∃ n44,World.cell? w41 (aM k73) = some (iI n44)∧idx o43 k89 n44 2 fun a11=>∃ o44 k91 k92,World.cell? w41 (Addr.add a11 1) = some (vS o44 k91 k92)∧idx o44 k91 n42 2 fun a12=>∃ n45 n46,V.rowAt w41 a12 0 2 = some [iI n45,iI n46]∧new w41 (oC [iI 0,iI 0] 56) fun k93 w42=>stR w42 (aM k93) [iI n45,iI n46] fun w43=>br b3 (inI (n42 + 1)∧x14 true (n42 + 1) w43∧x15 true (n42 + 1) w43 < x15 b3 n42 w41) (∃ n47,World.cell? w43 (aM k93) = some (iI n47)∧∃ n48,World.cell? w43 (Addr.add (aM k73) 1) = some (iI n48)∧br (n47 == n48) (∃ n49,World.cell? w43 (Addr.add (aM k93) 1) = some (iI n49)∧∃ n50,World.cell? w43 (Addr.add (aM k84) 1) = some (iI n50)∧br (n49 == n50) (inI (n42 + 1)∧x14 (n38 == 0) (n42 + 1) w43∧x15 (n38 == 0) (n42 + 1) w43 < x15 b3 n42 w41) (inI (n42 + 1)∧x14 false (n42 + 1) w43∧x15 false (n42 + 1) w43 < x15 b3 n42 w41)) (inI (n42 + 1)∧x14 false (n42 + 1) w43∧x15 false (n42 + 1) w43 < x15 b3 n42 w41))) (inI (n35 - 1)∧x13 (n35 - 1) n36 n37 b3 w41)) (br (n41 == 3) (∃ (x16:lP [(19,shB),(22,shI)]),∃ (x17:lN [(19,shB),(22,shI)]),x16 false 0 w40∧∀ (I11:Nat→Value) (b4:Bool) (n51:Int) (w44:World),x16 b4 n51 w44→∃ o45 k94 k95,World.cell? w44 (aM k38) = some (vS o45 k94 k95)∧idx o45 k94 0 2 fun a13=>∃ o46 k96 k97,World.cell? w44 (Addr.add a13 1) = some (vS o46 k96 k97)∧br (decide (n51 < (↑k96:Int))) (∃ o47 k98 k99,World.cell? w44 (aM k38) = some (vS o47 k98 k99)∧idx o47 k98 0 2 fun a14=>∃ o48 k100 k101,World.cell? w44 (Addr.add a14 1) = some (vS o48 k100 k101)∧idx o48 k100 n51 2 fun a15=>∃ n52 n53,V.rowAt w44 a15 0 2 = some [iI n52,iI n53]∧new w44 (oC [iI 0,iI 0] 56) fun k102 w45=>stR w45 (aM k102) [iI n52,iI n53] fun w46=>br b4 (inI (n51 + 1)∧x16 true (n51 + 1) w46∧x17 true (n51 + 1) w46 < x17 b4 n51 w44) (∃ n54,World.cell? w46 (aM k102) = some (iI n54)∧∃ n55,World.cell? w46 (Addr.add (aM k1) 3) = some (iI n55)∧br (n54 == n55) (∃ n56,World.cell? w46 (Addr.add (aM k102) 1) = some (iI n56)∧∃ n57,World.cell? w46 (aM k73) = some (iI n57)∧br (n56 == n57) (∃ n58,World.cell? w46 (Addr.add (aM k73) 1) = some (iI n58)∧br (n58 == 0) (∃ n59,World.cell? w46 (Addr.add (aM k84) 1) = some (iI n59)∧inI (n51 + 1)∧x16 (n59 == 0) (n51 + 1) w46∧x17 (n59 == 0) (n51 + 1) w46 < x17 b4 n51 w44) (inI (n51 + 1)∧x16 false (n51 + 1) w46∧x17 false (n51 + 1) w46 < x17 b4 n51 w44)) (inI (n51 + 1)∧x16 false (n51 + 1) w46∧x17 false (n51 + 1) w46 < x17 b4 n51 w44)) (inI (n51 + 1)∧x16 false (n51 + 1) w46∧x17 false (n51 + 1) w46 < x17 b4 n51 w44))) (inI (n37 + 1)∧x13 n35 n36 (n37 + 1) b4 w44)) (br (n41 == 2) (∃ (x18:lP [(19,shB),(24,shI)]),∃ (x19:lN [(19,shB),(24,shI)]),x18 false 0 w40∧∀ (I12:Nat→Value) (b5:Bool) (n60:Int) (w47:World),x18 b5 n60 w47→br (decide (n60 < (↑k55:Int))) (∀ w48,drawn w47 w48→∃ (I13:World→Prop),I13 w48∧br b5 (inI (n60 + 1)∧x18 true (n60 + 1) w48∧x19 true (n60 + 1) w48 < x19 b5 n60 w47) (idx o27 k55 n60 3 fun a16=>∃ n61,(∀ w49,I13 w49→World.cell? w49 a16 = some (iI n61))∧∃ n62,(∀ w50,I13 w50→World.cell? w50 (aM k73) = some (iI n62))∧br (n61 == n62) (idx o27 k55 n60 3 fun a17=>∃ n63,(∀ w51,I13 w51→World.cell? w51 (Addr.add a17 1) = some (iI n63))∧∃ n64,(∀ w52,I13 w52→World.cell? w52 (Addr.add (aM k84) 1) = some (iI n64))∧br (n63 == n64) (idx o27 k55 n60 3 fun a18=>∃ o49 k103 k104,(∀ w53,I13 w53→World.cell? w53 (Addr.add a18 2) = some (vS o49 k103 k104))∧∃ n65,(∀ w54,I13 w54→World.cell? w54 (Addr.add (aM k73) 1) = some (iI n65))∧RunE Proofs.Tryz.prog Ev 28 [vS o49 k103 k104,iI n65] w48 fun v8 w55=>∃ b6,v8 = vB b6∧I13 w55∧inI (n60 + 1)∧x18 b6 (n60 + 1) w55∧x19 b6 (n60 + 1) w55 < x19 b5 n60 w47) (inI (n60 + 1)∧x18 false (n60 + 1) w48∧x19 false (n60 + 1) w48 < x19 b5 n60 w47)) (inI (n60 + 1)∧x18 false (n60 + 1) w48∧x19 false (n60 + 1) w48 < x19 b5 n60 w47))) (∀ w56,drawn w47 w56→∃ (I14:World→Prop),I14 w56∧br b5 (∃ n66,(∀ w57,I14 w57→World.cell? w57 (Addr.add (aM k84) 1) = some (iI n66))∧br (decide (0 < n66)) (br (n38 == 0) (inI (n36 - 1)∧x13 n35 (n36 - 1) n37 true w56) (∃ o50 k105 k106,(∀ w58,I14 w58→World.cell? w58 (Addr.add (aM k73) 2) = some (vS o50 k105 k106))∧inI (n38 - 1)∧idx o50 k105 (n38 - 1) 2 fun a19=>∃ n67,(∀ w59,I14 w59→World.cell? w59 a19 = some (iI n67))∧br (n67 != 2) (inI (n36 - 1)∧x13 n35 (n36 - 1) n37 true w56) (∃ o51 k107 k108,(∀ w60,I14 w60→World.cell? w60 (Addr.add (aM k73) 2) = some (vS o51 k107 k108))∧inI (n38 - 1)∧idx o51 k107 (n38 - 1) 2 fun a20=>∃ n68,(∀ w61,I14 w61→World.cell? w61 (Addr.add a20 1) = some (iI n68))∧∃ n69,(∀ w62,I14 w62→World.cell? w62 (Addr.add (aM k84) 1) = some (iI n69))∧inI (n36 - 1)∧x13 n35 (n36 - 1) n37 (decide (n68 < n69)) w56))) (inI (n36 - 1)∧x13 n35 (n36 - 1) n37 false w56)) (inI (n36 - 1)∧x13 n35 (n36 - 1) n37 false w56))) (x13 n35 n36 n37 false w40))))∧∀ (I15:Nat→Value) (n70 n71 n72:Int) (b7:Bool) (w63:World),x13 n70 n71 n72 b7 w63→br (!b7) (R (vB false) w63) (inI (n38 + 1)∧x11 n70 n71 n72 (n38 + 1) w63∧x12 n70 n71 n72 (n38 + 1) w63 < x12 n35 n36 n37 n38 w38)) (inI (n22 + 1)∧x8 n35 n36 n37 (n22 + 1) w38∧x9 n35 n36 n37 (n22 + 1) w38 < x9 n19 n20 n21 n22 w20)) (br (n19 == 0) (br (n20 == 0) (br (n21 == 1) (RunE Proofs.Tryz.prog Ev 20 [] w20 fun v9 w64=>∃ b8,v9 = vB b8∧R (vB b8) w64) (R (vB false) w20)) (R (vB false) w20)) (R (vB false) w20))))))
set_option maxRecDepth 100000 in
theorem run_presagelaw14_TableFits (a:Option Addr) (b c:Nat) (d:Option Addr) (e f:Nat) (g:Option Addr) (i j:Nat) (k:Int) (l:Option Addr) (m n:Nat) (w:World) (R:Value→WP) (h:vc_presagelaw14_TableFits a b c d e f g i j k l m n w R):Run Tryz.prog 6 [(.agg #[(.slice a b c),(.slice d e f),(.slice g i j),(.int .i64 k),(.slice l m n)])] w R:=rv Tryz.func6 ann_presagelaw14_TableFits (by kernel_rfl) h

abbrev n_presagelaw14_awake:FuncId:=20
def ann_presagelaw14_awake:Ann:={ rngs:=[],loops:=[],joins:=[],blocks:=[] }
set_option maxRecDepth 100000 in
def vc_presagelaw14_awake  (w:World) (R:Value→WP):Prop :=  new w (oC [Value.string (ByteArray.mk (Array.mk [])),iI 0,Value.string (ByteArray.mk (Array.mk [43])),iI 0,Value.string (ByteArray.mk (Array.mk [110])),iI 0] 83) fun k1 w1=>new w1 (oC [Value.string (ByteArray.mk (Array.mk [])),Value.string (ByteArray.mk (Array.mk [101]))] 9) fun k2 w2=>new w2 (oC [iI 4] 3) fun k3 w3=>new w3 (oC [iI 4,iI 1,iI 4] 3) fun k4 w4=>new w4 (oC [iI 2] 3) fun k5 w5=>new w5 (oC [iI 3,vS (some (aM k3)) 1 1,iI 0,iI 4,vS (some (aM k4)) 3 3,iI 0,iI 4,vS (some (aM k5)) 1 1,iI 0] 81) fun k6 w6=>new w6 (oC [vS none 0 0,vS none 0 0,vS none 0 0,iI 0,vS none 0 0] 27) fun k7 w7=>stR w7 (aM k7) [vS (some (aM k1)) 3 3,vS (some (aM k2)) 2 2,vS none 0 0,iI 4,vS (some (aM k6)) 3 3] fun w8=>∃ o1 k8 k9 o2 k10 k11 o3 k12 k13 n1 o4 k14 k15,V.rowAt w8 (aM k7) 0 5 = some [vS o1 k8 k9,vS o2 k10 k11,vS o3 k12 k13,iI n1,vS o4 k14 k15]∧RunE Proofs.Tryz.prog Ev 15 [vA (Array.mk [vS o1 k8 k9,vS o2 k10 k11,vS o3 k12 k13,iI n1,vS o4 k14 k15])] w8 fun v1 w9=>∃ o5 k16 k17 n2,v1 = vT (Array.mk [vS o5 k16 k17,iI n2])∧∃ o6 k18 k19 o7 k20 k21 o8 k22 k23 n3 o9 k24 k25,V.rowAt w9 (aM k7) 0 5 = some [vS o6 k18 k19,vS o7 k20 k21,vS o8 k22 k23,iI n3,vS o9 k24 k25]∧RunE Proofs.Tryz.prog Ev 21 [vA (Array.mk [vS o6 k18 k19,vS o7 k20 k21,vS o8 k22 k23,iI n3,vS o9 k24 k25])] w9 fun v2 w10=>∃ o10 k26 k27 n4,v2 = vT (Array.mk [vS o10 k26 k27,iI n4])∧∃ o11 k28 k29 o12 k30 k31 o13 k32 k33 n5 o14 k34 k35,V.rowAt w10 (aM k7) 0 5 = some [vS o11 k28 k29,vS o12 k30 k31,vS o13 k32 k33,iI n5,vS o14 k34 k35]∧RunE Proofs.Tryz.prog Ev 23 [vA (Array.mk [vS o11 k28 k29,vS o12 k30 k31,vS o13 k32 k33,iI n5,vS o14 k34 k35]),iI 4,iI 1] w10 fun v3 w11=>∃ o15 k36 k37 n6,v3 = vT (Array.mk [vS o15 k36 k37,iI n6])∧br (n2 == 0) (br (n4 == 0) (br (n6 == 0) (br ((↑k16:Int) == 8) (br ((↑k26:Int) == 1) (new w11 (oC [iI 1,iI 3,iI 2,iI 1] 62) fun k38 w12=>RunE Proofs.Tryz.prog Ev 25 [vS o15 k36 k37,vS (some (aM k38)) 2 2] w12 fun v4 w13=>∃ b1,v4 = vB b1∧R (vB b1) w13) (R (vB false) w11)) (R (vB false) w11)) (R (vB false) w11)) (R (vB false) w11)) (R (vB false) w11)
set_option maxRecDepth 100000 in
theorem run_presagelaw14_awake  (w:World) (R:Value→WP) (h:vc_presagelaw14_awake  w R):Run Tryz.prog 20 [] w R:=rv Tryz.func20 ann_presagelaw14_awake (by kernel_rfl) h

abbrev n_presagelaw14_has:FuncId:=28
def ann_presagelaw14_has:Ann:={ rngs:=[],loops:=[(2,[(5,(.one (.int .i64)))])],joins:=[],blocks:=[] }
set_option maxRecDepth 100000 in
def vc_presagelaw14_has (a:Option Addr) (b c:Nat) (d:Int) (w:World) (R:Value→WP):Prop :=  ∃ (x1:lP [(5,shI)]),∃ (x2:lN [(5,shI)]),x1 0 w∧∀ (I1:Nat→Value) (n1:Int) (w1:World),x1 n1 w1→br (decide (n1 < (↑b:Int))) (idx a b n1 1 fun a1=>∃ n2,World.cell? w1 a1 = some (iI n2)∧br (n2 == d) (R (vB true) w1) (inI (n1 + 1)∧x1 (n1 + 1) w1∧x2 (n1 + 1) w1 < x2 n1 w1)) (R (vB false) w1)
set_option maxRecDepth 100000 in
theorem run_presagelaw14_has (a:Option Addr) (b c:Nat) (d:Int) (w:World) (R:Value→WP) (h:vc_presagelaw14_has a b c d w R):Run Tryz.prog 28 [(.slice a b c),(.int .i64 d)] w R:=rv Tryz.func28 ann_presagelaw14_has (by kernel_rfl) h

end Go.Proofs.YtndaepmjkbmjmaaGreatDoor
set_option linter.unusedVariables false
namespace Go.Proofs.YtndaepmjkbmjmaaGreatDoor
open Go.V
abbrev n_presageref14_Actions:FuncId:=25
def ann_presageref14_Actions:Ann:={ rngs:=[],loops:=[(4,[(5,(.one (.int .i64)))])],joins:=[],blocks:=[] }
set_option maxRecDepth 100000 in
def vc_presageref14_Actions (a:Option Addr) (b c:Nat) (d:Option Addr) (e f:Nat) (w:World) (R:Value→WP):Prop :=  br ((↑b:Int) != (↑e:Int)) (R (vB false) w) (∃ (x1:lP [(5,shI)]),∃ (x2:lN [(5,shI)]),x1 0 w∧∀ (I1:Nat→Value) (n1:Int) (w1:World),x1 n1 w1→br (decide (n1 < (↑b:Int))) (∀ w2,drawn w1 w2→∃ (I2:World→Prop),I2 w2∧idx a b n1 2 fun a1=>∃ n2 n3,(∀ w3,I2 w3→V.rowAt w3 a1 0 2 = some [iI n2,iI n3])∧idx d e n1 2 fun a2=>∃ n4 n5,(∀ w4,I2 w4→V.rowAt w4 a2 0 2 = some [iI n4,iI n5])∧∃ v1,(∀ w5,I2 w5→Sem.run Proofs.Tryz.prog (cmpS BinOp.neq 62 (Operand.tmp 20) (Operand.tmp 24) (vG [iI n2,iI n3]) (vG [iI n4,iI n5])) w5 = Result.ok v1 w5)∧∃ b1,v1 = vB b1∧br b1 (R (vB false) w2) (inI (n1 + 1)∧x1 (n1 + 1) w2∧x2 (n1 + 1) w2 < x2 n1 w1)) (R (vB true) w1))
set_option maxRecDepth 100000 in
theorem run_presageref14_Actions (a:Option Addr) (b c:Nat) (d:Option Addr) (e f:Nat) (w:World) (R:Value→WP) (h:vc_presageref14_Actions a b c d e f w R):Run Tryz.prog 25 [(.slice a b c),(.slice d e f)] w R:=rv Tryz.func25 ann_presageref14_Actions (by kernel_rfl) h

end Go.Proofs.YtndaepmjkbmjmaaGreatDoor
set_option linter.unusedVariables false
set_option maxRecDepth 4000
namespace Go.V
open Go.Proofs.YtndaepmjkbmjmaaGreatDoor
def tbG:GramT:=⟨[⟨⟨⟨[]⟩⟩,0⟩,⟨⟨⟨[43]⟩⟩,0⟩,⟨⟨⟨[110]⟩⟩,0⟩],[⟨⟨[]⟩⟩,⟨⟨[101]⟩⟩],[],4,[⟨3,[4],0⟩,⟨4,[4,1,4],0⟩,⟨4,[2],0⟩]⟩
theorem tb_closed:ClosedP tbG:=by
  refine ⟨rfl,⟨rfl,by decide,by decide,by decide,by decide,?_,?_,?_,?_,?_⟩,⟨by decide,by decide,?_,by decide,by decide,by decide⟩,⟨3,[4],0⟩,rfl,rfl,rfl,rfl⟩
  · decide
  · intro i v h; simp [tbG] at h
  · decide
  · decide
  · decide
  · intro p hp
    simp only [List.drop_succ_cons,List.drop_zero,tbG,List.mem_cons,List.not_mem_nil,or_false] at hp
    unfold prodOk symOk
    rcases hp with rfl | rfl
    · refine ⟨by decide,?_⟩
      intro s hs; simp at hs
      rcases hs with rfl | rfl | rfl <;> decide
    · refine ⟨by decide,?_⟩
      intro s hs; simp at hs; subst hs; decide
theorem tb_ok:okG tbG:=by
  refine ⟨by decide,by decide,by decide,by decide,?_,by decide,by decide⟩
  intro t ht
  simp only [tbG,List.mem_cons,List.not_mem_nil,or_false] at ht
  unfold anyI
  rcases ht with rfl | rfl | rfl <;> decide
set_option maxRecDepth 100000 in
theorem tb_bst:(bst tbG 5).1.length = 5∧∀ i,i < 5→i < (bst tbG i).1.length:=by decide +kernel
theorem tb_done:DoneP tbG 5:=⟨tb_bst.1,by decide,tb_bst.2⟩
set_option maxRecDepth 100000 in
def tbS:List SQ:=((bst tbG 5).1.zip (bst tbG 5).2).map fun p=>(((none,0),p.1),((none,0),p.2))
def tbN:List Bool:=[false,false]
theorem tb_nul:NnP tbG tbN:=by
  have key:∀ s,Nul tbG s→False:=fun s h=>by
    induction h with
    | mk p hp _ ih =>
      simp only [tbG,List.mem_cons,List.not_mem_nil,or_false] at hp
      rcases hp with rfl | rfl | rfl
      · exact ih 4 (by simp)
      · exact ih 4 (by simp)
      · exact ih 2 (by simp)
  refine ⟨rfl,fun i=>⟨fun h=>?_,fun h=>(key _ h).elim⟩⟩
  match i with
  | 0=>cases h
  | 1=>cases h
  | i + 2=>simp [fnB,tbN] at h
def tbR:List (List Int):=[[0,1],[1]]
def tbF:List (List Int):=[[0,1],[0,1]]
def cellC (A:Nat→Nat→List ActT) (n T least:Nat):List CellT:=(List.range n).flatMap fun q=>(List.range T).flatMap fun t=>if least≤(A q t).length then [⟨(q:Int),(t:Int),A q t⟩] else []
def tbL:List LookT:=(BksL tbG tbS).map (lookC tbG tbF)
def tbA (q t:Nat):List ActT:=shL tbS q t ++ acL tbS q t ++ reL tbL q t
set_option maxRecDepth 100000 in
theorem tb_chk:chkS (RdsL tbG tbN tbS) (DirL tbG tbS) tbR 5 = true∧chkS (IncL tbG tbN tbS) tbR tbF 5 = true∧(cellC tbA 5 3 1).length = 8∧(cellC tbA 5 3 2).length = 1∧tbA 4 1 = [⟨1,3⟩,⟨2,1⟩]∧tbS.length = 5:=by decide +kernel
theorem tb_R:RgL tbG tbN tbS = tbR:=(chkS_is tb_chk.1).symm
theorem tb_F:FgL tbG tbN tbS = tbF:=by
  unfold FgL
  rw [tb_R]
  exact (chkS_is tb_chk.2.1).symm
theorem tb_L:LooksL tbG tbN tbS = tbL:=by
  unfold LooksL tbL
  rw [tb_F]
  exact List.map_congr_left fun b _=>lookC_eq _ _ _
theorem tb_A (q t:Nat):actL tbG tbN tbS q t = tbA q t:=by unfold actL tbA; rw [tb_L]
theorem tb_C (least:Nat):cellL tbG tbN tbS least = cellC tbA 5 3 least:=by
  unfold cellL cellN cellR cellAt cellC
  rw [tb_chk.2.2.2.2.2]
  simp only [tb_A]
  rfl
set_option maxRecDepth 100000 in
theorem tb_res {ss:List SQ} {a i f:Int} (h:Res tbG ss a i f):f = 0∧esOf ss = esOf tbS∧ss.map (·.1.2) = tbS.map (·.1.2):=by
  rcases h with ⟨hn,_⟩ | ⟨_,hbig,_⟩ | ⟨_,hA,_,_,rfl⟩
  · exact absurd tb_closed hn
  · exact (done_big tb_done hbig).elim
  · have e5:=done_one hA.dn tb_done
    have hl:(bst tbG 5).1.length = (bst tbG 5).2.length:=by decide +kernel
    refine ⟨rfl,?_,?_⟩
    · rw [hA.es,e5]
      unfold tbS esOf
      rw [List.map_map]
      show _ = ((bst tbG 5).1.zip (bst tbG 5).2).map Prod.snd
      rw [List.map_snd_zip (by omega)]
    · show ksOf ss = _
      rw [hA.ks,e5]
      unfold tbS
      rw [List.map_map]
      show _ = ((bst tbG 5).1.zip (bst tbG 5).2).map Prod.fst
      rw [List.map_fst_zip (by omega)]
theorem actL_es {g:GramT} {nn:List Bool} {ss ss' : List SQ} (h:esOf ss = esOf ss') (hk:ss.map (·.1.2) = ss'.map (·.1.2)) (q t:Nat):actL g nn ss q t = actL g nn ss' q t:=by
  have e1:shL ss q t = shL ss' q t:=by unfold shL; rw [nxt_es h]
  have e2:acL ss q t = acL ss' q t:=by
    have hq:=congrArg (fun l=>l[q]?) hk
    simp only [List.getElem?_map] at hq
    unfold acL
    cases h1:ss[q]? with
    | none=>cases h2:ss'[q]? with
      | none=>rfl
      | some b=>rw [h1,h2] at hq; cases hq
    | some a=>cases h2:ss'[q]? with
      | none=>rw [h1,h2] at hq; cases hq
      | some b =>
        rw [h1,h2] at hq
        have e:a.1.2 = b.1.2:=Option.some.inj hq
        show (if t = 0∧(⟨0,1⟩ : ItemT)∈a.1.2 then [(⟨3,0⟩ : ActT)] else []) = if t = 0∧(⟨0,1⟩ : ItemT)∈b.1.2 then [⟨3,0⟩] else []
        rw [e]
  unfold actL
  rw [e1,e2,LooksL_es h]
theorem cellL_es {g:GramT} {nn:List Bool} {ss ss' : List SQ} {least:Nat} (h:esOf ss = esOf ss') (hk:ss.map (·.1.2) = ss'.map (·.1.2)):cellL g nn ss least = cellL g nn ss' least:=by
  unfold cellL cellN cellR cellAt
  rw [es_len h]
  simp only [actL_es h hk]
end Go.V
set_option linter.unusedVariables false
set_option maxRecDepth 4000
namespace Go.V
instance:Rep CellT:={ n:=3,rd:=fun h x vs=>∃ (a:Option Addr) (c:Nat),vs = [.int .i64 x.st,.int .i64 x.tm,.slice a x.acts.length c]∧rdS h x.acts a x.acts.length,mono:=fun s ⟨a,c,e,r⟩=>⟨a,c,e,r.mono s⟩,len:=fun ⟨_,_,e,_⟩=>by rw [e]; rfl }
section
variable {h:Hp} {w:World} {L:List Asn} {o:Option Addr} {l i c:Nat}
theorem rdAc_of {xs:List ActT} {a:Option Addr} (hl:xs.length = l) (r:rdV a (acV xs) h):rdS h xs a l:=by
  refine ⟨hl,fun i x hx=>?_⟩
  rcases r with e | ⟨ad,rfl,hc⟩
  · have h1:=congrArg List.length e
    rw [acV_len,List.length_nil] at h1
    have:=(List.getElem?_eq_some_iff.1 hx).1; omega
  · exact ⟨ad,encA x,rfl,rowH_unflat (n:=2) (fun _=>rfl) xs ad hc i x hx,rfl⟩
theorem rdAc_get {xs:List ActT} {a:Option Addr} (r:rdS h xs a l) (hi:i < l):∃ x ad,xs[i]? = some x∧a = some ad∧rowH h (ad.add (mulS i 2)) (encA x):=by
  obtain ⟨x,ad,vs,hx,ha,hr,e⟩:=r.get hi
  rw [show vs = encA x from e] at hr
  exact ⟨x,ad,hx,ha,hr⟩
theorem rdCk_of {ds:List CkQ} (r:rdV o (ckV ds) h) (hd:∀ d∈ds,rdS h d.2.2 d.2.1.1 d.2.2.length):rdS h (ds.map toCk) o ds.length:=by
  refine ⟨by simp,fun i x hi=>?_⟩
  rw [List.getElem?_map] at hi
  cases hb:ds[i]? with
  | none=>rw [hb] at hi; cases hi
  | some p =>
    rw [hb] at hi
    simp only [Option.map_some,Option.some.injEq] at hi
    subst hi
    rcases r with e | ⟨ad,e,hc⟩
    · have h1:=congrArg List.length e
      rw [ckV_len,List.length_nil] at h1
      have:=(List.getElem?_eq_some_iff.1 hb).1; omega
    · exact ⟨ad,ckE p,e,rowH_unflat (n:=3) (fun _=>rfl) ds ad hc i p hb,p.2.1.1,p.2.1.2,rfl,hd p (List.mem_of_getElem? hb)⟩
theorem ckT {ds:List CkQ} {b:CkQ} (h:St w (sta (ckO ds) :: L)) (hb:b∈ds):rdS (hp w) b.2.2 b.2.1.1 b.2.2.length:=by
  obtain ⟨i,hi⟩:=List.getElem?_of_mem hb
  have hA:(ckO ds)[i]? = some (owQ 2 acV b.2):=by unfold ckO; rw [List.getElem?_map,hi]; rfl
  have h2:=St.out h hA
  exact rdAc_of rfl (rdOv 0 h2.l)
theorem rdCk {ds:List CkQ} (h:St w (own 3 o ds.length c (ckV ds) :: sta (ckO ds) :: L)):rdS (hp w) (ds.map toCk) o ds.length:=rdCk_of (rdOv 0 h.l) fun d hd=>ckT (h.pick 2 [1]) hd
theorem rdCk_get {xs:List CellT} (r:rdS h xs o l) (hi:i < l):∃ x ad a c,xs[i]? = some x∧o = some ad∧rowH h (ad.add (mulS i 3)) [.int .i64 x.st,.int .i64 x.tm,.slice a x.acts.length c]∧rdS h x.acts a x.acts.length:=by
  obtain ⟨x,ad,vs,hx,ha,hr,a,c',rfl,hx2⟩:=r.get hi
  exact ⟨x,ad,a,c',hx,ha,hr,hx2⟩
end
end Go.V
namespace Go.Proofs.YtndaepmjkbmjmaaGreatDoor
open Go.V
variable {w:World} {L:List Asn} {g:GramT} {x:GA}
theorem two_Action : Two Tryz.prog ty_api_Action ty_int { name := "Kind", type := ty_int, offset := 0, embedded := false, tag := "", pkgPath := "", byteOffset := 0 } { name := "To", type := ty_int, offset := 1, embedded := false, tag := "", pkgPath := "", byteOffset := 8 } where
  ht:=by kernel_rfl
  hf:=by kernel_rfl
  hi:=und_int
  ht0:=rfl
  ht1:=rfl
  n0:=by decide
  n1:=by decide
  o0:=rfl
  o1:=rfl
  sih:=sih_api_Action
theorem act_dec (x y:ActT):decide (x = y) = decide (x.kind = y.kind∧x.to = y.to):=by cases x; cases y; simp
theorem neAct (w:World) (xo yo:Operand) (x y:ActT):Sem.run Tryz.prog (cmpS .neq ty_api_Action xo yo (.agg ⟨encA x⟩) (.agg ⟨encA y⟩)) w = .ok (.bool (!decide (x = y))) w:=by
  unfold cmpS
  rw [Sem.run_bind,run_eqGuard_agg w _ _ _ _ _ _ eqg_api_Action]
  simp only [Result.andThen_ok]
  rw [run_neq_struct,act_dec]
  show ((Op.equal ty_api_Action (.agg #[.int .i64 x.kind,.int .i64 x.to]) (.agg #[.int .i64 y.kind,.int .i64 y.to])).run Tryz.prog w).andThen _ = _
  rw [two_eq two_Action]
  rfl
theorem take_eq_of {α : Type} {xs ys:List α} (hl:xs.length = ys.length) (h:xs.take xs.length = ys.take xs.length):xs = ys:=by
  rw [List.take_length,hl,List.take_length] at h; exact h
theorem d_Actions {a a2:Option Addr} {l l2 c c2:Nat} {xs ys:List ActT} (hx:rdS (hp w) xs a l) (hy:rdS (hp w) ys a2 l2) (hb:l≤4611686018427387904):Run Tryz.prog n_presageref14_Actions [.slice a l c,.slice a2 l2 c2] w fun v w'=>v = .bool (decide (xs = ys))∧Gr w w':=by
  have hxl:=hx.1
  have hyl:=hy.1
  refine run_presageref14_Actions _ _ _ _ _ _ w _ (br_intro (fun h1=>?_) fun h1=>?_)
  · have h1:(l:Int)≠l2:=by simpa using h1
    have:xs≠ys:=fun e=>h1 (by rw [← hxl,← hyl,e])
    exact ⟨by rw [decide_eq_false this],Gr.refl _⟩
  have h1:(l:Int) = l2:=by simpa using h1
  have h1:l2 = l:=by omega
  subst h1
  refine ⟨fun z w'=>∃ j:Nat,z = j∧j≤l2∧xs.take j = ys.take j∧hp w' = hp w,fun z _=>l2 - z.toNat,⟨0,rfl,Nat.zero_le _,rfl,rfl⟩,?_⟩
  rintro _ _ w1 ⟨j,rfl,hj,hs,e1⟩
  refine br_intro (fun h1=>?_) fun h1=>?_
  rotate_left
  · have h1:j = l2:=by have:=of_decide_eq_false h1; omega
    have:xs = ys:=take_eq_of (by omega) (by rw [hxl,← h1]; exact hs)
    exact ⟨by rw [decide_eq_true this],Gr.of_eq e1⟩
  have h1:j < l2:=by have:=of_decide_eq_true h1; omega
  intro w2 hd
  have e2:hp w2 = hp w:=(drawn_hp hd).trans e1
  have sb:∀ u:World,hp u = hp w→sub (hp w) (hp u):=fun u e=>by rw [e]; exact sub.refl _
  obtain ⟨y1,ad1,q1,p1,r1⟩:=rdAc_get hx h1
  obtain ⟨y2,ad2,q2,p2,r2⟩:=rdAc_get hy h1
  refine ⟨fun u=>hp u = hp w,e2,idx_n p1 h1 ⟨_,_,fun u e=>r1.at (sb u e) rfl,idx_n p2 h1 ⟨_,_,fun u e=>r2.at (sb u e) rfl,_,fun u _=>neAct u _ _ y1 y2,_,rfl,br_intro (fun h2=>?_) fun h2=>?_⟩⟩⟩
  · have h2:y1≠y2:=by simpa using h2
    have:xs≠ys:=fun e=>by rw [e,q2] at q1; exact h2 (Option.some.inj q1).symm
    exact ⟨by rw [decide_eq_false this],Gr.of_eq e2⟩
  · have h2:y1 = y2:=by simpa using h2
    subst h2
    exact ⟨⟨by omega,by omega⟩,⟨j + 1,by simp,h1,by rw [List.take_add_one,List.take_add_one,hs,q1,q2],e2⟩,msr h1⟩
end Go.Proofs.YtndaepmjkbmjmaaGreatDoor
set_option linter.unusedVariables false
set_option maxRecDepth 4000
namespace Go.Proofs.YtndaepmjkbmjmaaGreatDoor
open Go.V
variable {w:World} {L:List Asn} {g:GramT} {x:GA}
theorem cell_one {ss ss' : List SQ} {nn nn' : List Bool} {a i f a' i' f' : Int} (hR:Res g ss a i f) (hn:f = 0→NnP g nn) (hR' : Res g ss' a' i' f') (hn' : f' = 0→NnP g nn'):f' = f∧(∀ l,cellL g nn' ss' l = cellL g nn ss l)∧(f = 0→∀ q t,actL g nn' ss' q t = actL g nn ss q t)∧ss'.length = ss.length:=by
  obtain ⟨hk,hes,_,_,rfl,hl⟩:=hR.one hR'
  have hk:ss.map (·.1.2) = ss'.map (·.1.2):=hk
  refine ⟨rfl,fun l=>?_,fun hf q t=>?_,hl.symm⟩
  · by_cases hf:f = 0
    · rw [(hn' hf).inj (hn hf)]; exact (cellL_es hes hk).symm
    · rw [hR.nil hf,hR'.nil hf]; rfl
  · rw [(hn' hf).inj (hn hf)]; exact (actL_es hes hk q t).symm
theorem cell_le {ss:List SQ} {nn:List Bool} {a i f:Int} {l:Nat} (hR:Res g ss a i f):(cellL g nn ss l).length≤16640:=by
  by_cases hf:f = 0
  · obtain ⟨hc,hA⟩:=hR.aut hf
    have h256:=hA.dn.2.1
    obtain ⟨sT,_⟩:=hc.sizes
    have h1:=cellN_len (g:=g) (nn:=nn) (ss:=ss) (least:=l) (n:=ss.length)
    have h2:ss.length * g.T≤256 * 65:=Nat.mul_le_mul (by omega) sT
    unfold cellL
    omega
  · rw [hR.nil hf]; exact Nat.zero_le _
theorem c_Copy (hg:gR (hp w) g x) (hb:okG g) (hbT:g.terms.length * 24≤140737488355328) (hbN:g.nons.length * 16≤140737488355328):Run Tryz.prog n_presageref02_Copy [.agg ⟨x.cells⟩] w fun v w'=>∃ y:GA,v = .agg ⟨y.cells⟩∧gR (hp w') g y∧Gr w w':=by
  refine (d_Copy (x:=x) hg hb hbT hbN).mono ?_
  rintro _ w3 ⟨y,os,rfl,hy,hos,h3⟩
  exact ⟨y,rfl,ownG_gR hy hos h3,rdH 5 h3.l⟩
theorem t_Merged (hg:gR (hp w) g x) (hb:okG g) (ht:tabA (hp w)):Run Tryz.prog n_table_Merged [.agg ⟨x.cells⟩] w fun v w'=>∃ (ss:List SQ) (ask int f:Int) (nn:List Bool) (o:Option Addr) (c:Nat),v = .tuple #[.slice o (cellL g nn ss 1).length c,.int .i64 f]∧Res g ss ask int f∧(f = 0→NnP g nn)∧rdS (hp w') (cellL g nn ss 1) o (cellL g nn ss 1).length∧Gr w w':=by
  refine (y_Merged hg hb ht).mono ?_
  rintro _ w' ⟨ss,ask,int,f,nn,o,c,ds,rfl,hR,hn,hds,h⟩
  have r:=rdCk h
  have e:ds.length = (cellL g nn ss 1).length:=by rw [← hds]; simp
  rw [hds,e] at r
  exact ⟨ss,ask,int,f,nn,o,c,by rw [e],hR,hn,r,rdH 2 h.l⟩
theorem t_Clashes (hg:gR (hp w) g x) (hb:okG g) (ht:tabA (hp w)):Run Tryz.prog n_table_Clashes [.agg ⟨x.cells⟩] w fun v w'=>∃ (ss:List SQ) (ask int f:Int) (nn:List Bool) (o:Option Addr) (c:Nat),v = .tuple #[.slice o (cellL g nn ss 2).length c,.int .i64 f]∧Res g ss ask int f∧(f = 0→NnP g nn)∧rdS (hp w') (cellL g nn ss 2) o (cellL g nn ss 2).length∧Gr w w':=by
  refine (y_Clashes hg hb ht).mono ?_
  rintro _ w' ⟨ss,ask,int,f,nn,o,c,ds,rfl,hR,hn,hds,h⟩
  have r:=rdCk h
  have e:ds.length = (cellL g nn ss 2).length:=by rw [← hds]; simp
  rw [hds,e] at r
  exact ⟨ss,ask,int,f,nn,o,c,by rw [e],hR,hn,r,rdH 2 h.l⟩
theorem t_Action {q t:Int} (hg:gR (hp w) g x) (hb:okG g) (ht:tabA (hp w)):Run Tryz.prog n_table_Action [.agg ⟨x.cells⟩,.int .i64 q,.int .i64 t] w fun v w'=>∃ (ss:List SQ) (ask int f e:Int) (nn:List Bool) (o:Option Addr) (c:Nat) (acts:List ActT),v = .tuple #[.slice o acts.length c,.int .i64 e]∧Res g ss ask int f∧(f = 0→NnP g nn)∧ActR g nn ss f q t e acts∧rdS (hp w') acts o acts.length∧Gr w w':=by
  refine (y_Action hg hb ht).mono ?_
  rintro _ w' ⟨ss,ask,int,f,e,nn,o,c,acts,rfl,hR,hn,hA,h⟩
  exact ⟨ss,ask,int,f,e,nn,o,c,acts,rfl,hR,hn,hA,rdAc_of rfl (rdOv 0 h.l),rdH 1 h.l⟩
set_option maxHeartbeats 4000000 in
theorem l_awake14 (ht:tabA (hp w)):Run Tryz.prog n_presagelaw14_awake [] w fun v w'=>v = .bool true∧Gr w w':=by
  refine run_presagelaw14_awake w _ ?_
  refine newC_i (St.all w) fun k1 w1 h=>newC_i h fun k2 w2 h=>newC_i h fun k3 w3 h=>newC_i h fun k4 w4 h=>newC_i h fun k5 w5 h=>newC_i h fun k6 w6 h=>newC_i h fun k7 w7 h=>stR_i h rfl (by intro v hv; simp at hv; rcases hv with rfl | rfl | rfl | rfl | rfl <;> rfl) fun w8 h=>?_
  have r7:rowH (hp w8) ⟨k7,0,none⟩ _:=rdCel 0 h.l
  have r6:rowH (hp w8) ⟨k6,0,none⟩ _:=rdCel 1 h.l
  have r5:rowH (hp w8) ⟨k5,0,none⟩ _:=rdCel 2 h.l
  have r4:rowH (hp w8) ⟨k4,0,none⟩ _:=rdCel 3 h.l
  have r3:rowH (hp w8) ⟨k3,0,none⟩ _:=rdCel 4 h.l
  have r2:rowH (hp w8) ⟨k2,0,none⟩ _:=rdCel 5 h.l
  have r1:rowH (hp w8) ⟨k1,0,none⟩ _:=rdCel 6 h.l
  have g8:Gr w w8:=rdH 7 h.l
  clear h
  have p3:rdS (hp w8) ([4] : List Int) (some ⟨k3,0,none⟩) 1:=rdI_of rfl (.inr ⟨_,rfl,r3⟩)
  have p4:rdS (hp w8) ([4,1,4] : List Int) (some ⟨k4,0,none⟩) 3:=rdI_of rfl (.inr ⟨_,rfl,r4⟩)
  have p5:rdS (hp w8) ([2] : List Int) (some ⟨k5,0,none⟩) 1:=rdI_of rfl (.inr ⟨_,rfl,r5⟩)
  have p0:rdS (hp w8) ([] : List Int) none 0:=rdI_of rfl (.inl rfl)
  obtain ⟨x,hx⟩ : ∃ x:GA,x = ⟨some ⟨k1,0,none⟩,3,3,some ⟨k2,0,none⟩,2,2,none,0,0,4,some ⟨k6,0,none⟩,3,3⟩:=⟨_,rfl⟩
  have hg:gR (hp w8) tbG x:=by
    subst hx
    refine ⟨?_,?_,?_,rfl,?_,Nat.le_refl _,Nat.le_refl _,Nat.le_refl _,Nat.le_refl _⟩
    · refine rdS_lit9 (xs:=tbG.terms) r1 fun i t hi=>?_
      match i,hi with
      | 0,hi=>cases hi; rfl
      | 1,hi=>cases hi; rfl
      | 2,hi=>cases hi; rfl
      | i + 3,hi=>cases hi
    · exact rdS_of_row (xs:=tbG.nons) rfl (.inr ⟨_,rfl,r2⟩)
    · exact p0
    · refine rdS_lit9 (xs:=tbG.prods) r6 fun i t hi=>?_
      match i,hi with
      | 0,hi=>cases hi; exact ⟨_,_,_,rfl,by decide,p3⟩
      | 1,hi=>cases hi; exact ⟨_,_,_,rfl,by decide,p4⟩
      | 2,hi=>cases hi; exact ⟨_,_,_,rfl,by decide,p5⟩
      | i + 3,hi=>cases hi
  have B:GB (hp w8) k7 x:=by subst hx; exact gb_of r7
  have ht8:tabA (hp w8):=rdV.mono g8 ht
  clear r1 r2 r3 r4 r5 r6 r7 p0 p3 p4 p5 hx ht
  refine ⟨_,_,_,_,_,_,_,_,_,_,_,_,_,B.row (sub.refl _),(t_Merged hg tb_ok ht8).mono ?_⟩
  rintro _ w9 ⟨ss,ask,int,f,nn,o,c,rfl,hR,hn,hr,g89⟩
  obtain ⟨rfl,hes,hks⟩:=tb_res hR
  have e:=(hn rfl).inj tb_nul
  subst e
  have e1:(cellL tbG tbN ss 1).length = 8:=by rw [cellL_es hes hks,tb_C]; exact tb_chk.2.2.1
  rw [e1]
  refine ⟨_,_,_,_,rfl,_,_,_,_,_,_,_,_,_,_,_,_,_,B.row g89,(t_Clashes (hg.mono g89) tb_ok (rdV.mono g89 ht8)).mono ?_⟩
  rintro _ w10 ⟨ss2,ask2,int2,f2,nn2,o2,c2,rfl,hR2,hn2,hr2,g90⟩
  obtain ⟨rfl,hes2,hks2⟩:=tb_res hR2
  have e:=(hn2 rfl).inj tb_nul
  subst e
  have e2:(cellL tbG tbN ss2 2).length = 1:=by rw [cellL_es hes2 hks2,tb_C]; exact tb_chk.2.2.2.1
  rw [e2]
  have g80:=g89.trans g90
  refine ⟨_,_,_,_,rfl,_,_,_,_,_,_,_,_,_,_,_,_,_,B.row g80,(t_Action (q:=4) (t:=1) (hg.mono g80) tb_ok (rdV.mono g80 ht8)).mono ?_⟩
  rintro _ w11 ⟨ss3,ask3,int3,f3,e3,nn3,o3,c3,acts,rfl,hR3,hn3,hA3,hr3,g01⟩
  obtain ⟨rfl,hes3,hks3⟩:=tb_res hR3
  have e:=(hn3 rfl).inj tb_nul
  subst e
  have hl3:ss3.length = 5:=by rw [es_len hes3]; exact tb_chk.2.2.2.2.2
  rcases hA3 with ⟨h,_⟩ | ⟨_,h,_⟩ | ⟨_,i,j,hi,hj,_,_,rfl,rfl⟩
  · exact absurd rfl h
  · rw [hl3] at h
    have:tbG.T = 3:=rfl
    omega
  obtain rfl:i = 4:=by omega
  obtain rfl:j = 1:=by omega
  have e4:actL tbG tbN ss3 4 1 = [⟨1,3⟩,⟨2,1⟩]:=by rw [actL_es hes3 hks3,tb_A]; exact tb_chk.2.2.2.2.1
  rw [e4] at hr3 ⊢
  refine ⟨_,_,_,_,rfl,br_t rfl (br_t rfl (br_t rfl (br_t rfl (br_t rfl (newC_i (St.all w11) fun k38 w12 h=>?_)))))⟩
  have g12:Gr w11 w12:=rdH 1 h.l
  have hr4:rdS (hp w12) ([⟨1,3⟩,⟨2,1⟩] : List ActT) (some ⟨k38,0,none⟩) 2:=rdAc_of rfl (.inr ⟨_,rfl,rdCel 0 h.l⟩)
  refine (d_Actions (hr3.mono g12) hr4 (by decide)).mono ?_
  rintro _ w13 ⟨rfl,g13⟩
  exact ⟨_,rfl,rfl,g8.trans (g80.trans (g01.trans (g12.trans g13)))⟩
end Go.Proofs.YtndaepmjkbmjmaaGreatDoor
set_option linter.unusedVariables false
set_option maxRecDepth 4000
namespace Go.Proofs.YtndaepmjkbmjmaaGreatDoor
open Go.V
variable {w:World} {L:List Asn} {g:GramT} {x:GA}
end Go.Proofs.YtndaepmjkbmjmaaGreatDoor
set_option linter.unusedVariables false
set_option maxRecDepth 4000
namespace Go.V
open Go.Proofs.YtndaepmjkbmjmaaGreatDoor
section
variable {g:GramT} {nn:List Bool} {ss:List SQ}
theorem shL_pair {q t:Nat} {R:ActT→ActT→Prop}:(shL ss q t).Pairwise R:=by
  unfold shL
  split <;> simp
theorem acL_pair {q t:Nat} {R:ActT→ActT→Prop}:(acL ss q t).Pairwise R:=by
  unfold acL
  split
  · split <;> simp
  · simp
theorem act_pair (q t:Nat):(actL g nn ss q t).Pairwise fun x y=>(x.kind = 2→y.kind = 2→x.to < y.to)∧y.kind≠1:=by
  have a:∀ x∈shL ss q t,x.kind = 1:=fun x hx=>(shL_kind hx).1
  have b:∀ x∈acL ss q t,x.kind = 3:=fun x hx=>by rw [(acL_kind hx).1]
  have c:∀ x∈reL (LooksL g nn ss) q t,x.kind = 2:=fun x hx=>(reL_kind hx).1
  unfold actL
  refine List.pairwise_append.2 ⟨List.pairwise_append.2 ⟨shL_pair,acL_pair,fun x hx y hy=>?_⟩,?_,fun x hx y hy=>?_⟩
  · exact ⟨fun h=>absurd ((a x hx).symm.trans h) (by decide),fun h=>absurd ((b y hy).symm.trans h) (by decide)⟩
  · exact (List.pairwise_iff_forall_sublist.2 fun {x y} h=>⟨fun _ _=>List.pairwise_iff_forall_sublist.1 reL_row h,fun h1=>absurd ((c y (h.subset (by simp))).symm.trans h1) (by decide)⟩)
  · refine ⟨fun h=>?_,fun h=>absurd ((c y hy).symm.trans h) (by decide)⟩
    rcases List.mem_append.1 hx with hx | hx
    · exact absurd ((a x hx).symm.trans h) (by decide)
    · exact absurd ((b x hx).symm.trans h) (by decide)
theorem act_at {q t k:Nat} {x:ActT} (hx:(actL g nn ss q t)[k]? = some x) :
    (x.kind = 1∧k = 0∧nxt ss q (t:Int) = some x.to)∨(x.kind = 3∧x.to = 0∧t = 0∧∃ r,ss[q]? = some r∧(⟨0,1⟩ : ItemT)∈r.1.2) ∨
    (x.kind = 2∧0 < x.to∧(∃ l∈LooksL g nn ss,l.st = (q:Int)∧l.prod = x.to∧(t:Int)∈l.tm)∧∀ y,0 < k→(actL g nn ss q t)[k - 1]? = some y→y.kind = 2→y.to < x.to):=by
  have hp:=List.pairwise_iff_getElem.1 (act_pair (g:=g) (nn:=nn) (ss:=ss) q t)
  obtain ⟨hk,e⟩:=List.getElem?_eq_some_iff.1 hx
  have hm:=List.mem_of_getElem? hx
  rcases List.mem_append.1 hm with h | h
  · rcases List.mem_append.1 h with h | h
    · obtain ⟨h1,h2⟩:=shL_kind h
      refine .inl ⟨h1,?_,h2⟩
      rcases Nat.eq_zero_or_pos k with h0 | h0
      · exact h0
      · exact absurd (e ▸ h1) (hp 0 k (by omega) hk h0).2
    · obtain ⟨rfl,h1,h2⟩:=acL_kind h
      exact .inr (.inl ⟨rfl,rfl,h1,h2⟩)
  · obtain ⟨h1,l,hl,h2,h3,h4⟩:=reL_kind h
    refine .inr (.inr ⟨h1,?_,⟨l,hl,h2,h3,h4⟩,fun y h0 hy hk2=>?_⟩)
    · obtain ⟨_,m,_,_,hm0,rfl⟩:=looks_st hl
      have h3:(m:Int) = x.to:=h3
      omega
    · obtain ⟨hk1,e1⟩:=List.getElem?_eq_some_iff.1 hy
      have:=(hp (k - 1) k hk1 hk (by omega)).1
      rw [e,e1] at this
      exact this hk2 h1
theorem cntK_one (c:Int) (x:ActT):cntK c [x] = if x.kind = c then 1 else 0:=by
  unfold cntK
  by_cases h:x.kind = c <;> simp [h]
theorem cntK_nil (c:Int):cntK c [] = 0:=rfl
def dnA (C:List CellT) (j:Nat):List ActT:=(C.take j).flatMap (·.acts)
theorem dnA_zero (C:List CellT):dnA C 0 = []:=rfl
theorem dnA_all {C:List CellT}:dnA C C.length = C.flatMap (·.acts):=by unfold dnA; rw [List.take_length]
theorem dnA_succ {C:List CellT} {j:Nat} {y:CellT} (h:C[j]? = some y):dnA C (j + 1) = dnA C j ++ y.acts:=by
  unfold dnA; rw [List.take_add_one,h,List.flatMap_append]; simp
theorem dnA_le {C:List CellT} (c:Int) (j:Nat):cntK c (dnA C j)≤cntK c (C.flatMap (·.acts)):=by
  unfold dnA
  conv=>rhs; rw [← List.take_append_drop j C,List.flatMap_append,cntK_app]
  omega
theorem cntK_take (c:Int) (l:List ActT) (k:Nat):cntK c (l.take k)≤cntK c l:=by
  conv=>rhs; rw [← List.take_append_drop k l,cntK_app]
  omega
theorem dnA_mid {C:List CellT} {j:Nat} {y:CellT} (h:C[j]? = some y) (c:Int) (k:Nat):cntK c (dnA C j) + cntK c (y.acts.take k)≤cntK c (C.flatMap (·.acts)):=by
  have h1:=dnA_le (C:=C) c (j + 1)
  have h2:=cntK_take c y.acts k
  rw [dnA_succ h,cntK_app] at h1
  omega
def cnt2 (C:List CellT) (j:Nat) (l:List ActT) (c:Int):Nat:=cntK c (dnA C j) + cntK c l
theorem cnt2_nil (C:List CellT) (j:Nat) (c:Int):cnt2 C j [] c = cntK c (dnA C j):=by unfold cnt2; rw [cntK_nil]; rfl
theorem cnt2_all {C:List CellT} {j:Nat} {y:CellT} (h:C[j]? = some y) (c:Int):cnt2 C j y.acts c = cntK c (dnA C (j + 1)):=by unfold cnt2; rw [dnA_succ h,cntK_app]
theorem cnt2_snoc {C:List CellT} {j k:Nat} {l:List ActT} {x:ActT} (h:l[k]? = some x) (c:Int):cnt2 C j (l.take (k + 1)) c = cnt2 C j (l.take k) c + if x.kind = c then 1 else 0:=by
  unfold cnt2
  rw [List.take_add_one,h]
  show _ + cntK c (l.take k ++ [x]) = _
  rw [cntK_app,cntK_one]; omega
theorem cnt2_le {C:List CellT} {j k:Nat} {y:CellT} (h:C[j]? = some y) (c:Int):cnt2 C j (y.acts.take k) c≤cntK c (C.flatMap (·.acts)):=dnA_mid h c k
theorem putsT_len (hk:∀ q∈ss,q.2.2.length≤130):∀ n,n≤ss.length→(putsT g ss n).length≤n * 130
  | 0,_=>by simp [putsT]
  | n + 1,hn=>by
    have:=putsT_len hk n (by omega)
    have hr:ss[n]? = some ss[n]:=List.getElem?_eq_getElem (by omega)
    rw [putsT_succ hr,List.length_append]
    have:=putsE_len (g:=g) (q:=n) (es:=ss[n].2.2)
    have:=hk ss[n] (List.getElem_mem _)
    omega
theorem putsK_all {l:LookT}:(putsK l l.tm.length).length = l.tm.length:=by unfold putsK; simp
theorem take_any {α : Type} {l:List α} {k:Nat} {x:α} (p:α→Bool) (h:l[k]? = some x):(l.take (k + 1)).any p = ((l.take k).any p || p x):=by
  rw [List.take_add_one,h,List.any_append]; simp
end
end Go.V
set_option linter.unusedVariables false
set_option maxRecDepth 4000
namespace Go.Proofs.YtndaepmjkbmjmaaGreatDoor
open Go.V
variable {w:World} {L:List Asn} {g:GramT} {x:GA}
theorem cbox {vs0 vs:List Value} {e:TypeId} {K:Nat→World→Prop} (hl:vs0.length = vs.length) (h1:∀ v∈vs,oneC v = true) (hk:∀ k w2,Gr w w2→rowH (hp w2) (aM k) vs→K k w2):new w (.cells (Array.mk vs0) e) fun k w1=>stR w1 (aM k) vs fun w2=>K k w2 :=
  newC_i (St.all w) fun k w1 h=>stR_i h hl h1 fun w2 h=>hk k w2 (rdH 1 h.l) (rdCel 0 h.l)
theorem d_has14 {a:Option Addr} {l c:Nat} {xs:List Int} {d:Int} (hx:rdS (hp w) xs a l) (hb:l≤4611686018427387904):Run Tryz.prog n_presagelaw14_has [.slice a l c,.int .i64 d] w fun v w'=>v = .bool (decide (d∈xs))∧w' = w:=by
  have hxl:=hx.1
  refine run_presagelaw14_has _ _ _ _ w _ ⟨fun z w'=>∃ k:Nat,z = k∧k≤l∧(∀ y∈xs.take k,y≠d)∧w' = w,fun z _=>l - z.toNat,⟨0,rfl,Nat.zero_le _,by simp,rfl⟩,?_⟩
  rintro _ _ _ ⟨k,rfl,hk,hno,rfl⟩
  refine br_intro (fun h=>?_) fun h=>?_
  rotate_left
  · have h:k = l:=by have:=of_decide_eq_false h; omega
    rw [h,← hxl,List.take_length] at hno
    exact ⟨by rw [decide_eq_false fun hm=>hno d hm rfl],rfl⟩
  have h:k < l:=by have:=of_decide_eq_true h; omega
  obtain ⟨y,ad,hy,ha,hr⟩:=hx.get1 h
  refine idx_i ha h ⟨_,hr _ (sub.refl _),br_intro (fun h2=>?_) fun h2=>?_⟩
  · have h2:y = d:=by simpa using h2
    exact ⟨by rw [decide_eq_true (h2 ▸ List.mem_of_getElem? hy)],rfl⟩
  · have h2:y≠d:=by simpa using h2
    refine ⟨⟨by omega,by omega⟩,⟨k + 1,by simp,h,fun z hz=>?_,rfl⟩,msr h⟩
    rw [List.take_add_one,hy] at hz
    rcases List.mem_append.1 hz with hz | hz
    · exact hno z hz
    · simp at hz; subst hz; exact h2
theorem t_Looks (hg:gR (hp w) g x) (hb:okG g) (ht:tabA (hp w)):Run Tryz.prog n_look_Sets [.agg ⟨x.cells⟩] w fun v w'=>∃ (ss:List SQ) (ask int f:Int) (nn:List Bool) (o:Option Addr) (c:Nat),v = .tuple #[.slice o (LooksL g nn ss).length c,.int .i64 f]∧Res g ss ask int f∧(f = 0→NnP g nn)∧rdS (hp w') (LooksL g nn ss) o (LooksL g nn ss).length∧Gr w w':=by
  refine (t_Sets hg hb ht).mono ?_
  rintro _ w' ⟨ss,ask,int,f,nn,o,c,ds,rfl,hR,hn,hds,h⟩
  have r:=rdLk h
  have e:ds.length = (LooksL g nn ss).length:=by rw [← hds]; simp
  rw [hds,e] at r
  exact ⟨ss,ask,int,f,nn,o,c,by rw [e],hR,hn,r,rdH 2 h.l⟩
structure FitP (g:GramT) (nn:List Bool) (ss:List SQ) (C:List CellT):Prop where
  e1:cntK 1 (C.flatMap (·.acts)) = (putsT g ss ss.length).length
  e2:cntK 2 (C.flatMap (·.acts)) = (putsL (LooksL g nn ss) (LooksL g nn ss).length).length
  e3:cntK 3 (C.flatMap (·.acts)) = 1
  b1:(putsT g ss ss.length).length≤33280
  b2:(putsL (LooksL g nn ss) (LooksL g nn ss).length).length≤1700000
  mem:∀ y∈C,∃ q t:Nat,q < ss.length∧t < g.T∧1≤(actL g nn ss q t).length∧y = ⟨(q:Int),(t:Int),actL g nn ss q t⟩
  srt:C.Pairwise CellT.lt
  len:C.length≤16640
set_option maxHeartbeats 16000000 in
theorem l_TableFits (hg:gR (hp w) g x) (hb:okG g) (hbT:g.terms.length * 24≤140737488355328) (hbN:g.nons.length * 16≤140737488355328) (ht:tabA (hp w)):Run Tryz.prog n_presagelaw14_TableFits [.agg ⟨x.cells⟩] w fun v w'=>v = .bool true∧Gr w w':=by
  refine run_presagelaw14_TableFits _ _ _ _ _ _ _ _ _ _ _ _ _ w _ (gbox hg fun k1 w1 gw hg1 B=>?_)
  refine ⟨_,_,_,_,_,_,_,_,_,_,_,_,_,B.row (sub.refl _),(c_Copy hg1 hb hbT hbN).mono ?_⟩
  rintro _ w2 ⟨y1,rfl,hy1,g12⟩
  refine ⟨_,_,_,_,_,_,_,_,_,_,_,_,_,rfl,(t_Merged hy1 hb (rdV.mono (gw.trans g12) ht)).mono ?_⟩
  rintro _ w3 ⟨ss1,ask1,int1,f1,nn,o,c,rfl,hR1,hn1,hr,g23⟩
  have g13:Gr w1 w3:=g12.trans g23
  refine ⟨_,_,_,_,rfl,_,_,_,_,_,_,_,_,_,_,_,_,_,B.row g13,(c_Copy (hg1.mono g13) hb hbT hbN).mono ?_⟩
  rintro _ w4 ⟨y2,rfl,hy2,g34⟩
  have g14:Gr w1 w4:=g13.trans g34
  refine ⟨_,_,_,_,_,_,_,_,_,_,_,_,_,rfl,(y_BuildR hy2 hb).mono ?_⟩
  rintro _ w5 ⟨oB,cB,ss,ask,int,f,rfl,hR,h4⟩
  have g45:Gr w4 w5:=rdH 3 h4.l
  have hs:stRd (hp w5) ss oB:=stRd_of h4.l
  clear h4
  obtain ⟨rfl,hC1,_,_⟩:=cell_one hR1 hn1 hR (fun h=>hn1 (by rw [← (hR1.one hR).2.2.2.2.1] at h; exact h))
  have g15:Gr w1 w5:=g14.trans g45
  refine ⟨_,_,_,_,_,_,rfl,cbox rfl (by simp [oneC]) fun k38 w7 g57 rA=>?_⟩
  have g17:Gr w1 w7:=g15.trans g57
  refine ⟨_,_,_,_,_,_,_,_,_,_,_,_,_,B.row g17,(c_Copy (hg1.mono g17) hb hbT hbN).mono ?_⟩
  rintro _ w8 ⟨y3,rfl,hy3,g78⟩
  have g18:Gr w1 w8:=g17.trans g78
  refine ⟨_,_,_,_,_,_,_,_,_,_,_,_,_,rfl,(t_Looks hy3 hb (rdV.mono (gw.trans g18) ht)).mono ?_⟩
  rintro _ w9 ⟨ss3,ask3,int3,f3,nn3,oL,cL,rfl,hR3,hn3,rL,g89⟩
  obtain ⟨_,hes3,_,_,rfl,_⟩:=hR.one hR3
  have g19:Gr w1 w9:=g18.trans g89
  rw [← hC1] at hr
  rw [← hC1]
  have hL:f = 0→LooksL g nn3 ss3 = LooksL g nn ss:=fun h=>by rw [(hn3 h).inj (hn1 h)]; exact (LooksL_es hes3).symm
  refine ⟨_,_,_,_,rfl,fun b w'=>b = false∧Gr w9 w',br_f (by simp) ⟨by simp,Gr.refl _⟩,?_⟩
  rintro _ _ w10 ⟨rfl,g90⟩
  have g1:Gr w1 w10:=g19.trans g90
  have gw10:Gr w w10:=gw.trans g1
  have ht10:tabA (hp w10):=rdV.mono gw10 ht
  have rC:rdS (hp w10) (cellL g nn ss 1) o (cellL g nn ss 1).length:=hr.mono (g34.trans (g45.trans (g57.trans (g78.trans (g89.trans g90)))))
  have hs:stRd (hp w10) ss oB:=hs.mono (g57.trans (g78.trans (g89.trans g90)))
  have rA:=rA.mono (g78.trans (g89.trans g90))
  have rL:=rL.mono g90
  have wake:∀ {u:World},Gr w10 u→RunE Tryz.prog Ev n_presagelaw14_awake [] u fun v w'=>∃ b,v = .bool b∧(.bool b:Value) = .bool true∧Gr w w':=fun gu=>(l_awake14 (rdV.mono gu ht10)).mono fun v _ h=>⟨true,h.1,rfl,gw10.trans (gu.trans h.2)⟩
  clear hr hy1 hy2 hy3 g12 g13 g14 g15 g17 g18 g19 g23 g34 g45 g57 g78 g89 g90
  refine br_f rfl (br_intro (fun h1=>?_) fun h1=>?_)
  · have h1:f≠0:=by simpa using h1
    have hz:=hR.nil h1
    subst hz
    exact br_t rfl (wake (Gr.refl _))
  have h1:f = 0:=by simpa using h1
  subst h1
  have hL:=hL rfl
  rw [hL] at rL ⊢
  obtain ⟨hc,hA⟩:=hR.aut rfl
  have hkl:=hA.klen hc
  have h256:=hA.dn.2.1
  have hpos:=hA.pos
  obtain ⟨sT,_⟩:=hc.sizes
  have hTl:g.T = x.tl:=hg1.t.1
  have hke:∀ q∈ss,q.2.2.length≤130:=fun q hq=>(hkl q hq).2
  have hlk:∀ l∈LooksL g nn ss,l.tm.length≤65:=fun l hl=>by
    obtain ⟨b,_,rfl⟩:=List.mem_map.1 hl
    exact Nat.le_trans look_len sT
  have hll:(LooksL g nn ss).length≤24832:=by rw [LooksL_len]; exact (bks_len hc hA).1
  have hF:FitP g nn ss (cellL g nn ss 1):=⟨shifts_all hc hA,reduces_all,accepts_all hc hA,by have:=putsT_len (g:=g) hke ss.length (Nat.le_refl _); omega,by have:=putsL_len hlk (LooksL g nn ss).length; omega,fun y hy=>by
    obtain ⟨q,t,h1,h2,h3,rfl⟩:=cellN_mem.1 hy
    exact ⟨q,t,h1,h2,h3,rfl⟩,cellN_srt _,cell_le hR⟩
  obtain ⟨ja,hja1,hja2,hja3⟩:=acc_one hc hA
  obtain ⟨C,hC⟩ : ∃ C,C = cellL g nn ss 1:=⟨_,rfl⟩
  rw [← hC] at rC hF ⊢
  obtain ⟨LL,hLL⟩ : ∃ LL,LL = LooksL g nn ss:=⟨_,rfl⟩
  have hpT:∀ n,n≤ss.length→(putsT g ss n).length≤33280:=fun n hn=>by have:=putsT_len (g:=g) hke n hn; omega
  have hpL:∀ n,n≤LL.length→(putsL LL n).length≤1700000:=fun n hn=>by rw [hLL] at hn ⊢; have:=putsL_len hlk n; omega
  rw [← hLL] at rL hll hlk ⊢
  refine ⟨fun n z w'=>∃ i:Nat,n = ((putsT g ss i).length:Int)∧z = i∧i≤ss.length∧Gr w10 w',fun _ z _=>ss.length - z.toNat,⟨0,rfl,rfl,Nat.zero_le _,Gr.refl _⟩,?_⟩
  rintro _ _ _ w12 ⟨i,rfl,rfl,hi,g12⟩
  have hpTi:=hpT i hi
  refine ⟨_,_,_,rA.cell0 g12,br_intro (fun h2=>?_) fun h2=>?_⟩
  · have h2:i < ss.length:=by have:=of_decide_eq_true h2; omega
    obtain ⟨q,hq⟩ : ∃ q,ss[i]? = some q:=⟨_,List.getElem?_eq_getElem h2⟩
    obtain ⟨ad,ha,rs,_,re⟩:=hs i q hq
    have hql:=hke q (List.mem_of_getElem? hq)
    have hpTs:=hpT (i + 1) h2
    rw [putsT_succ hq] at hpTs
    refine ⟨fun n z w'=>∃ j:Nat,n = ((putsT g ss i ++ putsE g i (q.2.2.take j)).length:Int)∧z = j∧j≤q.2.2.length∧Gr w10 w',fun _ z _=>q.2.2.length - z.toNat,⟨0,by simp [putsE],rfl,Nat.zero_le _,g12⟩,?_⟩
    rintro _ _ _ w13 ⟨j,rfl,rfl,hj,g13⟩
    refine ⟨_,_,_,rA.cell0 g13,idx_n ha h2 ⟨_,_,_,rs.cell g13 (j:=1) rfl,br_intro (fun h3=>?_) fun h3=>?_⟩⟩
    rotate_left
    · have h3:j = q.2.2.length:=by have:=of_decide_eq_false h3; omega
      subst h3
      rw [List.take_length,← putsT_succ hq]
      exact ⟨⟨by omega,by omega⟩,⟨i + 1,rfl,by simp,h2,g13⟩,msr h2⟩
    have h3:j < q.2.2.length:=by have:=of_decide_eq_true h3; omega
    obtain ⟨e,ead,he,hea,red⟩:=rdEd_get re h3
    have htk:q.2.2.take (j + 1) = q.2.2.take j ++ [e]:=by rw [List.take_add_one,he]; rfl
    have hel:=putsE_len (g:=g) (q:=i) (es:=q.2.2.take j)
    rw [List.length_take] at hel
    have hsz:(putsT g ss i ++ putsE g i (q.2.2.take j)).length≤40000:=by rw [List.length_append]; omega
    intro w14 hd
    have g14:Gr w10 w14:=g13.trans (Gr.drawn hd)
    refine ⟨fun u=>Gr w10 u,g14,_,_,_,fun u s=>rA.cell0 s,idx_n ha h2 ⟨_,_,_,fun u s=>rs.cell s (j:=1) rfl,idx_n hea h3 ⟨_,fun u s=>red.cell0 s,_,_,_,fun u s=>B.c0 (g1.trans s),br_intro (fun h4=>?_) fun h4=>?_⟩⟩⟩
    · have h4:e.sym < (g.T:Int):=by have:=of_decide_eq_true h4; omega
      refine ⟨⟨by omega,by omega⟩,⟨by omega,by omega⟩,⟨j + 1,?_,by simp,h3,g14⟩,msr h3⟩
      rw [htk,putsE_snoc,if_pos h4]; simp; omega
    · have h4:¬ e.sym < (g.T:Int):=by have:=of_decide_eq_false h4; omega
      exact ⟨⟨by omega,by omega⟩,⟨j + 1,by rw [htk,putsE_snoc,if_neg h4],by simp,h3,g14⟩,msr h3⟩
  have h2:i = ss.length:=by have:=of_decide_eq_false h2; omega
  subst h2
  refine ⟨fun n z w'=>∃ j:Nat,n = ((putsL LL j).length:Int)∧z = j∧j≤LL.length∧Gr w10 w',fun _ z _=>LL.length - z.toNat,⟨0,by simp [putsL],rfl,Nat.zero_le _,g12⟩,?_⟩
  rintro _ _ _ w19 ⟨j,rfl,rfl,hj,g19⟩
  refine br_intro (fun h3=>?_) fun h3=>?_
  · have h3:j < LL.length:=by have:=of_decide_eq_true h3; omega
    obtain ⟨l,lad,la,lc,hl,hla,rl,_⟩:=rdLk_get rL h3
    have:=hpL j hj
    have:=hlk l (List.mem_of_getElem? hl)
    refine idx_n hla h3 ⟨_,_,_,rl.cell g19 (j:=2) rfl,⟨by omega,by omega⟩,⟨by omega,by omega⟩,⟨j + 1,?_,by simp,h3,g19⟩,msr h3⟩
    rw [putsL_succ hl,List.length_append,putsK_all]; simp
  have h3:j = LL.length:=by have:=of_decide_eq_false h3; omega
  subst h3
  obtain ⟨f1,f2,f3,fb1,fb2,fmem,fsrt,flen⟩:=hF
  rw [← hLL] at f2 fb2
  obtain ⟨E,hE⟩ : ∃ E,E = (putsT g ss ss.length).length:=⟨_,rfl⟩
  obtain ⟨M,hM⟩ : ∃ M,M = (putsL LL LL.length).length:=⟨_,rfl⟩
  rw [← hE] at f1 fb1 ⊢
  rw [← hM] at f2 fb2 ⊢
  have bnd:∀ {y:CellT} {j:Nat} (k:Nat),C[j]? = some y→cnt2 C j (y.acts.take k) 1≤E∧cnt2 C j (y.acts.take k) 2≤M∧cnt2 C j (y.acts.take k) 3≤1:=fun k h=>⟨by rw [← f1]; exact cnt2_le h 1,by rw [← f2]; exact cnt2_le h 2,by rw [← f3]; exact cnt2_le h 3⟩
  clear hpT hpL hpTi
  refine ⟨fun e m a z w'=>∃ j:Nat,e = (E:Int) - (cntK 1 (dnA C j):Nat)∧m = (M:Int) - (cntK 2 (dnA C j):Nat)∧a = ((cntK 3 (dnA C j):Nat):Int)∧z = j∧j≤C.length∧Gr w10 w',fun _ _ _ z _=>C.length - z.toNat,⟨0,by rw [dnA_zero,cntK_nil]; simp,by rw [dnA_zero,cntK_nil]; simp,by rw [dnA_zero,cntK_nil]; rfl,rfl,Nat.zero_le _,g19⟩,?_⟩
  rintro _ _ _ _ _ w20 ⟨j,rfl,rfl,rfl,rfl,hj,g20⟩
  refine br_intro (fun h3=>?_) fun h3=>?_
  rotate_left
  · have h3:j = C.length:=by have:=of_decide_eq_false h3; omega
    rw [h3,dnA_all,f1,f2,f3]
    exact br_t (by simp) (br_t (by simp) (br_t rfl (wake g20)))
  have h3:j < C.length:=by have:=of_decide_eq_true h3; omega
  obtain ⟨y,yad,ya,yc,hy,hya,ry,rya⟩:=rdCk_get rC h3
  obtain ⟨q,t,hq,htt,hlen,rfl⟩:=fmem y (List.mem_of_getElem? hy)
  have hact:=fun (k:Nat) (z:ActT) h=>act_at (g:=g) (nn:=nn) (ss:=ss) (q:=q) (t:=t) (k:=k) (x:=z) h
  obtain ⟨A,hAA⟩ : ∃ A,A = actL g nn ss q t:=⟨_,rfl⟩
  rw [← hAA] at hact hlen
  have hact:=hact
  rw [← hLL] at hact
  have ry:rowH (hp w10) (yad.add (mulS j 3)) [.int .i64 (q:Int),.int .i64 (t:Int),.slice ya A.length yc]:=by rw [hAA]; exact ry
  have rya:rdS (hp w10) A ya A.length:=by rw [hAA]; exact rya
  have hy:C[j]? = some ⟨(q:Int),(t:Int),A⟩:=by rw [hAA]; exact hy
  have hbk:∀ k,cnt2 C j (A.take k) 1≤E∧cnt2 C j (A.take k) 2≤M∧cnt2 C j (A.take k) 3≤1:=fun k=>bnd k hy
  have hal:∀ c,cnt2 C j A c = cntK c (dnA C (j + 1)):=fun c=>cnt2_all hy c
  have hAl:A.length≤4611686018427387904:=by
    rw [hAA]
    have:=actL_len (g:=g) (nn:=nn) (ss:=ss) (q:=q) (t:=t)
    have:=hb.2.2.2.1
    omega
  clear hAA
  refine idx_n hya h3 ⟨_,_,_,_,_,ry.at g20 rfl,cbox rfl (by simp [oneC]) fun k73 w22 g2022 rc=>⟨fun w'=>Gr w22 w',fun w23 hd=>?_,?_⟩⟩
  · have g22:Gr w10 w22:=g20.trans g2022
    have g23:Gr w22 w23:=Gr.drawn hd
    refine ⟨fun u=>Gr w22 u,g23,_,fun u s=>rc.cell0 s,br_f (decide_eq_false (by omega)) ⟨_,fun u s=>rc.cell0 s,_,_,_,fun u s=>rA.cell0 (g22.trans s),br_f (decide_eq_false (by omega)) ⟨_,fun u s=>rc.cell s (j:=1) rfl,br_f (decide_eq_false (by omega)) ⟨_,fun u s=>rc.cell s (j:=1) rfl,_,_,_,fun u s=>B.c0 ((g1.trans g22).trans s),br_f (decide_eq_false (by omega)) ⟨_,_,_,fun u s=>rc.cell s (j:=2) rfl,br_f (beq_false_of_ne (by omega)) ?_⟩⟩⟩⟩⟩
    refine br_intro (fun h4=>?_) fun _=>g23
    have h4:0 < j:=by have:=of_decide_eq_true h4; omega
    rw [show (j:Int) - 1 = ((j - 1:Nat):Int) by omega]
    obtain ⟨p,pad,pa,pc,hpp,hpa,rp,_⟩:=rdCk_get rC (i:=j - 1) (by omega)
    have hlt:p.st < (q:Int)∨p.st = (q:Int)∧p.tm < (t:Int):=by
      obtain ⟨i1,e1⟩:=List.getElem?_eq_some_iff.1 hpp
      obtain ⟨i2,e2⟩:=List.getElem?_eq_some_iff.1 hy
      have:=List.pairwise_iff_getElem.1 fsrt (j - 1) j i1 i2 (by omega)
      rw [e1,e2] at this
      exact this
    refine ⟨⟨by omega,by omega⟩,idx_n hpa (by omega) ⟨_,fun u s=>rp.cell0 (g22.trans s),_,fun u s=>rc.cell0 s,br_f (decide_eq_false (by omega)) ⟨⟨by omega,by omega⟩,idx_n hpa (by omega) ⟨_,fun u s=>rp.cell0 (g22.trans s),_,fun u s=>rc.cell0 s,br_intro (fun h5=>?_) fun _=>g23⟩⟩⟩⟩
    have h5:p.st = (q:Int):=by simpa using h5
    exact ⟨⟨by omega,by omega⟩,idx_n hpa (by omega) ⟨_,fun u s=>rp.cell (g22.trans s) (j:=1) rfl,_,fun u s=>rc.cell s (j:=1) rfl,br_f (decide_eq_false (by omega)) g23⟩⟩
  have g22:Gr w10 w22:=g20.trans g2022
  rintro _ w37 g37
  refine ⟨fun e m a z w'=>∃ k:Nat,e = (E:Int) - (cnt2 C j (A.take k) 1:Nat)∧m = (M:Int) - (cnt2 C j (A.take k) 2:Nat)∧a = ((cnt2 C j (A.take k) 3:Nat):Int)∧z = k∧k≤A.length∧Gr w22 w',fun _ _ _ z _=>A.length - z.toNat,⟨0,by rw [List.take_zero,cnt2_nil],by rw [List.take_zero,cnt2_nil],by rw [List.take_zero,cnt2_nil],rfl,Nat.zero_le _,g37⟩,?_⟩
  rintro _ _ _ _ _ w38 ⟨k,rfl,rfl,rfl,rfl,hk,g38⟩
  refine ⟨_,_,_,rc.cell g38 (j:=2) rfl,br_intro (fun h4=>?_) fun h4=>?_⟩
  rotate_left
  · have h4:k = A.length:=by have:=of_decide_eq_false h4; omega
    rw [h4,List.take_length,hal,hal,hal]
    exact ⟨⟨by omega,by omega⟩,⟨j + 1,rfl,rfl,rfl,by simp,h3,g22.trans g38⟩,msr h3⟩
  have h4:k < A.length:=by have:=of_decide_eq_true h4; omega
  obtain ⟨z,zad,hz,hza,rz⟩:=rdAc_get rya h4
  refine ⟨_,_,_,rc.cell g38 (j:=2) rfl,idx_n hza h4 ⟨_,_,rz.at (g22.trans g38) rfl,cbox rfl (by simp [oneC]) fun k84 w40 g3840 rx=>⟨fun e m a b w'=>b = true∧e = (E:Int) - (cnt2 C j (A.take (k + 1)) 1:Nat)∧m = (M:Int) - (cnt2 C j (A.take (k + 1)) 2:Nat)∧a = ((cnt2 C j (A.take (k + 1)) 3:Nat):Int)∧Gr w22 w',?_,?_⟩⟩⟩
  rotate_left
  · rintro _ _ _ _ _ w63 ⟨rfl,rfl,rfl,rfl,g63⟩
    exact br_f rfl ⟨⟨by omega,by omega⟩,⟨k + 1,rfl,rfl,rfl,by simp,h4,g63⟩,msr h4⟩
  have g40:Gr w22 w40:=g38.trans g3840
  have g1040:Gr w10 w40:=g22.trans g40
  have c1:=cnt2_snoc (C:=C) (j:=j) hz 1
  have c2:=cnt2_snoc (C:=C) (j:=j) hz 2
  have c3:=cnt2_snoc (C:=C) (j:=j) hz 3
  have hb0:=hbk k
  have hb1:=hbk (k + 1)
  have rc:=rc.mono g40
  have rA:=rA.mono g1040
  have hs:=hs.mono g1040
  have rL:=rL.mono g1040
  have rya:=rya.mono g1040
  have gB:Gr w1 w40:=g1.trans g1040
  obtain ⟨n1,hn1'⟩ : ∃ n1,n1 = cnt2 C j (A.take k) 1:=⟨_,rfl⟩
  obtain ⟨n2,hn2'⟩ : ∃ n2,n2 = cnt2 C j (A.take k) 2:=⟨_,rfl⟩
  obtain ⟨n3,hn3'⟩ : ∃ n3,n3 = cnt2 C j (A.take k) 3:=⟨_,rfl⟩
  obtain ⟨m1,hm1'⟩ : ∃ n1,n1 = cnt2 C j (A.take (k + 1)) 1:=⟨_,rfl⟩
  obtain ⟨m2,hm2'⟩ : ∃ n2,n2 = cnt2 C j (A.take (k + 1)) 2:=⟨_,rfl⟩
  obtain ⟨m3,hm3'⟩ : ∃ n3,n3 = cnt2 C j (A.take (k + 1)) 3:=⟨_,rfl⟩
  rw [← hn1',← hm1'] at c1
  rw [← hn2',← hm2'] at c2
  rw [← hn3',← hm3'] at c3
  rw [← hn1',← hn2',← hn3'] at hb0
  rw [← hm1',← hm2',← hm3'] at hb1
  rw [← hn1',← hn2',← hn3',← hm1',← hm2',← hm3']
  clear hn1' hn2' hn3' hm1' hm2' hm3' hbk bnd hal
  refine ⟨_,rx.cell0 (sub.refl _),?_⟩
  rcases hact k z hz with ⟨z1,z2,z3⟩ | ⟨z1,z2,z3,rr,hrr,hrm⟩ | ⟨z1,z2,⟨l0,hl0,l1,l2,l3⟩,z4⟩
  · rw [z1] at c1 c2 c3
    simp at c1 c2 c3
    refine br_t (by rw [z1]; rfl) ?_
    obtain ⟨r,hr⟩ : ∃ r,ss[q]? = some r:=⟨_,List.getElem?_eq_getElem hq⟩
    obtain ⟨ad,ha,rs,_,re⟩:=hs q r hr
    have hrl:=hke r (List.mem_of_getElem? hr)
    refine ⟨fun b n w'=>∃ m:Nat,b = (r.2.2.take m).any (fun e=>decide (e.sym = (t:Int)) && decide (e.to = z.to))∧n = m∧m≤r.2.2.length∧Gr w40 w',fun _ n _=>r.2.2.length - n.toNat,⟨0,rfl,rfl,Nat.zero_le _,Gr.refl _⟩,?_⟩
    rintro _ _ _ w41 ⟨m,rfl,rfl,hm,g41⟩
    refine ⟨_,_,_,rA.cell0 g41,_,rc.cell0 g41,idx_n ha hq ⟨_,_,_,rs.cell g41 (j:=1) rfl,br_intro (fun h5=>?_) fun h5=>?_⟩⟩
    rotate_left
    · have h5:m = r.2.2.length:=by have:=of_decide_eq_false h5; omega
      rw [h5,List.take_length]
      refine ⟨⟨by omega,by omega⟩,?_,by omega,by omega,by omega,g40.trans g41⟩
      obtain ⟨r',n',e,hr',he,e1,e2⟩:=nxt_inv z3
      rw [hr] at hr'
      cases hr'
      exact List.any_eq_true.2 ⟨e,List.mem_of_getElem? he,by simp [e1,e2]⟩
    have h5:m < r.2.2.length:=by have:=of_decide_eq_true h5; omega
    obtain ⟨e,ead,he,hea,red⟩:=rdEd_get re h5
    refine ⟨_,_,_,rA.cell0 g41,_,rc.cell0 g41,idx_n ha hq ⟨_,_,_,rs.cell g41 (j:=1) rfl,idx_n hea h5 ⟨_,_,red.at g41 rfl,cbox rfl (by simp [oneC]) fun k93 w43 g4143 rw93=>?_⟩⟩⟩
    have g43:=g41.trans g4143
    have hany:=take_any (fun e:EdgeT=>decide (e.sym = (t:Int)) && decide (e.to = z.to)) he
    have next:∀ b:Bool,b = (r.2.2.take (m + 1)).any (fun e=>decide (e.sym = (t:Int)) && decide (e.to = z.to))→inI ((m:Int) + 1)∧(∃ m' : Nat,b = (r.2.2.take m').any (fun e=>decide (e.sym = (t:Int)) && decide (e.to = z.to))∧(m:Int) + 1 = m'∧m'≤r.2.2.length∧Gr w40 w43)∧r.2.2.length - ((m:Int) + 1).toNat < r.2.2.length - (m:Int).toNat:=fun b hb=>⟨⟨by omega,by omega⟩,⟨m + 1,hb,by simp,h5,g43⟩,msr h5⟩
    refine br_intro (fun h6=>next _ (by rw [hany,h6]; rfl)) fun h6=>⟨_,rw93.cell0 (sub.refl _),_,rc.cell g43 (j:=1) rfl,br_intro (fun h7=>⟨_,rw93.cell (sub.refl _) (j:=1) rfl,_,rx.cell g43 (j:=1) rfl,br_intro (fun h8=>next _ ?_) fun h8=>next _ ?_⟩) fun h7=>next _ ?_⟩
    · have h7:e.sym = (t:Int):=by simpa using h7
      have h8:e.to = z.to:=by simpa using h8
      rw [hany,h6,h7,h8,z2]; simp
    · have h8:e.to≠z.to:=by simpa using h8
      rw [hany,h6,decide_eq_false h8]; simp
    · have h7:e.sym≠(t:Int):=by simpa using h7
      rw [hany,h6,decide_eq_false h7]; simp
  · rw [z1] at c1 c2 c3
    simp at c1 c2 c3
    refine br_f (by rw [z1]; rfl) (br_t (by rw [z1]; rfl) ?_)
    obtain ⟨r,hr⟩ : ∃ r,ss[0]? = some r:=⟨_,List.getElem?_eq_getElem hpos⟩
    obtain ⟨ad,ha,rs,_,re⟩:=hs 0 r hr
    have hrl:=hke r (List.mem_of_getElem? hr)
    have hqa:q = ja:=(hja3 q rr hrr).1 hrm
    refine ⟨fun b n w'=>∃ m:Nat,b = (r.2.2.take m).any (fun e=>decide (e.sym = g.start) && decide (e.to = (q:Int)))∧n = m∧m≤r.2.2.length∧Gr w40 w',fun _ n _=>r.2.2.length - n.toNat,⟨0,rfl,rfl,Nat.zero_le _,Gr.refl _⟩,?_⟩
    rintro _ _ _ w41 ⟨m,rfl,rfl,hm,g41⟩
    refine ⟨_,_,_,rA.cell0 g41,idx_n (i:=0) ha hpos ⟨_,_,_,rs.cell g41 (j:=1) rfl,br_intro (fun h5=>?_) fun h5=>?_⟩⟩
    rotate_left
    · have h5:m = r.2.2.length:=by have:=of_decide_eq_false h5; omega
      rw [h5,List.take_length]
      refine ⟨⟨by omega,by omega⟩,?_,by omega,by omega,by omega,g40.trans g41⟩
      obtain ⟨r',n',e,hr',he,e1,e2⟩:=nxt_inv hja1
      rw [hr] at hr'
      cases hr'
      exact List.any_eq_true.2 ⟨e,List.mem_of_getElem? he,by simp [e1,e2,hqa]⟩
    have h5:m < r.2.2.length:=by have:=of_decide_eq_true h5; omega
    obtain ⟨e,ead,he,hea,red⟩:=rdEd_get re h5
    refine ⟨_,_,_,rA.cell0 g41,idx_n (i:=0) ha hpos ⟨_,_,_,rs.cell g41 (j:=1) rfl,idx_n hea h5 ⟨_,_,red.at g41 rfl,cbox rfl (by simp [oneC]) fun k93 w43 g4143 rw93=>?_⟩⟩⟩
    have g43:=g41.trans g4143
    have hany:=take_any (fun e:EdgeT=>decide (e.sym = g.start) && decide (e.to = (q:Int))) he
    have next:∀ b:Bool,b = (r.2.2.take (m + 1)).any (fun e=>decide (e.sym = g.start) && decide (e.to = (q:Int)))→inI ((m:Int) + 1)∧(∃ m' : Nat,b = (r.2.2.take m').any (fun e=>decide (e.sym = g.start) && decide (e.to = (q:Int)))∧(m:Int) + 1 = m'∧m'≤r.2.2.length∧Gr w40 w43)∧r.2.2.length - ((m:Int) + 1).toNat < r.2.2.length - (m:Int).toNat:=fun b hb=>⟨⟨by omega,by omega⟩,⟨m + 1,hb,by simp,h5,g43⟩,msr h5⟩
    have hsx:=hg1.s
    refine br_intro (fun h6=>next _ (by rw [hany,h6]; rfl)) fun h6=>⟨_,rw93.cell0 (sub.refl _),_,B.c3 (gB.trans g43),br_intro (fun h7=>⟨_,rw93.cell (sub.refl _) (j:=1) rfl,_,rc.cell0 g43,br_intro (fun h8=>⟨_,rc.cell g43 (j:=1) rfl,br_t (by rw [z3]; rfl) ⟨_,rx.cell g43 (j:=1) rfl,next _ ?_⟩⟩) fun h8=>next _ ?_⟩) fun h7=>next _ ?_⟩
    · have h7:e.sym = g.start:=by rw [← hsx]; simpa using h7
      have h8:e.to = (q:Int):=by simpa using h8
      rw [hany,h6,h7,h8,z2]; simp
    · have h8:e.to≠(q:Int):=by simpa using h8
      rw [hany,h6,decide_eq_false h8]; simp
    · have h7:e.sym≠g.start:=by rw [← hsx]; simpa using h7
      rw [hany,h6,decide_eq_false h7]; simp
  · rw [z1] at c1 c2 c3
    simp at c1 c2 c3
    refine br_f (by rw [z1]; rfl) (br_f (by rw [z1]; rfl) (br_t (by rw [z1]; rfl) ?_))
    refine ⟨fun b n w'=>∃ m:Nat,b = (LL.take m).any (fun l=>(decide (l.st = (q:Int)) && decide (l.prod = z.to)) && decide ((t:Int)∈l.tm))∧n = m∧m≤LL.length∧Gr w40 w',fun _ n _=>LL.length - n.toNat,⟨0,rfl,rfl,Nat.zero_le _,Gr.refl _⟩,?_⟩
    rintro _ _ _ w47 ⟨m,rfl,rfl,hm,g47⟩
    refine br_intro (fun h5=>?_) fun h5=>?_
    · have h5:m < LL.length:=by have:=of_decide_eq_true h5; omega
      obtain ⟨l,lad,la,lc,hl,hla,rl,rlt⟩:=rdLk_get rL h5
      have hlt:=hlk l (List.mem_of_getElem? hl)
      have hany:=take_any (fun l:LookT=>(decide (l.st = (q:Int)) && decide (l.prod = z.to)) && decide ((t:Int)∈l.tm)) hl
      have next:∀ (b:Bool) (u:World),Gr w40 u→b = (LL.take (m + 1)).any (fun l=>(decide (l.st = (q:Int)) && decide (l.prod = z.to)) && decide ((t:Int)∈l.tm))→inI ((m:Int) + 1)∧(∃ m' : Nat,b = (LL.take m').any (fun l=>(decide (l.st = (q:Int)) && decide (l.prod = z.to)) && decide ((t:Int)∈l.tm))∧(m:Int) + 1 = m'∧m'≤LL.length∧Gr w40 u)∧LL.length - ((m:Int) + 1).toNat < LL.length - (m:Int).toNat:=fun b u gu hb=>⟨⟨by omega,by omega⟩,⟨m + 1,hb,by simp,h5,gu⟩,msr h5⟩
      intro w48 hd
      have g48:Gr w40 w48:=g47.trans (Gr.drawn hd)
      refine ⟨fun u=>Gr w40 u,g48,br_intro (fun h6=>next _ _ g48 (by rw [hany,h6]; rfl)) fun h6=>idx_n hla h5 ⟨_,fun u s=>rl.cell0 s,_,fun u s=>rc.cell0 s,br_intro (fun h7=>idx_n hla h5 ⟨_,fun u s=>rl.cell s (j:=1) rfl,_,fun u s=>rx.cell s (j:=1) rfl,br_intro (fun h8=>idx_n hla h5 ⟨_,_,_,fun u s=>rl.cell s (j:=2) rfl,_,fun u s=>rc.cell s (j:=1) rfl,(d_has14 (rlt.mono g48) (by omega)).mono ?_⟩) fun h8=>next _ _ g48 ?_⟩) fun h7=>next _ _ g48 ?_⟩⟩
      · rintro _ _ ⟨rfl,rfl⟩
        have h7:l.st = (q:Int):=by simpa using h7
        have h8:l.prod = z.to:=by simpa using h8
        exact ⟨_,rfl,g48,next _ _ g48 (by rw [hany,h6,h7,h8]; simp)⟩
      · have h8:l.prod≠z.to:=by simpa using h8
        rw [hany,h6,decide_eq_false h8]; simp
      · have h7:l.st≠(q:Int):=by simpa using h7
        rw [hany,h6,decide_eq_false h7]; simp
    have h5:m = LL.length:=by have:=of_decide_eq_false h5; omega
    rw [h5,List.take_length]
    have hall:LL.any (fun l=>(decide (l.st = (q:Int)) && decide (l.prod = z.to)) && decide ((t:Int)∈l.tm)) = true:=List.any_eq_true.2 ⟨l0,hl0,by simp [l1,l2,l3]⟩
    rw [hall]
    intro w56 hd
    have g56:Gr w40 w56:=g47.trans (Gr.drawn hd)
    have fin:∀ b:Bool,b = true→inI ((M:Int) - n2 - 1)∧b = true∧(E:Int) - n1 = (E:Int) - m1∧(M:Int) - n2 - 1 = (M:Int) - m2∧(n3:Int) = m3∧Gr w22 w56:=fun b hb=>⟨⟨by omega,by omega⟩,hb,by omega,by omega,by omega,g40.trans g56⟩
    refine ⟨fun u=>Gr w40 u,g56,br_t rfl ⟨_,fun u s=>rx.cell s (j:=1) rfl,br_t (decide_eq_true z2) (br_intro (fun _=>fin _ rfl) fun h6=>⟨_,_,_,fun u s=>rc.cell s (j:=2) rfl,?_⟩)⟩⟩
    have h6:(k:Int)≠0:=by simpa using h6
    rw [show (k:Int) - 1 = ((k - 1:Nat):Int) by omega]
    obtain ⟨p,pad,hpp,hpa,rp⟩:=rdAc_get rya (i:=k - 1) (by omega)
    refine ⟨⟨by omega,by omega⟩,idx_n hpa (by omega) ⟨_,fun u s=>rp.cell0 s,br_intro (fun _=>fin _ rfl) fun h7=>⟨_,_,_,fun u s=>rc.cell s (j:=2) rfl,⟨by omega,by omega⟩,idx_n hpa (by omega) ⟨_,fun u s=>rp.cell s (j:=1) rfl,_,fun u s=>rx.cell s (j:=1) rfl,fin _ (decide_eq_true ?_)⟩⟩⟩⟩
    have h7:p.kind = 2:=by simpa using h7
    exact z4 p (by omega) hpp h7
end Go.Proofs.YtndaepmjkbmjmaaGreatDoor
set_option linter.unusedVariables false
set_option maxRecDepth 4000
namespace Go.V
open Go.RowKit Go.WideShapes Go.ChangeShapes
theorem cellH_of {w:World} {a:Addr} {v:Value} (h:w.cell? a = some v):cellH (hp w) a = some v:=by
  unfold World.cell? at h
  unfold cellH hp
  cases ho:w.heap[a.block]? with
  | none=>rw [ho] at h; cases h
  | some o=>rw [ho] at h; cases o <;> first | exact h | cases h
theorem mapM_get' {α β : Type} {f:α→Option β}:∀ {l:List α} {r:List β},l.mapM f = some r→r.length = l.length∧∀ (i:Nat) (a:α) (b:β),l[i]? = some a→r[i]? = some b→f a = some b
  | [],r,h=>by
    simp at h; subst h; exact ⟨rfl,fun i a b ha=>by simp at ha⟩
  | x :: l,r,h=>by
    simp only [List.mapM_cons,Option.bind_eq_bind,Option.bind_eq_some_iff,Option.pure_def,Option.some.injEq] at h
    obtain ⟨b,hb,r',hr',rfl⟩:=h
    obtain ⟨h1,h2⟩:=mapM_get' hr'
    refine ⟨by simp [h1],fun i a b' ha hb'=>?_⟩
    cases i with
    | zero=>simp at ha hb'; subst ha; subst hb'; exact hb
    | succ i=>exact h2 i a b' (by simpa using ha) (by simpa using hb')
theorem cells_row {w:World} {base n:Nat} {a:Addr} {vs:List Value} (h:w.cells? base a n = some vs):rowH (hp w) a vs:=by
  unfold World.cells? at h
  split at h
  · obtain ⟨h1,h2⟩:=mapM_get' h
    intro j v hj
    have hlt:=(List.getElem?_eq_some_iff.1 hj).1
    rw [h1,List.length_range] at hlt
    exact cellH_of (h2 j j v (by simp [hlt]) hj)
  · cases h
theorem weightsAll_get {H:Type} {P:Program} {e:TypeId} {N:Nat}:∀ {l:List (DataW H)},(DataW.weightsAll P e l).all (·≤N) = true→∀ d∈l,(d.weights P e).all (·≤N) = true
  | [],_,d,hd=>by simp at hd
  | x :: l,h,d,hd=>by
    rw [DataW.weightsAll,List.all_append,Bool.and_eq_true] at h
    rcases List.mem_cons.1 hd with rfl | hd
    · exact h.1
    · exact weightsAll_get h.2 d hd
theorem weightsEach_get {H:Type} {P:Program} {N:Nat}:∀ {ts:List TypeId} {l:List (DataW H)},(DataW.weightsEach P ts l).all (·≤N) = true→∀ (i:Nat) t d,ts[i]? = some t→l[i]? = some d→(d.weights P t).all (·≤N) = true
  | [],l,_,i,t,d,ht,_=>by simp at ht
  | _ :: _,[],_,i,t,d,_,hd=>by simp at hd
  | t0 :: ts,x :: l,h,i,t,d,ht,hd=>by
    rw [DataW.weightsEach,List.all_append,Bool.and_eq_true] at h
    cases i with
    | zero=>simp at ht hd; subst ht; subst hd; exact h.1
    | succ i=>exact weightsEach_get h.2 i t d (by simpa using ht) (by simpa using hd)
def Opn (P:Program) (α : Type) [Rep α] (bd:α→Prop) (t:TypeId):Prop :=
  ∀ {H:Type} (enc:TypeId × Value→H) (W:World) (n:Nat) (cs:List Value) (x:DataW H × List MemPlace),DataW.trod enc P W 0 (fun _=>true) true n t cs = some x→(x.1.weights P t).all (·≤reachBytes) = true→∃ y:α,rd (hp W) y cs∧bd y
def anyS:ByteArray→Prop:=fun s=>s.size≤reachBytes
def anyL {α : Type} (bytes:Nat) (bd:α→Prop):List α→Prop:=fun xs=>xs.length * bytes≤reachBytes∧∀ x∈xs,bd x
section
variable {P:Program} {t e:TypeId}
theorem opn_int (ht:P.underlying t = some (.int .i64)):Opn P Int anyI t:=by
  intro H enc W n cs x h hw
  obtain ⟨z,rfl,_,hwf⟩:=DataW.trod_int ht h
  refine ⟨z,rfl,?_⟩
  have:IntKind.i64.min≤z∧z≤IntKind.i64.max:=by simpa [Lit.wf] using hwf
  exact this
theorem opn_str (ht:P.underlying t = some .string):Opn P ByteArray anyS t:=by
  intro H enc W n cs x h hw
  obtain ⟨z,rfl,rfl,_⟩:=DataW.trod_string ht h
  refine ⟨z,rfl,?_⟩
  simpa [DataW.weights,anyS] using hw
theorem opn_slice {α : Type} [Rep α] {bd:α→Prop} {bb:Nat} (ht:P.underlying t = some (.slice e)) (hc:P.cellsOf e = Rep.n α) (hb:P.bytesOf e = bb) (he:Opn P α bd e):Opn P (List α) (anyL bb bd) t:=by
  intro H enc W n cs x h hw
  rcases DataW.trod_slice ht h with ⟨rfl,rfl⟩ | ⟨a,len,cap,elems,rest,m,rfl,rfl,rfl,_,hlc,hcm,hel,hg,_,_⟩
  · exact ⟨[],⟨none,0,0,rfl,Nat.le_refl _,rdS.nil⟩,by simp [reachBytes],fun x hx=>by simp at hx⟩
  · simp only [DataW.weights,ht,List.all_cons,List.all_append,Bool.and_eq_true,decide_eq_true_eq,List.length_map] at hw
    obtain ⟨hw1,hw2,_⟩:=hw
    have key:∀ k,k≤len→∃ ys:List α,ys.length = k∧(∀ i y,ys[i]? = some y→∃ vs,rowH (hp W) (a.add (mulS i (Rep.n α))) vs∧rd (hp W) y vs)∧∀ y∈ys,bd y:=by
      intro k
      induction k with
      | zero=>exact fun _=>⟨[],rfl,fun i y hy=>by simp at hy,fun y hy=>by simp at hy⟩
      | succ k ih =>
        intro hk
        obtain ⟨ys,h1,h2,h3⟩:=ih (by omega)
        have hgk:=hg k (by omega)
        obtain ⟨d,hd⟩ : ∃ d,elems[k]? = some d:=⟨elems[k]'(by omega),List.getElem?_eq_getElem _⟩
        rw [hd,Option.bind_eq_some_iff] at hgk
        obtain ⟨vs,hv1,hv2⟩:=hgk
        obtain ⟨y,hy1,hy2⟩:=he enc W m vs d hv2 (weightsAll_get hw2 _ (by
          have:=List.mem_of_getElem? hd
          exact List.mem_map_of_mem this))
        refine ⟨ys ++ [y],by simp [h1],fun i z hz=>?_,fun z hz=>?_⟩
        · by_cases hi:i < k
          · rw [List.getElem?_append_left (by omega)] at hz
            exact h2 i z hz
          · have:i = k:=by
              have:=(List.getElem?_eq_some_iff.1 hz).1
              simp at this; omega
            subst this
            rw [List.getElem?_append_right (by omega),h1,Nat.sub_self] at hz
            cases hz
            refine ⟨vs,?_,hy1⟩
            rw [mulS_eq,← hc]
            exact cells_row hv1
        · rcases List.mem_append.1 hz with hz | hz
          · exact h3 z hz
          · simp at hz; subst hz; exact hy2
    obtain ⟨ys,h1,h2,h3⟩:=key len (Nat.le_refl _)
    refine ⟨ys,⟨some a,len,cap,rfl,hlc,h1,fun i y hy=>?_⟩,?_,h3⟩
    · obtain ⟨vs,h4,h5⟩:=h2 i y hy
      exact ⟨a,vs,rfl,h4,h5⟩
    · rw [h1,← hb,← hel]
      exact Nat.le_trans (Nat.mul_le_mul_right _ (Nat.le_add_right _ _)) hw1
theorem opn_struct {fs:Array Field} (ht:P.underlying t = some (.struct fs)) {H:Type} {enc:TypeId × Value→H} {W:World} {n:Nat} {cs:List Value} {x:DataW H × List MemPlace} (h:DataW.trod enc P W 0 (fun _=>true) true n t cs = some x) (hw:(x.1.weights P t).all (·≤reachBytes) = true) :
    cs.length = P.cellsOf t∧∀ (i:Nat) (f:Field) (ty k o:Nat),fs[i]? = some f→P.cellsOf ty = k→f.type = ty→f.offset = o→∃ (m:Nat) (d:DataW H × List MemPlace),DataW.trod enc P W 0 (fun _=>true) true m ty ((cs.drop o).take k) = some d∧(d.1.weights P ty).all (·≤reachBytes) = true:=by
  obtain ⟨xs,m,rfl,rfl,hl,hxs,hf⟩:=DataW.trod_struct ht h
  refine ⟨hl,?_⟩
  rintro i f _ _ _ hi rfl rfl rfl
  have hlt:=(Array.getElem?_eq_some_iff.1 hi).1
  obtain ⟨d,hd⟩ : ∃ d,xs[i]? = some d:=⟨xs[i]'(by omega),List.getElem?_eq_getElem _⟩
  refine ⟨m,d,by rw [hf i f hi,hd],?_⟩
  simp only [DataW.weights,ht] at hw
  exact weightsEach_get hw i f.type d.1 (by simp [hi]) (by simp [hd])
theorem opn_arg {α : Type} [Rep α] {bd:α→Prop} (ho:Opn P α bd t) {H:Type} {enc:TypeId × Value→H} {W:World} {v:Value} {d:DataW H} {ps:List MemPlace} (h:DataW.Trod enc P W 0 (fun _=>true) true t v d ps)
    (hw:(d.weights P t).all (·≤reachBytes) = true):∃ y:α,rd (hp W) y v.cells.toList∧bd y:=by
  obtain ⟨n,h⟩:=h
  exact ho enc W n _ _ h hw
theorem arg_struct {α : Type} [Rep α] {bd:α→Prop} {fs:Array Field} (ho:Opn P α bd t) (ht:P.underlying t = some (.struct fs)) {H:Type} {enc:TypeId × Value→H} {W:World} {b:Nat} {v:Value} {d:DataW H} {ps:List MemPlace}
    (hval:Value.okWide P W .any b t v) (h:DataW.Trod enc P W 0 (fun _=>true) true t v d ps) (hw:(d.weights P t).all (·≤reachBytes) = true):∃ (x:α) (cs:List Value),v = .agg ⟨cs⟩∧rd (hp W) x cs∧bd x:=by
  obtain ⟨x,hr,hb⟩:=opn_arg ho h hw
  simp only [Value.okWide,ht] at hval
  obtain ⟨cs,rfl,_⟩:=hval
  exact ⟨x,cs.toList,rfl,hr,hb⟩
theorem below_of {w w' : World} (h:Ev w w') (g:Gr w w'):Below w.heap.size w w':=by
  refine ⟨h.os,h.tape,h.output,h.size,fun k hk=>?_⟩
  cases ho:w.heap[k]? with
  | none=>rw [Array.getElem?_eq_none_iff] at ho; omega
  | some o =>
    by_cases hd:notD o = true
    · have:hp w k = some o:=by unfold hp; rw [ho,hidD_not hd]
      exact hidD_some (g k o this)
    · cases o <;> first | exact absurd rfl hd | exact h.dfr _ _ ho
theorem trodAll_below (hl:laidOutB P = true) {H:Type} {enc:TypeId × Value→H} {W W' : World} (hb:Below W.heap.size W W') {sp:Nat→Bool}:∀ {ts:List TypeId} {vs:List Value} {ds:List (DataW H)} {ps:List MemPlace},
    (ts.all fun t=>P.readableRec t && decide (t < P.types.size)) = true→DataW.TrodAll enc P W 0 (fun _=>true) true ts vs ds ps→(∀ x∈ps,x.block < W.heap.size)→(∀ x∈ps,sp x.block = true) →
    DataW.TrodAll enc P W' 0 sp true ts vs ds ps
  | [],[],[],ps,_,h,_,_=>h
  | [],_ :: _,_,_,_,h,_,_=>h.elim
  | [],[],_ :: _,_,_,h,_,_=>h.elim
  | _ :: _,[],_,_,_,h,_,_=>h.elim
  | _ :: _,_ :: _,[],_,_,h,_,_=>h.elim
  | t :: ts,v :: vs,d :: ds,ps,ht,h,hlt,hsp=>by
    obtain ⟨p,q,h1,h2,rfl⟩:=h
    rw [List.all_cons,Bool.and_eq_true,Bool.and_eq_true,decide_eq_true_eq] at ht
    exact ⟨p,q,WideElems.Trod_stays hl ht.1.1 ht.1.2 h1 (fun x hx=>hb.same (hlt x (by simp [hx]))) (fun x hx=>hsp x (by simp [hx])),trodAll_below hl hb ht.2 h2 (fun x hx=>hlt x (by simp [hx])) (fun x hx=>hsp x (by simp [hx])),rfl⟩
theorem law_post {H:Type} {enc:TypeId × Value→H} {s:ChangeSpec} {f:Func} {W W' : World} {args:Array Value} {ds gs:List (DataW H)} {before:List MemPlace} {tb:TypeId} (hv:s.vars = []) (hrt:f.resultTypes = #[tb]) (htb:P.underlying tb = some .bool)
    (hsp:s.fn H (ds ++ gs) = { results:=[.lit (.bool true)],args:=ds }) (hl:laidOutB P = true) (hrd:(f.params.toList.all fun t=>P.readableRec t && decide (t < P.types.size)) = true)
    (hW:DataW.Whole enc P f.params.toList s.vars false W args.toList ds gs before) (hE:Ev W W') (hg:Gr W W'):s.post enc P f false true false false W args (.bool true) W':=by
  have hb:=below_of hE hg
  have hlt:∀ p∈before,p.block < W.heap.size:=fun p hp=>hW.lt p hp
  have hold:∀ p∈before,(fun b=>decide (b < W.heap.size)) p.block = true:=fun p hp=>by simpa using hlt p hp
  have hW':=hW
  obtain ⟨p,q,h1,h2,rfl,h3,h4⟩:=hW
  have hq:q = []:=by
    rw [hv] at h2
    cases gs with
    | nil=>exact h2
    | cons _ _=>exact h2.elim
  subst hq
  rw [List.append_nil] at *
  have hargs:∀ sp:Nat→Bool,(∀ x∈p,sp x.block = true)→DataW.TrodAll enc P W' 0 sp true f.params.toList args.toList (s.fn H (ds ++ gs)).args p:=fun sp hs=>by
    rw [hsp]; exact trodAll_below hl hb hrd h1 hlt hs
  have hvars:∀ sp:Nat→Bool,DataW.TrodVars enc P W' sp s.vars (s.fn H (ds ++ gs)).vars []:=fun sp=>by
    rw [hsp,hv]; exact rfl
  have hres:∀ (b:Nat) (sp:Nat→Bool) (hd:Bool),DataW.TrodAll enc P W' b sp hd f.resultTypes.toList ((Value.bool true).resultList f.resultTypes.size) (s.fn H (ds ++ gs)).results []:=fun b sp hd=>by
    rw [hsp,hrt]; exact trodAll_cons_mk (shut_bool htb _) trodAll_mk0
  have hok:∀ (j:Nat) (t:TypeId) (r:Value),f.resultTypes[j]? = some t→((Value.bool true).resultList f.resultTypes.size)[j]? = some r→Value.okWide P W' .any 0 t r:=ok_one hrt rfl (okWide_bool_mk htb _)
  refine ⟨ds,gs,p,[],p,[],hW',hres _ _ _,hargs _ hold,hvars _,World.keptBut_mono (fun x hx=>⟨hx,?_⟩) (hb.frame (·∈p)),fun _=>?_⟩
  · exact Or.inr (by simpa using hx)
  · refine ⟨hok,_,_,([] ++ p) ++ [],⟨[] ++ p,[],trodAll_append (hargs _ (fun _ _=>rfl)) (hres _ _ _),hvars _,rfl,?_,?_⟩,?_⟩
    · intro b off hp
      have hin:MemPlace.cell b off∈p:=by simpa using hp
      rw [hb.frozen (hlt _ hin)]
      exact h3 b off hin
    · intro ha; cases ha
    · intro x hx _
      simpa using hx
end
end Go.V
set_option linter.unusedVariables false
namespace Go.Proofs.YtndaepmjkbmjmaaGreatDoor
open Go.V Go.RowKit Go.WideShapes Go.ChangeShapes Go.ChangeAt
theorem ownK:ownKnob Tryz.prog.godebug = none:=by kernel_rfl
theorem factEnter:Tryz.pinned.checked.prog.mayEnter = true:=by kernel_rfl
theorem factLift:Tryz.pinned.checked.prog.liftsFinal = Rows.tableOneRow.lifted:=by kernel_rfl
theorem factMake:Tryz.pinned.checked.prog.make = some Rows.tableOneRow.make:=by kernel_rfl
theorem laidO:laidOutB Tryz.prog = true:=by kernel_rfl
theorem cellsI:Tryz.prog.cellsOf 3 = 1:=by kernel_rfl
theorem bytesI:Tryz.prog.bytesOf 3 = 8:=by kernel_rfl
theorem cellsStr:Tryz.prog.cellsOf 9 = 1:=by kernel_rfl
theorem bytesStr:Tryz.prog.bytesOf 9 = 16:=by kernel_rfl
theorem cellsS24:Tryz.prog.cellsOf 24 = 1:=by kernel_rfl
theorem cellsS22:Tryz.prog.cellsOf 22 = 1:=by kernel_rfl
theorem cellsS23:Tryz.prog.cellsOf 23 = 1:=by kernel_rfl
theorem cellsS25:Tryz.prog.cellsOf 25 = 1:=by kernel_rfl
theorem cellsT:Tryz.prog.cellsOf 83 = 2:=by kernel_rfl
theorem bytesT:Tryz.prog.bytesOf 83 = 24:=by kernel_rfl
theorem cellsP:Tryz.prog.cellsOf 81 = 3:=by kernel_rfl
theorem bytesP:Tryz.prog.bytesOf 81 = 40:=by kernel_rfl
theorem cellsG:Tryz.prog.cellsOf 27 = 5:=by kernel_rfl
theorem oInt:Opn Tryz.prog Int anyI 3:=opn_int Tryz.underlying3
theorem oInts:Opn Tryz.prog (List Int) (anyL 8 anyI) 24:=opn_slice Tryz.underlying24 cellsI bytesI oInt
theorem oStr:Opn Tryz.prog ByteArray anyS 9:=opn_str Tryz.underlying9
theorem oStrs:Opn Tryz.prog (List ByteArray) (anyL 16 anyS) 23:=opn_slice Tryz.underlying23 cellsStr bytesStr oStr
theorem oTerm:Opn Tryz.prog TermT (fun t=>anyS t.name∧anyI t.level) 83:=by
  intro H enc W n cs x h hw
  obtain ⟨hl,hf⟩:=opn_struct Tryz.underlying83 h hw
  rw [cellsT] at hl
  obtain ⟨_,_,t0,w0⟩:=hf 0 _ 9 1 0 rfl cellsStr rfl rfl
  obtain ⟨_,_,t1,w1⟩:=hf 1 _ 3 1 1 rfl cellsI rfl rfl
  obtain ⟨y0,r0,b0⟩:=oStr enc W _ _ _ t0 w0
  obtain ⟨y1,r1,b1⟩:=oInt enc W _ _ _ t1 w1
  match cs,hl with
  | [c0,c1],_ =>
    have e0:[c0] = [.string y0]:=r0
    have e1:[c1] = [.int .i64 y1]:=r1
    cases e0; cases e1
    exact ⟨⟨y0,y1⟩,rfl,b0,b1⟩
theorem oTerms:Opn Tryz.prog (List TermT) (anyL 24 fun t=>anyS t.name∧anyI t.level) 22:=opn_slice Tryz.underlying22 cellsT bytesT oTerm
theorem oProd:Opn Tryz.prog ProdT (fun p=>anyI p.left∧anyL 8 anyI p.right∧anyI p.level) 81:=by
  intro H enc W n cs x h hw
  obtain ⟨hl,hf⟩:=opn_struct Tryz.underlying81 h hw
  rw [cellsP] at hl
  obtain ⟨_,_,t0,w0⟩:=hf 0 _ 3 1 0 rfl cellsI rfl rfl
  obtain ⟨_,_,t1,w1⟩:=hf 1 _ 24 1 1 rfl cellsS24 rfl rfl
  obtain ⟨_,_,t2,w2⟩:=hf 2 _ 3 1 2 rfl cellsI rfl rfl
  obtain ⟨y0,r0,b0⟩:=oInt enc W _ _ _ t0 w0
  obtain ⟨y1,⟨a,l,c,r1,hlc,r1'⟩,b1⟩:=oInts enc W _ _ _ t1 w1
  obtain ⟨y2,r2,b2⟩:=oInt enc W _ _ _ t2 w2
  match cs,hl with
  | [c0,c1,c2],_ =>
    have e0:[c0] = [.int .i64 y0]:=r0
    have e1:[c1] = [.slice a l c]:=r1
    have e2:[c2] = [.int .i64 y2]:=r2
    cases e0; cases e1; cases e2
    exact ⟨⟨y0,y1,y2⟩,⟨a,l,c,rfl,hlc,r1'⟩,b0,b1,b2⟩
theorem oProds:Opn Tryz.prog (List ProdT) (anyL 40 fun p=>anyI p.left∧anyL 8 anyI p.right∧anyI p.level) 25:=opn_slice Tryz.underlying25 cellsP bytesP oProd
def okG2 (g:GramT):Prop:=okG g∧g.terms.length * 24≤140737488355328∧g.nons.length * 16≤140737488355328
theorem oGram:Opn Tryz.prog GramT okG2 27:=by
  intro H enc W n cs x h hw
  obtain ⟨hl,hf⟩:=opn_struct Tryz.underlying27 h hw
  rw [cellsG] at hl
  obtain ⟨_,_,t0,w0⟩:=hf 0 _ 22 1 0 rfl cellsS22 rfl rfl
  obtain ⟨_,_,t1,w1⟩:=hf 1 _ 23 1 1 rfl cellsS23 rfl rfl
  obtain ⟨_,_,t2,w2⟩:=hf 2 _ 24 1 2 rfl cellsS24 rfl rfl
  obtain ⟨_,_,t3,w3⟩:=hf 3 _ 3 1 3 rfl cellsI rfl rfl
  obtain ⟨_,_,t4,w4⟩:=hf 4 _ 25 1 4 rfl cellsS25 rfl rfl
  obtain ⟨y0,⟨a0,l0,c0',r0,k0,q0⟩,b0⟩:=oTerms enc W _ _ _ t0 w0
  obtain ⟨y1,⟨a1,l1,c1',r1,k1,q1⟩,b1⟩:=oStrs enc W _ _ _ t1 w1
  obtain ⟨y2,⟨a2,l2,c2',r2,k2,q2⟩,b2⟩:=oInts enc W _ _ _ t2 w2
  obtain ⟨y3,r3,b3⟩:=oInt enc W _ _ _ t3 w3
  obtain ⟨y4,⟨a4,l4,c4',r4,k4,q4⟩,b4⟩:=oProds enc W _ _ _ t4 w4
  match cs,hl with
  | [c0,c1,c2,c3,c4],_ =>
    have e0:[c0] = [.slice a0 l0 c0']:=r0
    have e1:[c1] = [.slice a1 l1 c1']:=r1
    have e2:[c2] = [.slice a2 l2 c2']:=r2
    have e3:[c3] = [.int .i64 y3]:=r3
    have e4:[c4] = [.slice a4 l4 c4']:=r4
    cases e0; cases e1; cases e2; cases e3; cases e4
    refine ⟨⟨y0,y1,y2,y3,y4⟩,⟨⟨a0,l0,c0',a1,l1,c1',a2,l2,c2',y3,a4,l4,c4'⟩,rfl,q0,q1,q2,rfl,q4,k0,k1,k2,k4⟩,?_⟩
    have z0:=b0.1
    have z1:=b1.1
    have z2:=b2.1
    have z4:=b4.1
    unfold reachBytes at z0 z1 z2 z4
    refine ⟨⟨by show y0.length≤_; omega,by show y1.length≤_; omega,by show y2.length≤_; omega,by show y4.length * 40≤_; omega,fun t ht=>⟨?_,(b0.2 t ht).2⟩,fun s hs=>?_,fun p hp=>?_⟩,by show y0.length * 24≤_; omega,by show y1.length * 16≤_; omega⟩
    · have:=(b0.2 t ht).1; unfold anyS reachBytes at this; omega
    · have:=b1.2 s hs; unfold anyS reachBytes at this; omega
    · have:=(b4.2 p hp).2.1.1; unfold reachBytes at this; omega

theorem gTab : Tryz.prog.globalNamed "math/bits.deBruijn64tab" = some 0 := by kernel_rfl
theorem gTabType:(Tryz.prog.globals[0]?).map (·.type) = some 294:=by kernel_rfl
theorem cellsTab:Tryz.prog.cellsOf 294 = 64:=by kernel_rfl
theorem cellsTabE:Tryz.prog.cellsOf 5 = 1:=by kernel_rfl
theorem table {W : World} (h : laidMetH Tryz.prog [("math/bits.deBruijn64tab", Rows.laid_math_bits_deBruijn64tab)] W) : tabA (hp W) := by
  have ht : Lib.TabIs Tryz.prog W "math/bits.deBruijn64tab" .u8 (Lib.deBruijn64tab.map fun (k : Nat) => (k : Int)) :=
    Lib.tabIs_of_head (rest:=[]) gTab gTabType Tryz.underlying294 Tryz.underlying5 cellsTabE cellsTab h
  refine .inr ⟨_,rfl,fun j v hj=>?_⟩
  have hlt:=(List.getElem?_eq_some_iff.1 hj).1
  have hc:=ht.cell gTab j (by simpa [tabV] using hlt)
  rw [add_lit0]
  refine cellH_of (hc.trans ?_)
  rw [← hj]
  simp only [tabV,List.getElem?_map,List.length_map] at hj hlt ⊢
  rw [List.getElem?_eq_getElem hlt]
  simp [hlt]
noncomputable def laidWorld (os:Os):World :=
  { World.holding Tryz.prog os ⟨#[],#[],[]⟩ with heap:=(World.holding Tryz.prog os ⟨#[],#[],[]⟩).heap.modify 0 fun
      | .cells _ t frozen=>.cells ⟨tabV⟩ t frozen
      | o=>o }
end Go.Proofs.YtndaepmjkbmjmaaGreatDoor
