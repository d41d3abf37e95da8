/- Texts of this claim, one behind the other. -/
import Derived.Test.YtngdohpikfcifaaGreatDoorG4
import Derived.Test.YtngdohpikfcifaaGreatDoorG1
import Derived.Test.YtngdohpikfcifaaGreatDoorG3
import Derived.LaidEql
set_option linter.unusedVariables false
set_option linter.unusedSectionVars false
set_option maxRecDepth 100000
set_option maxHeartbeats 16000000
namespace Go.V
def D8 (g:af) (ss:List SQ) (m:List (ak × Value)) (i:Nat):Prop:=∀ t:ak,assoc t m = if t∈(aU g ss).take i then some (.int .i64 (((aU g ss).idxOf t:Int) + 1)) else none
def J2 (ss:List SQ) (m:List (ak × Value)) (i:Nat) (es:List aL):Prop:=∀ k:ak,assoc k m =
 if k.st < 0 then none else if k.st.toNat < i then (eE ss k.st.toNat k.sym).map (fun j=>Value.int .i64 (j + 1)) else if k.st.toNat = i then (es.find? fun e=>decide (e.sym = k.sym)).map (fun e=>Value.int .i64 (e.to + 1)) else none
section
variable {g:af} {ss:List SQ} {m:List (ak × Value)} {i:Nat}
theorem D8.start:D8 g ss [] 0:=fun t=>by simp [assoc]
theorem D8.step (hA:bG g ss) (h:D8 g ss m i) {t:ak} (ht:(aU g ss)[i]? = some t):D8 g ss (bx t (.int .i64 ((i:Int) + 1)) m) (i + 1):=fun u=>by
 rw [db,h u,Su,ht]
 by_cases e:u = t
 ·subst e
  rw [Sz rfl,Sz (by simp),Mh (Mg hA) ht]
 ·rw [Sr e]; simp [e]
theorem D8.all (h:D8 g ss m (aU g ss).length) (t:ak):(assoc t m).getD (.int .i64 0) = .int .i64 (mW g ss t):=by
 rw [h t,SM]
 unfold mW
 split <;> rfl
theorem J2.start:J2 ss [] 0 []:=fun k=>by simp [assoc]
theorem J2.step {es:List aL} (h:J2 ss m i es) {e:aL} (hn:e.sym∉es.map (·.sym)):J2 ss (bx ⟨(i:Int),e.sym⟩ (.int .i64 (e.to + 1)) m) i (es ++ [e]):=fun k=>by
 rw [db,h k,CP hn]
 by_cases hk:k = ⟨(i:Int),e.sym⟩
 ·subst hk
  simp
 ·rw [Sr hk]
  split
  ·rfl
  ·split
   ·rfl
   ·split
    ·have:k.sym≠e.sym:=fun h=>hk (by cases k; simp at *; omega)
     rw [Sr this]
    ·rfl
theorem J2.next {q:SQ} (hq:ss[i]? = some q) (h:J2 ss m i q.2.2):J2 ss m (i + 1) []:=fun k=>by
 rw [h k]
 split
 ·rfl
 ·by_cases h1:k.st.toNat < i
  ·rw [Sz h1,Sz (by omega)]
  ·rw [Sr h1]
   by_cases h2:k.st.toNat = i
   ·rw [Sz h2,Sz (by omega),h2,q9 hq,Option.map_map]; rfl
   ·rw [Sr h2,Sr (by omega)]; simp
theorem J2.all (h:J2 ss m ss.length []) (k:ak):(assoc k m).getD (.int .i64 0) = .int .i64 (P1 ss k):=by
 rw [h k]
 unfold P1
 by_cases h0:k.st < 0
 ·rw [Sz h0,Sz h0]; rfl
 ·rw [Sr h0,Sr h0]
  split
  ·cases eE ss k.st.toNat k.sym <;> rfl
  ·have:eE ss k.st.toNat k.sym = none:=by unfold eE; rw [SH (by omega)]
   rw [this]; simp
end
abbrev Rb (x:GA) (o:Option Addr) (n c:Nat) (a int:Int) (ol:Option Addr) (nl cl ka kt:Nat) (on:Option Addr) (nn cn kp:Nat):List Value:=x.cells ++ [.slice o n c,.int .i64 a,.int .i64 int,.slice ol nl cl,.map (some ka),.map (some kt),.slice on nn cn,.map (some kp)]
structure Mo (h:Hp) (g:af) (ss:List SQ) (nn:List Bool) (k:Nat):Prop where
 ex:∃ (x:GA) (o:Option Addr) (c:Nat) (a int:Int) (ol:Option Addr) (cl ka kt:Nat) (on:Option Addr) (cn kp:Nat) (ma mt:List (ak × Value)) (mp:List (Int × Value)),
  ax h (aM k) (Rb x o ss.length c a int ol (aU g ss).length cl ka kt on g.N cn kp)∧gR h g x∧xS h ss o∧aW h (aU g ss) ol (aU g ss).length∧mapA ka ma h∧D8 g ss ma (aU g ss).length∧mapA kt mt h∧J2 ss mt ss.length []∧aW h nn on g.N∧mapA kp mp h ∧
  ∀ s:Int,∃ (a:Option Addr) (c:Nat),(assoc s mp).getD (.slice none 0 0) = .slice a (xg g g.prods.length s).length c∧aW h ((xg g g.prods.length s).map Int.ofNat) a (xg g g.prods.length s).length
theorem Mo.mono {h h' : Hp} {g:af} {ss:List SQ} {nn:List Bool} {k:Nat} (s:sub h h') (r:Mo h g ss nn k):Mo h' g ss nn k:=by
 obtain ⟨x,o,c,a,int,ol,cl,ka,kt,on,cn,kp,ma,mt,mp,h1,h2,h3,h4,h5,h6,h7,h8,h9,h10,h11⟩:=r.ex
 exact ⟨x,o,c,a,int,ol,cl,ka,kt,on,cn,kp,ma,mt,mp,h1.mono s,h2.mono s,h3.mono s,h4.mono s,dg s h5,h6,dg s h7,h8,h9.mono s,dg s h10,fun z=>by obtain ⟨a,c,e,r⟩:=h11 z; exact ⟨a,c,e,r.mono s⟩⟩
end Go.V
namespace Go.Proofs.YtngdohpikfcifaaGreatDoor
open Go.V
variable {w:World} {L:List aw} {g:af} {x:GA}
theorem Hh (hg:gR (hp w) g x) (hb:iM g) (ht:gz (hp w)):aC Tryz.prog FM [.agg ⟨x.cells⟩] w fun v w'=>∃ (ss:List SQ) (ask int f:Int) (p:Option Addr),v = .tuple #[.pointer p,.int .i64 f]∧vf g ss ask int f∧Gr w w'∧(f = 0→∃ (k:Nat) (nn:List Bool),p = some (aM k)∧pM g nn∧Mo (hp w') g ss nn k)∧(f≠0→p = none):=by
 refine Cb _ _ _ _ _ _ _ _ _ _ _ _ _ w _ (de hg fun k1 w1 gw hg B=>?_)
 refine ⟨_,_,_,_,_,_,_,_,_,_,_,_,_,B.row (sub.refl _),(Fw hg hb).mono ?_⟩
 rintro _ w2 ⟨o,c,ss,ask,int,f,rfl,hR,h⟩
 have g12:Gr w1 w2:=aZ 3 h.l
 have hs:=wx h.l
 clear h
 refine ⟨_,_,_,_,_,_,rfl,ah (St.all w2) fun k12 w3 h=>bh h rfl (by simp [aS]) fun w4 h=>ae (fun h1=>?_) fun h1=>?_⟩
 ·have h1:f≠0:=by simpa using h1
  exact ⟨ss,ask,int,f,none,rfl,hR,gw.trans (g12.trans h.aX),fun h=>absurd h h1,fun _=>rfl⟩
 have h1:f = 0:=by simpa using h1
 subst h1
 obtain ⟨hc,hA⟩:=hR.Fz rfl
 have hkl:=hA.wz hc
 have h256:=hA.dn.2.1
 have hTn:=sK (g:=g) (fun q hq=>(hkl q hq).2) ss.length
 have g24:Gr w2 w4:=h.aX
 have r12:ax (hp w4) (aM k12) [.slice o ss.length c,.int .i64 ask,.int .i64 int]:=ai 0 h.l
 clear h
 have g14:=g12.trans g24
 have hg4:=hg.mono g14
 have ht4:gz (hp w4):=gN.mono (gw.trans g14) ht
 have hs:=hs.mono g24
 have B4:∀ {u:World},sub (hp w4) (hp u)→V.rowAt u ⟨k1,0,none⟩ 0 5 = some x.cells:=fun s=>B.row (sub.trans g14 s)
 have pl:=hg.p.1
 have hgw:=hg
 obtain ⟨_,_,_,b4,_,_,_⟩:=id hb
 refine ⟨_,_,_,_,_,_,_,_,_,_,_,_,_,B4 (sub.refl _),_,_,_,_,_,r12.at (sub.refl _) rfl,?_⟩
 refine mg (St.all w4) fun ka w5 h=>?_
 have h:=dC (κ:=ak) h
 refine mg h fun kt w6 h=>?_
 have h:=dC (κ:=ak) h
 refine mg h fun kp w7 h=>?_
 have h:=dC (κ:=Int) h
 refine ah (vs:=Rb x o ss.length c ask int none 0 0 ka kt none 0 0 kp) h fun km w8 h=>?_
 have g48:Gr w4 w8:=aZ 4 h.l
 refine ⟨_,_,_,_,_,_,_,_,_,_,_,_,_,B4 g48,(L4 (hg4.mono g48) hb).mono ?_⟩
 rintro _ w9 ⟨ss2,ask2,int2,f2,ol,cl,rfl,hR2,h2⟩
 obtain ⟨_,hes,_,_,rfl,_⟩:=hR.one hR2
 rw [← nW hes] at h2 ⊢
 have h:=St.vK h2 h.l
 clear h2
 have rL:aW (hp w9) (aU g ss) ol (aU g ss).length:=wB rfl (gB 0 h.l)
 have h:St w9 (aR km (Rb x o ss.length c ask int none 0 0 ka kt none 0 0 kp) :: own 2 ol (aU g ss).length cl (xf (aU g ss)) :: mapA kp ([] : List (Int × Value)) :: mapA kt ([] : List (ak × Value)) :: mapA ka ([] : List (ak × Value)) :: all w4):=h.pick 2 [1,0]
 refine ⟨_,_,_,_,rfl,bg h (show 8 < 13 by decide) fun w10 ha=>?_⟩
 have h:St w10 (aR km (Rb x o ss.length c ask int ol (aU g ss).length cl ka kt none 0 0 kp) :: own 2 ol (aU g ss).length cl (xf (aU g ss)) :: mapA kp ([] : List (Int × Value)) :: mapA kt ([] : List (ak × Value)) :: mapA ka ([] : List (ak × Value)) :: all w4):=ha
 clear ha
 have g410:Gr w4 w10:=aZ 5 h.l
 refine ⟨_,_,_,_,_,_,_,_,_,_,_,_,_,B4 g410,(FO (hg4.mono g410) hb (gN.mono g410 ht4)).mono ?_⟩
 rintro _ w11 ⟨on,n1,cn,e1,nn,rfl,hnl,hNR,h2⟩
 have h:=St.vK h2 h.l
 clear h2
 have hnn:pM g nn:=by
  rcases hNR with ⟨h1,_⟩ | ⟨_,_,h1⟩
  ·exact absurd (.inr hc) h1
  ·exact h1
 have hnN:n1 = g.N:=by rw [← hnl]; exact hnn.1
 subst hnN
 refine ⟨_,_,_,_,rfl,bg (h.pick 2 [1,0]) (show 11 < 13 by decide) fun w12 ha=>?_⟩
 obtain ⟨C,hC⟩ : ∃ C,C = Rb x o ss.length c ask int ol (aU g ss).length cl ka kt on g.N cn kp:=⟨_,rfl⟩
 have h:St w12 (aR km C :: own 1 on g.N cn (bv nn) :: own 2 ol (aU g ss).length cl (xf (aU g ss)) :: mapA kp ([] : List (Int × Value)) :: mapA kt ([] : List (ak × Value)) :: mapA ka ([] : List (ak × Value)) :: all w4):=by rw [hC]; exact ha
 clear ha
 have c8:C[8]? = some (.slice ol (aU g ss).length cl):=by rw [hC]; rfl
 have c9:C[9]? = some (.map (some ka)):=by rw [hC]; rfl
 have c10:C[10]? = some (.map (some kt)):=by rw [hC]; rfl
 have c12:C[12]? = some (.map (some kp)):=by rw [hC]; rfl
 have hTL:(aU g ss).length≤ss.length * 130:=hTn
 refine ⟨_,_,_,(ai 0 h.l).cell (sub.refl _) (j:=8) c8,fun z w'=>∃ (i:Nat) (ma:List (ak × Value)),z = i∧i≤(aU g ss).length∧D8 g ss ma i∧St w' (mapA ka ma :: aR km C :: own 1 on g.N cn (bv nn) :: own 2 ol (aU g ss).length cl (xf (aU g ss)) :: mapA kp ([] : List (Int × Value)) :: mapA kt ([] : List (ak × Value)) :: all w4),fun z _=>(aU g ss).length - z.toNat,
  ⟨0,[],rfl,Sv _,.start,h.pick 6 [5,0,1,2,3,4]⟩,?_⟩
 clear h
 rintro _ _ w13 ⟨i,ma,rfl,hi,hN,h⟩
 refine ae (fun h1=>?_) fun h1=>?_
 ·have h1:i < (aU g ss).length:=by have:=Si h1; omega
  have rT:aW (hp w13) (aU g ss) ol (aU g ss).length:=wB rfl (gB 3 h.l)
  obtain ⟨t,tad,ht,hta,rt⟩:=fm rT h1
  refine ay hta h1 ⟨_,_,rt.at (sub.refl _) rfl,ah h fun k49 w14 h=>bh h rfl (by simp [aS]) fun w15 h=>?_⟩
  intro w16 hd
  have h:=h.eq (aD hd)
  have r49:ax (hp w16) (aM k49) [.int .i64 t.st,.int .i64 t.sym]:=ai 0 h.l
  have rk:ax (hp w16) (aM km) C:=ai 2 h.l
  refine ⟨fun u=>Gr w16 u,Gr.refl _,_,fun u s=>rk.cell s (j:=9) c9,_,_,fun u s=>r49.at s rfl,⟨by omega,by omega⟩,(kQ (κ:=ak) aK (rfl:ag Ty _ = .map _ _) dH (h.pick 2 [1]) t _).mono ?_⟩
  rintro _ w19 h
  exact ⟨⟨by omega,by omega⟩,⟨i + 1,_,by simp,h1,hN.step hA ht,h⟩,bA h1⟩
 have h1:i = (aU g ss).length:=by have:=Sj h1; omega
 subst h1
 have s13:sub (hp w4) (hp w13):=aZ 6 h.l
 refine ⟨_,_,_,r12.cell0 s13,fun z w'=>∃ (i:Nat) (mt:List (ak × Value)),z = i∧i≤ss.length∧J2 ss mt i []∧St w' (mapA kt mt :: mapA ka ma :: aR km C :: own 1 on g.N cn (bv nn) :: own 2 ol (aU g ss).length cl (xf (aU g ss)) :: mapA kp ([] : List (Int × Value)) :: all w4),fun z _=>ss.length - z.toNat,
  ⟨0,[],rfl,Sv _,.start,h.pick 6 [5,0,1,2,3,4]⟩,?_⟩
 clear h s13
 rintro _ _ w20 ⟨i,mt,rfl,hi,hW,h⟩
 have s20:sub (hp w4) (hp w20):=aZ 6 h.l
 refine ae (fun h1=>?_) fun h1=>?_
 ·have h1:i < ss.length:=by have:=Si h1; omega
  obtain ⟨q,hq⟩ : ∃ q,ss[i]? = some q:=⟨_,Sm h1⟩
  obtain ⟨ad,eo,rs,_,re⟩:=hs i q hq
  have hql:=(hkl q (Sl hq)).2
  have hnd:=DS hA hq
  refine ay eo h1 ⟨_,_,_,_,_,_,rs.at s20 rfl,ah h fun k56 w21 h=>bh h rfl (by simp [aS]) fun w22 h=>?_⟩
  have r56:ax (hp w22) (aM k56) (N1 q):=ai 0 h.l
  refine ⟨_,_,_,r56.cell (sub.refl _) (j:=1) rfl,fun z w'=>∃ (k:Nat) (mt:List (ak × Value)),z = k∧k≤q.2.2.length∧J2 ss mt i (q.2.2.take k)∧St w' (mapA kt mt :: mapA ka ma :: aR km C :: own 1 on g.N cn (bv nn) :: own 2 ol (aU g ss).length cl (xf (aU g ss)) :: mapA kp ([] : List (Int × Value)) :: all w4),fun z _=>q.2.2.length - z.toNat,
   ⟨0,mt,rfl,Sv _,hW,h.pick 7 [1,2,3,4,5,6]⟩,?_⟩
  clear h hW
  rintro _ _ w23 ⟨k,mt,rfl,hk,hW,h⟩
  have s23:sub (hp w4) (hp w23):=aZ 6 h.l
  refine ae (fun h2=>?_) fun h2=>?_
  rotate_left
  ·have h2:k = q.2.2.length:=by have:=Sj h2; omega
   subst h2
   rw [SM] at hW
   exact ⟨⟨by omega,by omega⟩,⟨i + 1,mt,by simp,h1,hW.next hq,h⟩,bA h1⟩
  have h2:k < q.2.2.length:=by have:=Si h2; omega
  obtain ⟨e,ead,he,hea,red⟩:=iq re h2
  obtain ⟨_,_,j,r',hj,hj1,hr',_⟩:=fl hc hA hq he
  have hjl:=(Sk.1 hr').1
  refine ay hea h2 ⟨_,_,red.at s23 rfl,ah h fun k34 w11 h=>bh h rfl (by simp [aS]) fun w12 h=>?_⟩
  intro w26 hd
  have h:=h.eq (aD hd)
  have r34:ax (hp w26) (aM k34) [.int .i64 e.sym,.int .i64 e.to]:=ai 0 h.l
  have rk:ax (hp w26) (aM km) C:=ai 3 h.l
  refine ⟨fun u=>Gr w26 u,Gr.refl _,_,fun u s=>rk.cell s (j:=10) c10,_,fun u s=>r34.cell0 s,_,fun u s=>r34.cell s (j:=1) rfl,⟨by omega,by omega⟩,(kQ (κ:=ak) aK (rfl:ag Ty _ = .map _ _) dH (h.pick 2 [1]) ⟨(i:Int),e.sym⟩ _).mono ?_⟩
  rintro _ w30 h
  have ht:q.2.2.take (k + 1) = q.2.2.take k ++ [e]:=by rw [Su,he]; rfl
  have hn:e.sym∉(q.2.2.take k).map (·.sym):=fun hm=>by
   have e1:q.2.2.map (·.sym) = (q.2.2.take k).map (·.sym) ++ e.sym :: (q.2.2.drop (k + 1)).map (·.sym):=by
    rw [← S0,← SU]
    congr 1
    have:=S5 (k + 1) q.2.2
    rw [ht] at this
    simpa using this.symm
   rw [e1,SX] at hnd
   exact hnd.2.2 _ hm _ (by simp) rfl
  have hW:=hW.step hn
  rw [← ht] at hW
  exact ⟨⟨by omega,by omega⟩,⟨k + 1,_,by simp,h2,hW,h⟩,bA h2⟩
 have h1:i = ss.length:=by have:=Sj h1; omega
 subst h1
 have h:=h.pick 6 [5,0,1,2,3,4]
 refine ⟨_,_,_,B.c4 (sub.trans g14 s20),fun z w'=>∃ (j:Nat) (ps:List (Int × Lq Int)),z = j∧j≤x.pl∧(∀ s,gP s ps = (xg g j s).map Int.ofNat)∧St w' (aR km C :: mapA kp (mV ps) :: aT (mO 1 iv ps) :: mapA kt mt :: mapA ka ma :: own 1 on g.N cn (bv nn) :: own 2 ol (aU g ss).length cl (xf (aU g ss)) :: all w4),fun z _=>x.pl - z.toNat,
  ⟨0,[],rfl,Sv _,fun s=>rfl,?_⟩,?_⟩
 ·have h:=(St.flat (M:=[])).2 h
  exact h.pick 7 [4,1,0,2,3,5,6]
 clear h
 rintro _ _ w31 ⟨j,ps,rfl,hj,hps,h⟩
 have s31:sub (hp w4) (hp w31):=aZ 7 h.l
 refine ae (fun h1=>?_) fun h1=>?_
 rotate_left
 ·have h1:j = x.pl:=by have:=Sj h1; omega
  subst h1
  rw [← pl] at hps
  refine ⟨ss,ask,int,0,some (aM km),rfl,hR,gw.trans (g14.trans s31),fun _=>⟨km,nn,rfl,hnn,x,o,c,ask,int,ol,cl,ka,kt,on,cn,kp,ma,mt,mV ps,by rw [← hC]; exact ai 0 h.l,hg4.mono s31,hs.mono s31,wB rfl (gB 6 h.l),?_,hN,?_,hW,xI hnl (gB 5 h.l),?_,fun s=>?_⟩,fun h=>absurd rfl h⟩
  ·obtain ⟨hm,sm,hA2⟩:=M4 4 h.l; exact dg sm hA2
  ·obtain ⟨hm,sm,hA2⟩:=M4 3 h.l; exact dg sm hA2
  ·obtain ⟨hm,sm,hA2⟩:=M4 1 h.l; exact dg sm hA2
  have e:=hps s
  cases hq:cP s ps with
  | none =>
   have e0:gP s ps = []:=by unfold gP; rw [hq]
   rw [e0] at e
   have e1:xg g g.prods.length s = []:=List.map_eq_nil_iff.1 e.symm
   rw [gl,hq,e1]
   exact ⟨none,0,rfl,aW.nil⟩
  | some q =>
   have e0:gP s ps = q.2:=by unfold gP; rw [hq]
   rw [e0] at e
   obtain ⟨hq1,sq,ho⟩:=Il (bq (bq h.l)) hq
   have hl:q.2.length = (xg g g.prods.length s).length:=by rw [e,Ss]
   refine ⟨q.1.1,q.1.2,by rw [gl,hq]; show bF q = _; unfold bF; rw [hl],?_⟩
   rw [← e,← hl]
   exact (b8 rfl (bV ho)).mono sq
 have h1:j < x.pl:=by have:=Si h1; omega
 obtain ⟨p,ad,vs,hp1,hpa,hp2,ra,rl,rc,rfl,hrc,hp3⟩:=hgw.p.get h1
 refine ay hpa h1 ⟨_,_,_,_,_,hp2.at (sub.trans g14 s31) rfl,ah h fun k64 w32 h=>bh h rfl (by simp [aS]) fun w33 h=>ae (fun h3=>?_) fun h3=>?_⟩
 rotate_left
 ·have h3:¬0 < j:=by have:=Sj h3; omega
  exact ⟨⟨by omega,by omega⟩,⟨j + 1,ps,by simp,h1,fun s=>by rw [rz hp1,Sr (fun h=>h3 h.2),S6]; exact hps s,h.pick 8 [1,2,3,4,5,6,7]⟩,bA h1⟩
 have h3:0 < j:=by have:=Si h3; omega
 intro w34 hd
 have h:=h.eq (aD hd)
 have cm:∀ {u:World} {L' : List aw},St u (aR km C :: L')→u.cell? ((aM km).add 12) = some (.map (some kp)):=fun h=>(ai 0 h.l).cell (sub.refl _) (j:=12) c12
 have cp:∀ {u:World} {L' : List aw},St u (aR k64 [.int .i64 p.left,.slice ra rl rc,.int .i64 p.level] :: L')→u.cell? (aM k64) = some (.int .i64 p.left):=fun h=>(ai 0 h.l).cell0 (sub.refl _)
 refine ⟨fun u=>u.cell? ((aM km).add 12) = some (.map (some kp))∧u.cell? (aM k64) = some (.int .i64 p.left),⟨cm (h.pick 2 [1]),cp h⟩,_,fun u hu=>hu.1,_,fun u hu=>hu.2,_,fun u hu=>hu.1,_,fun u hu=>hu.2,?_,?_⟩
 ·refine (bW (κ:=Int) aK (rfl:ag Ty _ = .map _ _) bz rfl rfl (h.pick 3 [2]) p.left).mono ?_
  rintro _ _ ⟨rfl,rfl⟩
  obtain ⟨q,M,e1,e2,hq,back⟩:=sF rfl (h.pick 4 [3,0,1,2]) p.left
  have hql:q.2.length≤j:=by rw [e2,hps,Ss]; exact zU _ _ _
  refine ⟨_,_,_,e1,⟨cm (hq.pick 4 [3]),cp (hq.pick 3 [2])⟩,ah hq fun k19 w13 h=>⟨⟨cm (h.pick 5 [4]),cp (h.pick 4 [3])⟩,?_⟩⟩
  refine (aQ (us:=iv q.2) aK (rfl:ag Ty _ = .slice _) (rfl:ag Ty _ = .slice _) rfl rfl rfl h rfl (by simp [aS]) (by show (q.2.length + 1) * 8≤_; omega) (by omega)).mono ?_
  rintro _ w14 ⟨o,c',rfl,h⟩
  refine ⟨_,_,_,rfl,⟨cm (h.pick 5 [4]),cp (h.pick 4 [3])⟩,(cH (κ:=Int) aK (rfl:ag Ty _ = .map _ _) bz (h.pick 6 [5,0,2,4]) p.left _).mono ?_⟩
  rintro _ w15 h
  have h:=xN back (q.2 ++ [(j:Int)]) (by simp) (by simp [iv]) h
  exact ⟨⟨by omega,by omega⟩,⟨j + 1,_,by simp,h1,fun s=>by rw [jI,rz hp1,e2,hps]; by_cases e:s = p.left <;> simp [e,hps,h3],h.pick 3 [2,0,1]⟩,bA h1⟩
 ·refine ah h fun k22 w16 h=>⟨⟨cm (h.pick 3 [2]),cp (h.pick 2 [1])⟩,(bW (κ:=Int) aK (rfl:ag Ty _ = .map _ _) bz rfl rfl (h.pick 4 [3]) p.left).mono ?_⟩
  rintro _ _ ⟨rfl,rfl⟩
  obtain ⟨q,M,e1,e2,hq,back⟩:=sF rfl (h.pick 5 [4,0,1,2,3]) p.left
  have hql:q.2.length≤j:=by rw [e2,hps,Ss]; exact zU _ _ _
  refine ⟨_,_,_,e1,⟨cm (hq.pick 5 [4]),cp (hq.pick 4 [3])⟩,?_⟩
  refine (aQ (us:=iv q.2) aK (rfl:ag Ty _ = .slice _) (rfl:ag Ty _ = .slice _) rfl rfl rfl (hq.pick 3 [2,0,1]) rfl (by simp [aS]) (by show (q.2.length + 1) * 8≤_; omega) (by omega)).mono ?_
  rintro _ w14 ⟨o,c',rfl,h⟩
  refine ⟨_,_,_,rfl,⟨cm (h.pick 5 [4]),cp (h.pick 4 [3])⟩,(cH (κ:=Int) aK (rfl:ag Ty _ = .map _ _) bz (h.pick 6 [5,0,2,4]) p.left _).mono ?_⟩
  rintro _ w15 h
  have h:=xN back (q.2 ++ [(j:Int)]) (by simp) (by simp [iv]) h
  exact ⟨⟨by omega,by omega⟩,⟨j + 1,_,by simp,h1,fun s=>by rw [jI,rz hp1,e2,hps]; by_cases e:s = p.left <;> simp [e,hps,h3],h.pick 3 [2,0,1]⟩,bA h1⟩
end Go.Proofs.YtngdohpikfcifaaGreatDoor
namespace Go.V
def bK (n:Nat) (P:Nat→Int→Prop) (B k:Nat) (L:List aw) (w:World):Prop:=∃ (o:Option Addr) (c:Nat) (es:List (Lq Int)),es.length = n∧(∀ i q,es[i]? = some q→(∀ z,z∈q.2↔P i z)∧q.2.length≤B)∧St w (aR k [.slice o n c] :: own 1 o n c (es.map bF) :: aT (es.map (bX 1 iv)) :: L)
theorem bK.iff {n B k:Nat} {P Q:Nat→Int→Prop} {L:List aw} {w:World} (h:bK n P B k L w) (hpq:∀ i z,i < n→(P i z↔Q i z)):bK n Q B k L w:=by
 obtain ⟨o,c,es,h1,h2,h3⟩:=h
 refine ⟨o,c,es,h1,fun i q hq=>⟨fun z=>?_,(h2 i q hq).2⟩,h3⟩
 rw [(h2 i q hq).1 z,hpq i z (by rw [← h1]; exact (Sk.1 hq).1)]
theorem bK.gr {n B k:Nat} {P:Nat→Int→Prop} {L:List aw} {w w' : World} (h:bK n P B k L w) (g:Gr w w'):bK n P B k L w':=by
 obtain ⟨o,c,es,h1,h2,h3⟩:=h
 exact ⟨o,c,es,h1,h2,h3.gr g⟩
theorem bK.gw {n B k:Nat} {P:Nat→Int→Prop} {w0 w:World} (h:bK n P B k (all w0) w):Gr w0 w:=by
 obtain ⟨o,c,es,h1,h2,h3⟩:=h
 exact aZ 3 h3.l
def Mp (n:Nat) (P:Nat→Int→Prop) (ds:List (Lq Int)):Prop:=ds.length = n∧∀ i q,ds[i]? = some q→dp q.2∧∀ z,z∈q.2↔P i z
end Go.V
namespace Go.Proofs.YtngdohpikfcifaaGreatDoor
open Go.V
variable {w:World} {L:List aw} {g:af} {x:GA}
theorem Mq {n a B k:Nat} {b:Int} {P:Nat→Int→Prop} (h:bK n P B k L w) (ha:a < n) (hB:(B + 1) * 8≤140737488355328):aC Tryz.prog a_ [.int .i64 (a:Int),.int .i64 b,.pointer (some (aM k))] w fun v w'=>v = .tuple (Array.mk [])∧bK n (fun i z=>P i z∨i = a∧z = b) (B + 1) k L w':=by
 refine lL _ _ _ w _ ?_
 intro w1 hd
 have h:=h.gr (Gr.drawn hd)
 obtain ⟨o,c,es,hes,hrow,h⟩:=h
 obtain ⟨q,hq⟩ : ∃ q,es[a]? = some q:=⟨_,Sm (by omega)⟩
 have hqB:=(hrow a q hq).2
 have hA:(es.map (bX 1 iv))[a]? = some (bX 1 iv q):=by rw [Sn,hq]; rfl
 have hV:(es.map bF)[a]? = some (bF q):=by rw [Sn,hq]; rfl
 have h:=St.out (h.pick 3 [2,0,1]) hA
 have h:St w1 (own 1 q.1.1 q.2.length q.1.2 (iv q.2) :: aT ((es.map (bX 1 iv)).eraseIdx a) :: aR k [.slice o n c] :: own 1 o n c (es.map bF) :: L):=h
 obtain ⟨ad,rfl,hco⟩:=bH (h.pick 4 [3]) hV
 refine ⟨fun u=>u.cell? (aM k) = some (.slice (some ad) n c)∧u.cell? (ad.add a) = some (bF q),⟨(ai 2 h.l).cell0 (sub.refl _),hco⟩,_,_,_,fun u hu=>hu.1,_,_,_,fun u hu=>hu.1,aq rfl ha ⟨_,_,_,fun u hu=>hu.2,ah h fun k7 w5 h=>?_⟩⟩
 have cc:∀ {u:World} {L' : List aw},St u (own 1 (some ad) n c (es.map bF) :: L')→u.cell? (ad.add a) = some (bF q):=fun h=>by
  obtain ⟨ad',e,hc⟩:=bH h hV
  cases e; exact hc
 refine ⟨⟨(ai 3 h.l).cell0 (sub.refl _),cc (h.pick 5 [4])⟩,?_⟩
 refine (aQ (us:=iv q.2) aK (rfl:ag Ty _ = .slice _) (rfl:ag Ty _ = .slice _) rfl rfl rfl h rfl (by simp [aS]) (by show (q.2.length + 1) * 8≤_; omega) (by omega)).mono ?_
 rintro _ w6 ⟨o',c',rfl,h⟩
 refine ⟨_,_,_,rfl,⟨(ai 3 h.l).cell0 (sub.refl _),cc (h.pick 5 [4])⟩,aq rfl ha (gh (h.pick 5 [4,0,2,3]) rfl (by rw [Ss]; omega) fun w7 h=>?_)⟩
 refine ⟨rfl,some ad,c,es.set a ((o',c'),q.2 ++ [b]),by rw [SL]; exact hes,fun i r hr=>?_,?_⟩
 ·by_cases e:a = i
  ·subst e
   rw [SY (by omega)] at hr
   cases hr
   refine ⟨fun z=>?_,by simp; omega⟩
   show z∈q.2 ++ [b]↔_
   rw [Sp,(hrow a q hq).1 z,SE]
   simp
  ·rw [SR e] at hr
   obtain ⟨r1,r2⟩:=hrow i r hr
   refine ⟨fun z=>?_,by omega⟩
   rw [r1 z]
   exact ⟨.inl,fun h=>h.resolve_right fun h=>e h.1.symm⟩
 ·have e1:(.slice o' (q.2.length + 1) c' : Value) = bF (((o',c'),q.2 ++ [b]):Lq Int):=by simp [bF]
  have e2:own 1 o' (q.2.length + 1) c' (iv q.2 ++ [.int .i64 b]) = bX 1 iv (((o',c'),q.2 ++ [b]):Lq Int):=by simp [bX,iv]
  have h:St w7 (own 1 (some ad) n c ((es.map bF).set a (.slice o' (q.2.length + 1) c')) :: own 1 o' (q.2.length + 1) c' (iv q.2 ++ [.int .i64 b]) :: aT ((es.map (bX 1 iv)).eraseIdx a) :: aR k [.slice (some ad) n c] :: L):=h
  rw [e1,← Ta] at h
  have h:=St.back (B:=own 1 o' (q.2.length + 1) c' (iv q.2 ++ [.int .i64 b])) (h.pick 4 [1,2,0,3]) hA
  rw [e2,← Ta] at h
  exact h.pick 3 [2,1,0]
theorem IA {n k:Nat} {ss:List SQ} {nn:List Bool} {fg:FuncId} {fc:List Value} {P:Nat→Int→Prop} (hw:Mo (hp w) g ss nn k) (hn:(aU g ss).length = n) (hn2:n≤33280) (hF:Fn fg = true)
  (hE:∀ (k4:Nat) (w0:World),bK n (fun _ _=>False) 0 k4 (all w) w0→aC Tryz.prog fg (.func (.func a_) (Array.mk []) (Array.mk [.pointer (some (aM k4))]) :: fc) w0 fun v w'=>v = .tuple (Array.mk [])∧∃ B,B≤4611686018427387∧bK n P B k4 (all w) w') :
  aC Tryz.prog tF [.pointer (some (aM k)),.func (.func fg) (Array.mk []) (Array.mk fc)] w fun v w'=>∃ (o:Option Addr) (c:Nat) (ds:List (Lq Int)),v = .slice o n c∧Mp n P ds∧St w' (own 1 o n c (ds.map bF) :: aT (ds.map (bX 1 iv)) :: all w):=by
 obtain ⟨x,o,c,a,int,ol,cl,ka,kt,on,cn,kp,ma,mt,mp,rk,hg,hs,rT,_,_,_,_,_,_,_⟩:=hw.ex
 rw [hn] at rk
 refine pP _ _ _ w _ ⟨_,_,_,rk.cell (sub.refl _) (j:=8) rfl,⟨by omega,rfl,by omega⟩,?_⟩
 rw [SJ]
 have e0:gG n [(Value.slice none 0 0:Value)] = (List.replicate n (((none,0),[]):Lq Int)).map bF:=by rw [dB]; simp [bF]
 rw [e0]
 refine ah (St.all w) fun k3 w1 h=>ah h fun k4 w2 h=>bg h (by simp) fun w3 h=>bR.2 ⟨hF,?_⟩
 have h:St w3 (aR k4 [.slice (some (aM k3)) n n] :: aR k3 ((List.replicate n (((none,0),[]):Lq Int)).map bF) :: all w):=h
 have h:St w3 (own 1 (some (aM k3)) n n ((List.replicate n (((none,0),[]):Lq Int)).map bF) :: aR k4 [.slice (some (aM k3)) n n] :: all w):=eX (cs:=[]) (show St w3 (aR k3 ((List.replicate n (((none,0),[]):Lq Int)).map bF ++ []) :: aR k4 [.slice (some (aM k3)) n n] :: all w) by rw [S6]; exact h.pick 2 [1,0]) (by simp) (by simp) (SF _)
 have h:=v_ (A:=bX 1 iv ((none,0),[])) (fun w L h=>aB 1 h) n h
 rw [← List.map_replicate] at h
 have hR0:bK n (fun _ _=>False) 0 k4 (all w) w3:=by
  refine ⟨_,_,List.replicate n (((none,0),[]):Lq Int),by simp,fun i q hq=>?_,h.pick 3 [2,1,0]⟩
  rw [Tc] at hq
  split at hq
  ·cases hq; simp
  ·cases hq
 clear h
 refine (hE k4 w3 hR0).mono ?_
 rintro _ w4 ⟨rfl,B,hB,o4,c4,es,hes,hrow,h⟩
 refine ⟨rfl,_,_,_,(ai 0 h.l).cell0 (sub.refl _),fun z w'=>∃ (i:Nat) (es:List (Lq Int)),z = i∧i≤n∧es.length = n∧(∀ j q,es[j]? = some q→(∀ z,z∈q.2↔P j z)∧q.2.length≤B∧(j < i→dp q.2))∧St w' (aR k4 [.slice o4 n c4] :: own 1 o4 n c4 (es.map bF) :: aT (es.map (bX 1 iv)) :: all w),fun z _=>n - z.toNat,
  ⟨0,es,rfl,Sv _,hes,fun j q hq=>⟨(hrow j q hq).1,(hrow j q hq).2,fun h=>absurd h (by omega)⟩,h⟩,?_⟩
 clear h hrow hes
 rintro _ _ w5 ⟨i,es,rfl,hi,hes,hrow,h⟩
 refine ae (fun h1=>?_) fun h1=>?_
 rotate_left
 ·have h1:i = n:=by have:=Sj h1; omega
  refine ⟨_,_,_,(ai 0 h.l).cell0 (sub.refl _),o4,c4,es,rfl,⟨hes,fun j q hq=>?_⟩,h.pick 3 [1,2]⟩
  obtain ⟨q1,q2,q3⟩:=hrow j q hq
  exact ⟨q3 (by have:=(Sk.1 hq).1; omega),q1⟩
 have h1:i < n:=by have:=Si h1; omega
 obtain ⟨q,hq⟩ : ∃ q,es[i]? = some q:=⟨_,Sm (by omega)⟩
 obtain ⟨hqP,hqB,_⟩:=hrow i q hq
 have hA:(es.map (bX 1 iv))[i]? = some (bX 1 iv q):=by rw [Sn,hq]; rfl
 have hV:(es.map bF)[i]? = some (bF q):=by rw [Sn,hq]; rfl
 have h:=St.out (h.pick 3 [2,0,1]) hA
 have h:St w5 (own 1 q.1.1 q.2.length q.1.2 (iv q.2) :: aT ((es.map (bX 1 iv)).eraseIdx i) :: aR k4 [.slice o4 n c4] :: own 1 o4 n c4 (es.map bF) :: all w):=h
 obtain ⟨ad,rfl,hco⟩:=bH (h.pick 4 [3]) hV
 have cc:∀ {u:World} {L' : List aw},St u (own 1 (some ad) n c4 (es.map bF) :: L')→u.cell? (ad.add i) = some (bF q):=fun h=>by
  obtain ⟨ad',e,hc⟩:=bH h hV
  cases e; exact hc
 refine ⟨_,_,_,(ai 2 h.l).cell0 (sub.refl _),aq rfl h1 ⟨_,_,_,hco,(Ig h (by omega)).mono ?_⟩⟩
 rintro _ w6 ⟨rfl,h⟩
 refine ⟨rfl,?_⟩
 intro w7 hd
 have h:=h.eq (aD hd)
 generalize hso:(q.2.mergeSort fun x y=>decide (x≤y)) = so at h
 have hsm:∀ z,z∈so↔z∈q.2:=fun z=>by rw [← hso]; exact List.mem_mergeSort
 have hsr:so.Pairwise (·≤·):=by
  have:=List.pairwise_mergeSort (le:=fun x y:Int=>decide (x≤y)) (fun a b c h1 h2=>by simp at *; omega) (fun a b=>by simp; omega) q.2
  rw [hso] at this
  exact this.imp fun h=>Si h
 have hsl:so.length = q.2.length:=by rw [← hso]; exact List.length_mergeSort _
 refine ⟨fun u=>u.cell? (aM k4) = some (.slice (some ad) n c4)∧u.cell? (ad.add i) = some (bF q),⟨(ai 2 h.l).cell0 (sub.refl _),cc (h.pick 4 [3])⟩,_,_,_,fun u hu=>hu.1,_,_,_,fun u hu=>hu.1,aq rfl h1 ⟨_,_,_,fun u hu=>hu.2,(He h (by omega)).mono ?_⟩⟩
 rintro _ w11 ⟨a',c',rfl,h⟩
 refine ⟨_,_,_,rfl,⟨(ai 2 h.l).cell0 (sub.refl _),cc (h.pick 4 [3])⟩,cV _ _ _ w11 _ (fk (dJ h) ?_)⟩
 have h:=fj h
 refine ⟨_,_,_,rfl,⟨(ai 2 h.l).cell0 (sub.refl _),cc (h.pick 4 [3])⟩,aq rfl h1 (gh (h.pick 4 [3,0,1,2]) rfl (by rw [Ss]; omega) fun w13 h=>?_)⟩
 have hdl:=Hc so
 refine ⟨⟨by omega,by omega⟩,⟨i + 1,es.set i ((fw a' 0 (dd so).length 1,(dd so).length),dd so),by simp,h1,by rw [SL]; exact hes,fun j r hr=>?_,?_⟩,bA h1⟩
 ·by_cases e:i = j
  ·subst e
   rw [SY (by omega)] at hr
   cases hr
   refine ⟨fun z=>?_,by show (dd so).length≤B; omega,fun _=>D3 hsr⟩
   show z∈dd so↔_
   rw [D0,hsm,hqP z]
  ·rw [SR e] at hr
   obtain ⟨r1,r2,r3⟩:=hrow j r hr
   exact ⟨r1,r2,fun h=>r3 (by omega)⟩
 ·have e1:(.slice (fw a' 0 (dd so).length 1) (dd so).length (dd so).length:Value) = bF (((fw a' 0 (dd so).length 1,(dd so).length),dd so):Lq Int):=rfl
  have h:St w13 (own 1 (some ad) n c4 ((es.map bF).set i (.slice (fw a' 0 (dd so).length 1) (dd so).length (dd so).length)) :: own 1 (fw a' 0 (dd so).length 1) (dd so).length (dd so).length (iv (dd so)) :: aT ((es.map (bX 1 iv)).eraseIdx i) :: aR k4 [.slice (some ad) n c4] :: all w):=h
  rw [e1,← Ta] at h
  have h:=St.back (B:=own 1 (fw a' 0 (dd so).length 1) (dd so).length (dd so).length (iv (dd so))) (h.pick 4 [1,2,0,3]) hA
  rw [show own 1 (fw a' 0 (dd so).length 1) (dd so).length (dd so).length (iv (dd so)) = bX 1 iv (((fw a' 0 (dd so).length 1,(dd so).length),dd so):Lq Int) from rfl,← Ta] at h
  exact h.pick 3 [2,1,0]
end Go.Proofs.YtngdohpikfcifaaGreatDoor
namespace Go.V
section
variable {g:af} {ss:List SQ} {nn:List Bool}
theorem IB {s:Int} (h:kF g nn s = true):(g.T:Int)≤s:=by
 unfold kF at h
 rw [SB] at h
 exact Si h.1
def Kr (g:af) (nn:List Bool) (ss:List SQ) (j0:Nat) (es:List aL) (z:Int):Prop:=∃ e∈es,kF g nn e.sym = true∧mW g ss ⟨(j0:Int),e.sym⟩ = z + 1
theorem Kr.snoc {j0:Nat} {es:List aL} {e:aL} {z:Int}:Kr g nn ss j0 (es ++ [e]) z↔Kr g nn ss j0 es z∨(kF g nn e.sym = true∧mW g ss ⟨(j0:Int),e.sym⟩ = z + 1):=by
 unfold Kr
 constructor
 ·rintro ⟨e',he',h⟩
  rw [Sp,SE] at he'
  rcases he' with he' | rfl
  ·exact .inl ⟨e',he',h⟩
  ·exact .inr h
 ·rintro (⟨e',he',h⟩ | h)
  ·exact ⟨e',by simp [he'],h⟩
  ·exact ⟨e,by simp,h⟩
theorem Kr.all (hc:av g) (hA:bG g ss) {i j0:Nat} {t:ak} {r:SQ} (ht:(aU g ss)[i]? = some t) (hnx:eE ss t.st.toNat t.sym = some (j0:Int)) (hr:ss[j0]? = some r) (z:Int):Kr g nn ss j0 r.2.2 z↔z∈bQ (aU g ss).length (cY g nn ss i):=by
 rw [gn]
 constructor
 ·rintro ⟨e,he,h1,h2⟩
  have hpos:0 < mW g ss ⟨(j0:Int),e.sym⟩:=by
   obtain ⟨k,hk⟩:=SP he
   have:=G8 hr hk (IB h1)
   rw [wM hA this]; omega
  obtain ⟨u,hu,hu2⟩:=rD hA hpos
  refine ⟨u,by omega,(Sk.1 hu2).1,?_⟩
  unfold cY
  rw [ht,hu2]
  simp [hnx,h1]
 ·rintro ⟨u,rfl,hu,h⟩
  unfold cY at h
  rw [ht,Sm hu] at h
  simp only [SB,Sy] at h
  obtain ⟨h1,h2⟩:=h
  have hu2:(aU g ss)[u]? = some (aU g ss)[u]:=Sm hu
  obtain ⟨i',q',k',e',hi',hq',he',hge,hte⟩:=dw (Sl hu2)
  have e1:(i' : Int) = j0:=by
   rw [hnx] at h1
   have:=Option.some.inj h1
   rw [hte] at this
   exact this.symm
  have e1:i' = j0:=by omega
  subst e1
  rw [hr] at hq'; cases hq'
  refine ⟨e',Sl he',by rw [hte] at h2; exact h2,?_⟩
  rw [← hte,wM hA hu2]
end
end Go.V
namespace Go.Proofs.YtngdohpikfcifaaGreatDoor
open Go.V
variable {w:World} {L:List aw} {g:af} {x:GA} {ss:List SQ} {nn:List Bool}
theorem P9 {t:ak} {j0:Nat} (h0:0≤t.st) (h:eE ss t.st.toNat t.sym = some (j0:Int)):P1 ss t = (j0:Int) + 1:=by
 unfold P1; rw [Sr (by omega),h]
theorem J3 {n kw kc k1 k4:Nat} {w0:World} (hw:Mo (hp w) g ss nn kw) (hcl:av g) (hA:bG g ss) (hnn:pM g nn) (hkc:ax (hp w) (aM kc) [.pointer (some (aM kw))]) (B:GB (hp w) k1 x) (hTl:g.T = x.tl) (hn:(aU g ss).length = n) (hn2:n≤33280)
  (hR:bK n (fun _ _=>False) 0 k4 (all w) w0) :
  aC Tryz.prog wO [.func (.func a_) (Array.mk []) (Array.mk [.pointer (some (aM k4))]),.pointer (some (aM kc)),.pointer (some (aM k1))] w0 fun v w'=>v = .tuple (Array.mk [])∧∃ B,B≤4611686018427387∧bK n (fun i z=>z∈bQ n (cY g nn ss i)) B k4 (all w) w':=by
 obtain ⟨x',o,c,a,int,ol,cl,ka,kt,on,cn,kp,ma,mt,mp,rk,hg,hs,rT,hma,hN,hmt,hTo,rN,_,_⟩:=hw.ex
 rw [hn] at rk rT
 have hkl:=hA.wz hcl
 obtain ⟨sT,sN,sP,_,_,_⟩:=hcl.eD
 have h256:=hA.dn.2.1
 have g0:Gr w w0:=hR.gw
 refine tH _ _ _ _ w0 _ ⟨_,hkc.cell0 g0,_,_,_,rk.cell g0 (j:=8) rfl,fun z w'=>∃ (i B:Nat),z = i∧i≤n∧B≤i * 130∧bK n (fun j z=>j < i∧z∈bQ n (cY g nn ss j)) B k4 (all w) w',fun z _=>n - z.toNat,
  ⟨0,0,rfl,Sv _,Sv _,hR.iff fun j z _=>⟨fun h=>h.elim,fun h=>absurd h.1 (by omega)⟩⟩,?_⟩
 clear hR
 rintro _ _ w1 ⟨i,B0,rfl,hi,hB0,hR⟩
 have g1:Gr w w1:=hR.gw
 refine ae (fun h1=>?_) fun h1=>?_
 rotate_left
 ·have h1:i = n:=by have:=Sj h1; omega
  subst h1
  exact ⟨rfl,B0,by omega,hR.iff fun j z hj=>⟨fun h=>h.2,fun h=>⟨hj,h⟩⟩⟩
 have h1:i < n:=by have:=Si h1; omega
 obtain ⟨t,tad,ht,hta,rt⟩:=fm rT h1
 obtain ⟨i0,q0,k0,e0,hi0,hq0,he0,hge,hte⟩:=dw (Sl ht)
 have hnx:eE ss t.st.toNat t.sym = some e0.to:=by rw [hte]; exact jM hA hq0 he0
 obtain ⟨hto1,hto2⟩:=jj hcl hA hnx
 obtain ⟨j0,hj0⟩ : ∃ j0:Nat,e0.to = j0:=⟨e0.to.toNat,by omega⟩
 rw [hj0] at hnx hto2
 have hto:j0 < ss.length:=by omega
 obtain ⟨r,hr⟩ : ∃ r,ss[j0]? = some r:=⟨_,Sm hto⟩
 have hrl:=(hkl r (Sl hr)).2
 have hst0:0≤t.st:=by rw [hte]; exact S_ _
 have hk:P1 ss t = (j0:Int) + 1:=P9 hst0 hnx
 obtain ⟨o9,c9,es,hes,hrow,h⟩:=hR
 refine ay hta h1 ⟨_,_,rt.at g1 rfl,ah h fun k3 w2 h=>bh h rfl (by simp [aS]) fun w3 h=>?_⟩
 intro w4 hd
 have h:=h.eq (aD hd)
 have g4:Gr w w4:=aZ 4 h.l
 have r3:ax (hp w4) (aM k3) [.int .i64 t.st,.int .i64 t.sym]:=ai 0 h.l
 refine ⟨fun u=>Gr w4 u,Gr.refl _,_,fun u s=>hkc.cell0 (sub.trans g4 s),_,fun u s=>rk.cell (sub.trans g4 s) (j:=10) rfl,_,_,fun u s=>r3.at s rfl,(cQ (κ:=ak) hmt g4 aK (rfl:ag Ty _ = .map _ _) dH rfl rfl t).mono ?_⟩
 rintro _ w8 ⟨rfl,e8⟩
 rw [e8,hTo.all,hk]
 obtain ⟨sad,eo,rs,_,re⟩:=hs j0 r hr
 have e9:((j0:Int) + 1) - 1 = (j0:Int):=by omega
 refine ⟨_,rfl,Gr.refl _,⟨by omega,by omega⟩,_,hkc.cell0 g4,_,_,_,rk.cell g4 (j:=5) rfl,?_⟩
 rw [e9]
 have hR:bK n (fun j z=>j < i∧z∈bQ n (cY g nn ss j)) B0 k4 (all w) w4:=⟨o9,c9,es,hes,hrow,h.pick 4 [1,2,3]⟩
 clear h hrow
 refine ay eo hto ⟨_,_,_,rs.cell g4 (j:=1) rfl,fun z w'=>∃ (k B1:Nat),z = k∧k≤r.2.2.length∧B1≤B0 + k∧bK n (fun j z=>j < i∧z∈bQ n (cY g nn ss j)∨j = i∧Kr g nn ss j0 (r.2.2.take k) z) B1 k4 (all w) w',fun z _=>r.2.2.length - z.toNat,
  ⟨0,B0,rfl,Sv _,SF _,hR.iff fun j z _=>⟨.inl,fun h=>h.elim id fun h=>by obtain ⟨_,e,he,_⟩:=h; simp at he⟩⟩,?_⟩
 clear hR
 rintro _ _ w9 ⟨k,B1,rfl,hk2,hB1,hR⟩
 have g9:Gr w w9:=hR.gw
 refine ae (fun h2=>?_) fun h2=>?_
 rotate_left
 ·have h2:k = r.2.2.length:=by have:=Sj h2; omega
  rw [h2,SM] at hR
  refine ⟨⟨by omega,by omega⟩,⟨i + 1,B1,by simp,h1,by omega,hR.iff fun j z _=>?_⟩,bA h1⟩
  rw [Kr.all hcl hA ht hnx hr,hn]
  constructor
  ·rintro (⟨h1,h2⟩ | ⟨rfl,h2⟩)
   ·exact ⟨by omega,h2⟩
   ·exact ⟨by omega,h2⟩
  ·rintro ⟨h1,h2⟩
   by_cases e:j = i
   ·exact .inr ⟨e,by rw [e] at h2; exact h2⟩
   ·exact .inl ⟨by omega,h2⟩
 have h2:k < r.2.2.length:=by have:=Si h2; omega
 obtain ⟨e,ead,he,hea,red⟩:=iq re h2
 have htk:r.2.2.take (k + 1) = r.2.2.take k ++ [e]:=by rw [Su,he]; rfl
 obtain ⟨hs1,hs2,_⟩:=fl hcl hA hr he
 obtain ⟨o10,c10,es10,hes10,hrow10,h⟩:=hR
 refine ay hea h2 ⟨_,_,red.at g9 rfl,ah h fun k8 w10 h=>bh h rfl (by simp [aS]) fun w11 h=>?_⟩
 intro w12 hd2
 have h:=h.eq (aD hd2)
 have g12:Gr w w12:=aZ 4 h.l
 have r8:ax (hp w12) (aM k8) [.int .i64 e.sym,.int .i64 e.to]:=ai 0 h.l
 have hR:bK n (fun j z=>j < i∧z∈bQ n (cY g nn ss j)∨j = i∧Kr g nn ss j0 (r.2.2.take k) z) B1 k4 (all w) w12:=⟨o10,c10,es10,hes10,hrow10,h.pick 4 [1,2,3]⟩
 have skip:kF g nn e.sym≠true→aG ((k:Int) + 1)∧(∃ (k' B1' : Nat),(k:Int) + 1 = k'∧k'≤r.2.2.length∧B1'≤B0 + k'∧bK n (fun j z=>j < i∧z∈bQ n (cY g nn ss j)∨j = i∧Kr g nn ss j0 (r.2.2.take k') z) B1' k4 (all w) w12)∧r.2.2.length - ((k:Int) + 1).toNat < r.2.2.length - (k:Int).toNat:=fun hv=>by
  refine ⟨⟨by omega,by omega⟩,⟨k + 1,B1,by simp,h2,by omega,hR.iff fun j z _=>?_⟩,bA h2⟩
  rw [htk,Kr.snoc]
  simp [hv]
 refine ⟨fun u=>Gr w12 u,Gr.refl _,_,fun u s=>r8.cell0 s,_,_,_,fun u s=>B.c0 (sub.trans g12 s),ae (fun h3=>?_) fun h3=>skip fun hv=>?_⟩
 rotate_left
 ·have:=IB hv
  have:=Sj h3
  omega
 have h3:(g.T:Int)≤e.sym:=by rw [hTl]; exact Si h3
 obtain ⟨m,hm⟩ : ∃ m:Nat,e.sym - (x.tl:Int) = m:=⟨(e.sym - (x.tl:Int)).toNat,by omega⟩
 have hmN:m < g.N:=by omega
 have hvan:kF g nn e.sym = bn nn m:=by
  unfold kF
  rw [S2 h3,TS,show e.sym.toNat - g.T = m by omega]
 obtain ⟨bb,hbb⟩ : ∃ bb,nn[m]? = some bb:=⟨_,Sm (by rw [hnn.1]; exact hmN)⟩
 have hfn:bn nn m = bb:=by unfold bn; rw [Sq,hbb]; rfl
 obtain ⟨bb',bad,hb1,hba,hb2⟩:=rN.bL hmN
 rw [hbb] at hb1; cases hb1
 refine ⟨_,fun u s=>hkc.cell0 (sub.trans g12 s),_,_,_,fun u s=>rk.cell (sub.trans g12 s) (j:=11) rfl,_,fun u s=>r8.cell0 s,_,_,_,fun u s=>B.c0 (sub.trans g12 s),⟨by omega,by omega⟩,?_⟩
 rw [hm]
 refine aq hba hmN ⟨bb,fun u s=>hb2 _ (sub.trans g12 s),ae (fun h4=>?_) fun h4=>skip (by rw [hvan,hfn,h4]; simp)⟩
 subst h4
 have hat:=G8 hr he h3
 obtain ⟨u0,hu0,hu1⟩:=rD hA (t:=⟨(j0:Int),e.sym⟩) (by rw [wM hA hat]; omega)
 have hul:u0 < n:=by rw [← hn]; exact (Sk.1 hu1).1
 intro w20 hd3
 have h:=h.eq (aD hd3)
 have g20:Gr w w20:=aZ 4 h.l
 have r8:ax (hp w20) (aM k8) [.int .i64 e.sym,.int .i64 e.to]:=ai 0 h.l
 have hR:=hR.gr (Gr.drawn hd3)
 refine ⟨fun u=>Gr w20 u,Gr.refl _,_,fun u s=>hkc.cell0 (sub.trans g20 s),_,fun u s=>rk.cell (sub.trans g20 s) (j:=9) rfl,_,fun u s=>r8.cell0 s,(cQ (κ:=ak) hma g20 aK (rfl:ag Ty _ = .map _ _) dH rfl rfl ⟨(j0:Int),e.sym⟩).mono ?_⟩
 rintro _ w24 ⟨rfl,e24⟩
 rw [e24,hN.all,hu0]
 have e25:((u0:Int) + 1) - 1 = (u0:Int):=by omega
 refine ⟨_,rfl,Gr.refl _,⟨by omega,by omega⟩,bR.2 ⟨rfl,?_⟩⟩
 rw [e25]
 refine (Mq (a:=i) hR h1 (by omega)).mono ?_
 rintro _ w25 ⟨rfl,hR⟩
 refine ⟨rfl,⟨by omega,by omega⟩,⟨k + 1,B1 + 1,by simp,h2,by omega,hR.iff fun j z _=>?_⟩,bA h2⟩
 rw [htk,Kr.snoc,hu0]
 constructor
 ·rintro ((h | h) | ⟨rfl,rfl⟩)
  ·exact .inl h
  ·exact .inr ⟨h.1,.inl h.2⟩
  ·exact .inr ⟨rfl,.inr ⟨by rw [hvan,hfn],rfl⟩⟩
 ·rintro (h | ⟨rfl,h | h⟩)
  ·exact .inl (.inl h)
  ·exact .inl (.inr ⟨rfl,h⟩)
  ·exact .inr ⟨rfl,by omega⟩
end Go.Proofs.YtngdohpikfcifaaGreatDoor
namespace Go.V
theorem Mp.list {n:Nat} {f:Nat→Nat→Bool} {ds:List (Lq Int)} (h:Mp n (fun i z=>z∈bQ n (f i)) ds):ds.map (·.2) = (List.range n).map fun i=>bQ n (f i):=by
 obtain ⟨h1,h2⟩:=h
 apply Tb
 intro i
 rw [Sn,Sn]
 by_cases hi:i < n
 ·have hd:ds[i]? = some ds[i]:=Sm (by omega)
  rw [hd,TA hi]
  obtain ⟨r1,r2⟩:=h2 i _ hd
  exact congrArg some (sL r1 (mU n (f i)) r2)
 ·rw [SH (by omega),SH (by simp; omega)]; rfl
theorem bK.has {n B k:Nat} {P:Nat→Int→Prop} {h0 h1:Hp} {w:World} (h:bK n P B k [V.has h1] w) (s:sub h0 h1):bK n P B k [V.has h0] w:=by
 obtain ⟨o,c,es,h2,h3,h4⟩:=h
 exact ⟨o,c,es,h2,h3,yN (L:=[_,_,_]) (M:=[V.has h1]) (N:=[V.has h0]) (fun h hs=>cE (sub.trans s (jo hs))) h4⟩
theorem bK.RZ {n B k:Nat} {P:Nat→Int→Prop} {L:List aw} {w:World} (h:bK n P B k L w):∃ h0,aE L h0∧sub h0 (hp w)∧bK n P B k [V.has h0] w:=by
 obtain ⟨o,c,es,q1,q2,h1,h2,d1,s1,s2,ha,h3,h4,d2,s3,s4,hb,h5,h6,d3,s5,s6,hc,hl⟩:=h
 exact ⟨h6,hl,s6.trans (s4.trans s2),o,c,es,q1,q2,h1,h2,d1,s1,s2,ha,h3,h4,d2,s3,s4,hb,h5,h6,d3,s5,s6,hc,cE (sub.refl _)⟩
theorem bK.sb {n B k:Nat} {P:Nat→Int→Prop} {h0:Hp} {w:World} (h:bK n P B k [V.has h0] w):sub h0 (hp w):=by
 obtain ⟨o,c,es,h1,h2,h3⟩:=h
 exact aZ 3 h3.l
section
variable {g:af} {ss:List SQ}
theorem ye (hc:av g) (hA:bG g ss) {i m:Nat} {q:SQ} {p:aJ} (hq:ss[i]? = some q) (hp:g.prods[m]? = some p) (hy:zq g q.1.2 ⟨(m:Int),0⟩):p.right.length≤256:=by
 obtain ⟨j,r,_,e2,e3⟩:=nX hc hA hp p.right.length 0 (by omega) i q hq (by simpa using hy)
 obtain ⟨_,_,_,hP2,_,_⟩:=hc.eD
 have hd:=(jf (g:=g) (by omega) j).dots j _ (uI hA e2).1
 have hj:=(Sk.1 e2).1
 have h256:=hA.dn.2.1
 have:=e3.dot (d:=j) hd (S_ _)
 simp at this
 omega
theorem Bn (hc:av g) (hA:bG g ss) {i:Nat} {t:ak} (ht:(aU g ss)[i]? = some t) {m:Nat} {p:aJ} (hp:g.prods[m]? = some p) (hl:p.left = t.sym):∃ (i0:Nat) (q:SQ),t.st = i0∧ss[i0]? = some q∧zq g q.1.2 ⟨(m:Int),0⟩:=by
 obtain ⟨i0,q0,k0,e0,hi0,hq0,he0,hge,hte⟩:=dw (Sl ht)
 obtain ⟨_,_,j,r,_,_,hr,hrk,hne⟩:=fl hc hA hq0 he0
 obtain ⟨x,hx⟩:=List.exists_mem_of_ne_nil _ hne
 obtain ⟨y,h1,h2,_⟩:=ik.1 hx
 refine ⟨i0,q0,by rw [hte],hq0,.step h1 (by rw [h2]; omega) hp ?_⟩
 rw [hl,h2,hte]
theorem Mr (hc:av g) (hA:bG g ss) {q:Int} {row:List Int} {k:Nat} {s:Int} (h0:0≤q) (h1:q < ss.length) (hs:row[k]? = some s):P1 ss ⟨bM ss q (row.take k),s⟩ - 1 = bM ss q (row.take (k + 1)):=by
 have hn:∀ i s j,eE ss i s = some j→0≤j∧j < ss.length:=fun i s j h=>jj hc hA h
 rw [aV hs,q_ hn _ _ _ h0 h1]
 unfold P1
 rcases wG hn (row.take k) q h0 h1 with e | ⟨e1,e2⟩
 ·rw [e,Sz (by show (-1:Int) < 0; omega),Sz rfl]; rfl
 ·rw [Sr (by show ¬bM ss q (row.take k) < 0; omega),Sr (by omega),mS]
  show (match eE ss (bM ss q (row.take k)).toNat s with | some j=>j + 1 | none=>0) - 1 = _
  cases eE ss (bM ss q (row.take k)).toNat s with
  | none=>rfl
  | some j=>show j + 1 - 1 = j; omega
end
end Go.V
namespace Go.Proofs.YtngdohpikfcifaaGreatDoor
open Go.V
variable {w:World} {L:List aw} {g:af} {x:GA} {ss:List SQ} {nn:List Bool}
theorem fL (hc:av g) (hA:bG g ss):(aU g ss).length≤33280:=by
 have hk:∀ q∈ss,q.2.2.length≤130:=fun q hq=>(hA.wz hc q hq).2
 have h1:=sK (g:=g) hk ss.length
 have h2:=hA.dn.2.1
 show (j6 g ss ss.length).length≤_
 omega
theorem Oq (hg:gR (hp w) g x) (hb:iM g) (ht:gz (hp w)):aC Tryz.prog jS [.agg ⟨x.cells⟩] w fun v w'=>∃ (ss:List SQ) (ask int f:Int) (nn:List Bool) (o:Option Addr) (c:Nat) (ds:List (Lq Int)),v = .tuple #[.slice o ds.length c,.int .i64 f]∧vf g ss ask int f∧(f = 0→pM g nn)∧ds.map (·.2) = ry g nn ss∧St w' (own 1 o ds.length c (ds.map bF) :: aT (ds.map (bX 1 iv)) :: all w):=by
 refine yb _ _ _ _ _ _ _ _ _ _ _ _ _ w _ (de hg fun k1 w1 gw hg B=>?_)
 refine ⟨_,_,_,_,_,_,_,_,_,_,_,_,_,B.row (sub.refl _),(Hh hg hb (gN.mono gw ht)).mono ?_⟩
 rintro _ w2 ⟨ss,ask,int,f,p,rfl,hR,g2,h0,hn⟩
 refine ⟨_,_,rfl,ah (St.all w2) fun k10 w3 h=>bg h (by simp) fun w4 h=>?_⟩
 have g24:Gr w2 w4:=h.aX
 have r10:ax (hp w4) (aM k10) [.pointer p]:=ai 0 h.l
 clear h
 have g14:=g2.trans g24
 refine ae (fun h1=>?_) fun h1=>?_
 ·have h1:f≠0:=by simpa using h1
  have hz:ss = []:=by rcases hR with ⟨_,e,_⟩ | ⟨_,_,e,_⟩ | ⟨_,_,_,_,e⟩ <;> first | exact e | exact absurd e h1
  subst hz
  exact ⟨[],ask,int,f,[],none,0,[],rfl,hR,fun h=>absurd h h1,rfl,aB 1 ((St.flat (M:=[])).2 (St.here (gw.trans g14)))⟩
 have h1:f = 0:=by simpa using h1
 subst h1
 obtain ⟨hc,hA⟩:=hR.Fz rfl
 obtain ⟨k,nn,rfl,hnn,hw⟩:=h0 rfl
 have hw:=hw.mono g24
 have B4:GB (hp w4) k1 x:=⟨fun s=>B.c0 (sub.trans g14 s),fun s=>B.c1 (sub.trans g14 s),fun s=>B.c2 (sub.trans g14 s),fun s=>B.c3 (sub.trans g14 s),fun s=>B.c4 (sub.trans g14 s),fun s=>B.row (sub.trans g14 s)⟩
 have hnl:=fL hc hA
 refine ⟨_,r10.cell0 (sub.refl _),(IA (P:=fun i z=>z∈bQ (aU g ss).length (cY g nn ss i)) hw rfl hnl rfl fun k4 w0 hR0=>J3 hw hc hA hnn r10 B4 hg.t.1 rfl hnl hR0).mono ?_⟩
 rintro _ w5 ⟨o,c,ds,rfl,hds,h⟩
 have hdl:=hds.1
 refine ⟨_,_,_,rfl,ss,ask,int,0,nn,o,c,ds,by rw [hdl],hR,fun _=>hnn,hds.list,?_⟩
 rw [hdl]
 exact St.JA h (cE (gw.trans g14))
theorem Ot {kw k1:Nat} {s:Int} (hw:Mo (hp w) g ss nn kw) (hnn:pM g nn) (hc:av g) (r1:ax (hp w) (aM k1) [.pointer (some (aM kw))]) (hs0:0≤s) (hs1:s < g.T + g.N):aC Tryz.prog dX [.int .i64 s,.pointer (some (aM k1))] w fun v w'=>v = .bool (!kF g nn s)∧Gr w w':=by
 obtain ⟨x',o,c,a,int,ol,cl,ka,kt,on,cn,kp,ma,mt,mp,rk,hg,hs,rT,hma,hN,hmt,hTo,rN,_,_⟩:=hw.ex
 obtain ⟨sT,sN,sP,_,_,_⟩:=hc.eD
 have hTl:g.T = x'.tl:=hg.t.1
 refine iO _ _ w _ ?_
 intro w1 hd
 have g1:Gr w w1:=Gr.drawn hd
 refine ⟨fun u=>Gr w1 u,Gr.refl _,_,fun u s=>r1.cell0 (sub.trans g1 s),_,_,_,fun u s=>rk.cell0 (sub.trans g1 s),ae (fun h3=>⟨?_,g1⟩) fun h3=>?_⟩
 ·have h3:¬(g.T:Int)≤s:=by have:=Si h3; omega
  unfold kF
  rw [TD h3]; rfl
 have h3:(g.T:Int)≤s:=by have:=Sj h3; omega
 obtain ⟨m,hm⟩ : ∃ m:Nat,s - (x'.tl:Int) = m:=⟨(s - (x'.tl:Int)).toNat,by omega⟩
 have hmN:m < g.N:=by omega
 obtain ⟨bb,bad,hb1,hba,hb2⟩:=rN.bL hmN
 refine ⟨_,fun u s=>r1.cell0 (sub.trans g1 s),_,_,_,fun u s=>rk.cell (sub.trans g1 s) (j:=11) rfl,_,fun u s=>r1.cell0 (sub.trans g1 s),_,_,_,fun u s=>rk.cell0 (sub.trans g1 s),⟨by omega,by omega⟩,?_⟩
 rw [hm]
 refine aq hba hmN ⟨bb,fun u s=>hb2 _ (sub.trans g1 s),?_,g1⟩
 unfold kF
 rw [S2 h3,TS,show s.toNat - g.T = m by omega]
 have hfn:bn nn m = bb:=nJ hb1
 rw [hfn]
theorem Hi {kw l c:Nat} {a:Option Addr} {row:List Int} (hw:Mo (hp w) g ss nn kw) (hnn:pM g nn) (hc:av g) (hr:aW (hp w) row a l) (hl:l≤4611686018427387904) (hrow:∀ s∈row,0≤s∧s < g.T + g.N):aC Tryz.prog mY [.pointer (some (aM kw)),.slice a l c] w fun v w'=>v = .bool (rr g nn row)∧Gr w w':=by
 refine kJ _ _ _ _ w _ (ah (St.all w) fun k1 w1 h=>?_)
 have g1:Gr w w1:=h.aX
 have r1:ax (hp w1) (aM k1) [.pointer (some (aM kw))]:=ai 0 h.l
 clear h
 have hr:=hr.mono g1
 have hw:=hw.mono g1
 refine cN _ _ _ _ _ w1 _ ?_
 have key:aC Tryz.prog dM [.slice a l c,.func (.func dX) #[] #[.pointer (some (aM k1))]] w1 fun v w'=>(∃ n:Int,v = .int .i64 n∧(decide (0≤n) = !rr g nn row))∧Gr w1 w':=by
  refine dq _ _ _ _ _ w1 _ ?_
  refine ⟨fun n w'=>∃ j:Nat,n = j∧j≤l∧rr g nn (row.take j) = true∧Gr w1 w',fun n _=>l - n.toNat,⟨0,rfl,by omega,rfl,Gr.refl _⟩,?_⟩
  rintro _ n w2 ⟨j,rfl,hj,ha,g2⟩
  refine ae (fun h1=>?_) fun h1=>?_
  ·have h1:j < l:=by have:=Si h1; omega
   obtain ⟨y,ad,hy1,hya,hy2⟩:=hr.bL h1
   have hym:=Sl hy1
   refine aq hya h1 ⟨y,hy2 _ g2,bR.2 ⟨rfl,(Ot (hw.mono g2) hnn hc (r1.mono g2) (hrow y hym).1 (hrow y hym).2).mono ?_⟩⟩
   rintro _ w3 ⟨rfl,g3⟩
   refine ⟨_,rfl,ae (fun h2=>⟨⟨_,rfl,?_⟩,g2.trans g3⟩) fun h2=>⟨⟨by omega,by omega⟩,⟨j + 1,by simp,by omega,?_,g2.trans g3⟩,bA h1⟩⟩
   ·have hv:kF g nn y = false:=by simpa using h2
    have:rr g nn row = false:=by
     unfold rr
     refine Bool.eq_false_iff.2 fun h=>?_
     have:=TG.1 h y hym
     rw [hv] at this; cases this
    rw [this]; simp
   ·unfold rr at ha ⊢
    rw [aV hy1,List.all_append,ha]
    simpa using h2
  ·have h1:j = l:=by have:=Sj h1; omega
   subst h1
   rw [SD (by have:=hr.1; omega)] at ha
   exact ⟨⟨_,rfl,by rw [ha]; rfl⟩,g2⟩
 refine key.mono ?_
 rintro _ w2 ⟨⟨n,rfl,hn⟩,g2⟩
 refine ⟨n,rfl,_,rfl,?_,g1.trans g2⟩
 rw [hn,Bool.not_not]
theorem IC {J:Nat→World→Prop} {H:Hp} {kw l c:Nat} {a:Option Addr} {row:List Int} {q:Int} {fg:FuncId} {fc:List Value} (hw:Mo H g ss nn kw) (hc:av g) (hA:bG g ss) (hr:aW H row a l) (hl:l≤4611686018427387904) (h0:0≤q) (h1:q < ss.length) (hF:Fn fg = true)
  (hJ0:J 0 w) (hJs:∀ k u,J k u→sub H (hp u)) (hst:∀ (k:Nat) (u:World) (s:Int),row[k]? = some s→J k u→aC Tryz.prog fg (.int .i64 (bM ss q (row.take k)) :: .int .i64 (k:Int) :: fc) u fun v u'=>v = .tuple (Array.mk [])∧J (k + 1) u') :
  aC Tryz.prog rK [.pointer (some (aM kw)),.int .i64 q,.slice a l c,.func (.func fg) (Array.mk []) (Array.mk fc)] w fun v w'=>v = .int .i64 (bM ss q row)∧J l w':=by
 obtain ⟨x',o,c',a',int,ol,cl,ka,kt,on,cn,kp,ma,mt,mp,rk,hg,hs,rT,hma,hN,hmt,hTo,rN,_,_⟩:=hw.ex
 have hrl:=hr.1
 have h256:=hA.dn.2.1
 have hn:∀ i s j,eE ss i s = some j→0≤j∧j < ss.length:=fun i s j h=>jj hc hA h
 refine od _ _ _ _ _ _ _ w _ ⟨fun st z w'=>∃ k:Nat,z = k∧k≤l∧st = bM ss q (row.take k)∧J k w',fun _ z _=>l - z.toNat,⟨0,rfl,Sv _,rfl,hJ0⟩,?_⟩
 rintro _ _ _ w1 ⟨k,rfl,hk,rfl,hJ⟩
 refine ae (fun h2=>?_) fun h2=>?_
 rotate_left
 ·have h2:k = l:=by have:=Sj h2; omega
  subst h2
  exact ⟨by rw [SD (by omega)],hJ⟩
 have h2:k < l:=by have:=Si h2; omega
 have s1:=hJs _ _ hJ
 obtain ⟨y,ad,hy1,hya,hy2⟩:=hr.bL h2
 refine aq hya h2 ⟨y,hy2 _ s1,bR.2 ⟨hF,(hst k w1 y hy1 hJ).mono ?_⟩⟩
 rintro _ w2 ⟨rfl,hJ⟩
 have s2:=hJs _ _ hJ
 refine ⟨rfl,_,rk.cell s2 (j:=10) rfl,(cQ (κ:=ak) hmt s2 aK (rfl:ag Ty _ = .map _ _) dH rfl rfl ⟨bM ss q (row.take k),y⟩).mono ?_⟩
 rintro _ w3 ⟨rfl,rfl⟩
 rw [hTo.all]
 have e:=Mr hc hA h0 h1 hy1
 have hw2:=wG hn (row.take (k + 1)) q h0 h1
 refine ⟨_,rfl,⟨by omega,by omega⟩,⟨by omega,by omega⟩,⟨k + 1,by simp,h2,e,hJ⟩,bA h2⟩
end Go.Proofs.YtngdohpikfcifaaGreatDoor
namespace Go.V
section
variable {g:af} {ss:List SQ} {nn:List Bool}
def wP (g:af) (nn:List Bool) (ss:List SQ) (t:ak) (p:aJ) (k j:Nat):Prop:=∃ (k' : Nat) (s:Int),k' < k∧p.right[k']? = some s∧mW g ss ⟨bM ss t.st (p.right.take k'),s⟩ = (j:Int) + 1∧rr g nn (p.right.drop (k' + 1)) = true
def lM (g:af) (nn:List Bool) (ss:List SQ) (t:ak) (ms:List Nat) (j:Nat):Prop:=∃ m∈ms,∃ p,g.prods[m]? = some p∧wP g nn ss t p p.right.length j
theorem wP.succ {t:ak} {p:aJ} {k j:Nat} {s:Int} (hs:p.right[k]? = some s):wP g nn ss t p (k + 1) j↔wP g nn ss t p k j∨(mW g ss ⟨bM ss t.st (p.right.take k),s⟩ = (j:Int) + 1∧rr g nn (p.right.drop (k + 1)) = true):=by
 unfold wP
 constructor
 ·rintro ⟨k',s',h1,h2,h3⟩
  by_cases e:k' = k
  ·subst e; rw [hs] at h2; cases h2; exact .inr h3
  ·exact .inl ⟨k',s',by omega,h2,h3⟩
 ·rintro (⟨k',s',h1,h2⟩ | h)
  ·exact ⟨k',s',by omega,h2⟩
  ·exact ⟨k,s,by omega,hs,h⟩
theorem lM.snoc {t:ak} {ms:List Nat} {m j:Nat} {p:aJ} (hp:g.prods[m]? = some p):lM g nn ss t (ms ++ [m]) j↔lM g nn ss t ms j∨wP g nn ss t p p.right.length j:=by
 unfold lM
 constructor
 ·rintro ⟨m',h1,p',h2,h3⟩
  rw [Sp,SE] at h1
  rcases h1 with h1 | rfl
  ·exact .inl ⟨m',h1,p',h2,h3⟩
  ·rw [hp] at h2; cases h2; exact .inr h3
 ·rintro (⟨m',h1,h⟩ | h)
  ·exact ⟨m',by simp [h1],h⟩
  ·exact ⟨m,by simp,p,hp,h⟩
theorem FP (hA:bG g ss) {t:ak} {j:Nat}:mW g ss t = (j:Int) + 1↔(aU g ss)[j]? = some t:=by
 constructor
 ·intro h
  obtain ⟨u,hu,hu2⟩:=rD hA (t:=t) (by omega)
  have:u = j:=by omega
  subst this; exact hu2
 ·exact wM hA
theorem lM.iff (hA:bG g ss) {i j:Nat} {t:ak} (ht:(aU g ss)[i]? = some t):lM g nn ss t (xg g g.prods.length t.sym) j↔Bj g nn ss j i = true:=by
 unfold Bj
 rw [ht]
 simp only [TP,SO,SB,Sy]
 constructor
 ·rintro ⟨m,hm,p,hp,k,s,hk,hs,hn,hv⟩
  obtain ⟨h0,p',hp',hl⟩:=wL.1 hm
  rw [hp] at hp'; cases hp'
  refine ⟨m,(Sk.1 hp).1,by omega,?_⟩
  rw [hp]
  simp only [SB,Sy,TP,SO]
  refine ⟨hl,k,hk,?_,hv⟩
  rw [(FP hA).1 hn,Sq,hs]; rfl
 ·rintro ⟨m,hm,h0,h⟩
  cases hp:g.prods[m]? with
  | none=>rw [hp] at h; cases h
  | some p =>
   rw [hp] at h
   simp only [SB,Sy,TP,SO] at h
   obtain ⟨hl,k,hk,hn,hv⟩:=h
   have hs:p.right[k]? = some p.right[k]:=Sm hk
   refine ⟨m,wL.2 ⟨by omega,p,hp,hl⟩,p,hp,k,_,hk,hs,?_,hv⟩
   rw [FP hA,hn,Sq,hs]; rfl
def jT (g:af) (nn:List Bool) (ss:List SQ) (i:Nat) (j:Nat) (z:Int):Prop:=∃ (i' : Nat) (t:ak),i' < i∧z = i'∧(aU g ss)[i']? = some t∧lM g nn ss t (xg g g.prods.length t.sym) j
theorem jT.succ {i j:Nat} {z:Int} {t:ak} (ht:(aU g ss)[i]? = some t):jT g nn ss (i + 1) j z↔jT g nn ss i j z∨(z = i∧lM g nn ss t (xg g g.prods.length t.sym) j):=by
 unfold jT
 constructor
 ·rintro ⟨i',t',h1,h2,h3,h4⟩
  by_cases e:i' = i
  ·subst e; rw [ht] at h3; cases h3; exact .inr ⟨h2,h4⟩
  ·exact .inl ⟨i',t',by omega,h2,h3,h4⟩
 ·rintro (⟨i',t',h1,h2⟩ | ⟨h1,h2⟩)
  ·exact ⟨i',t',by omega,h2⟩
  ·exact ⟨i,t,by omega,h1,ht,h2⟩
theorem jT.all (hA:bG g ss) {j:Nat} {z:Int}:jT g nn ss (aU g ss).length j z↔z∈bQ (aU g ss).length (Bj g nn ss j):=by
 rw [gn]
 constructor
 ·rintro ⟨i,t,h1,h2,h3,h4⟩
  exact ⟨i,h2,h1,(lM.iff hA h3).1 h4⟩
 ·rintro ⟨i,h2,h1,h4⟩
  have h3:(aU g ss)[i]? = some (aU g ss)[i]:=Sm h1
  exact ⟨i,_,h1,h2,h3,(lM.iff hA h3).2 h4⟩
end
end Go.V
namespace Go.Proofs.YtngdohpikfcifaaGreatDoor
open Go.V
variable {w:World} {L:List aw} {g:af} {x:GA} {ss:List SQ} {nn:List Bool}
theorem Ms {H:Hp} {n kw kc kr ke ki k4 i k rl rc B:Nat} {ra:Option Addr} {row:List Int} {st s:Int} {P:Nat→Int→Prop} (hw:Mo H g ss nn kw) (hnn:pM g nn) (hc:av g) (hA:bG g ss) (r1:ax H (aM kc) [.pointer (some (aM kw))]) (r2:ax H (aM kr) [.slice ra rl rc]) (r3:ax H (aM ke) [.func (.func a_) (Array.mk []) (Array.mk [.pointer (some (aM k4))])]) (r4:ax H (aM ki) [.int .i64 (i:Int)])
  (hr:aW H row ra rl) (hlc:rl≤rc) (hl:rl≤4611686018427387904) (hrow:∀ s∈row,0≤s∧s < g.T + g.N) (hs:row[k]? = some s) (hn:(aU g ss).length = n) (hn2:n≤33280) (hB:B≤4611686018427) (hR:bK n P B k4 [has H] w) :
  aC Tryz.prog mX [.int .i64 st,.int .i64 (k:Int),.pointer (some (aM kc)),.pointer (some (aM kr)),.pointer (some (aM ke)),.pointer (some (aM ki))] w fun v w'=>v = .tuple (Array.mk [])∧∃ B',B'≤B + 1∧bK n (fun j z=>P j z∨z = i∧mW g ss ⟨st,s⟩ = (j:Int) + 1∧rr g nn (row.drop (k + 1)) = true) B' k4 [has H] w':=by
 obtain ⟨x',o,c',a',int,ol,cl,ka,kt,on,cn,kp,ma,mt,mp,rk,hg,hss,rT,hma,hN,hmt,hTo,rN,_,_⟩:=hw.ex
 have hkl:k < rl:=by have:=hr.1; have:=(Sk.1 hs).1; omega
 have s0:=hR.sb
 refine kH _ _ _ _ _ _ w _ ?_
 intro w1 hd
 have hR:=hR.gr (Gr.drawn hd)
 have s1:=hR.sb
 obtain ⟨y,ad,hy1,hya,hy2⟩:=hr.bL hkl
 rw [hs] at hy1; cases hy1
 refine ⟨fun u=>Gr w1 u,Gr.refl _,_,fun u g=>r1.cell0 (sub.trans s1 g),_,fun u g=>rk.cell (sub.trans s1 g) (j:=9) rfl,_,_,_,fun u g=>r2.cell0 (sub.trans s1 g),aq hya hkl ⟨s,fun u g=>hy2 _ (sub.trans s1 g),(cQ (κ:=ak) hma s1 aK (rfl:ag Ty _ = .map _ _) dH rfl rfl ⟨st,s⟩).mono ?_⟩⟩
 rintro _ w6 ⟨rfl,e6⟩
 rw [hN.all]
 refine ⟨_,rfl,by rw [e6]; exact Gr.refl _,?_⟩
 intro w7 hd2
 have hR:=hR.gr (by rw [← e6]; exact Gr.drawn hd2:Gr w1 w7)
 have s7:=hR.sb
 refine ⟨fun u=>Gr w7 u,Gr.refl _,ae (fun h1=>?_) fun h1=>?_⟩
 rotate_left
 ·refine ⟨rfl,B,by omega,hR.iff fun j z _=>⟨.inl,fun h=>h.elim id fun h=>?_⟩⟩
  have:=Sj h1
  omega
 have h1:=Si h1
 obtain ⟨u0,hu0,hu1⟩:=rD hA h1
 have hul:u0 < n:=by rw [← hn]; exact (Sk.1 hu1).1
 have ek:(k:Int) + 1 = ((k + 1:Nat):Int):=by omega
 refine ⟨_,fun u g=>r1.cell0 (sub.trans s7 g),_,_,_,fun u g=>r2.cell0 (sub.trans s7 g),⟨by omega,by omega⟩,?_⟩
 rw [ek]
 refine cJ (by omega) hlc ((Hi (hw.mono s7) hnn hc ((hr.drop (k:=k + 1) (m:=rc) (by omega) hlc).mono s7) (by omega) fun s hs=>hrow s (Tw hs)).mono ?_)
 rintro _ w10 ⟨rfl,g10⟩
 have hR:=hR.gr g10
 have s10:=hR.sb
 refine ⟨_,rfl,g10,ae (fun h2=>?_) fun h2=>?_⟩
 rotate_left
 ·exact ⟨rfl,B,by omega,hR.iff fun j z _=>⟨.inl,fun h=>h.elim id fun h=>by rw [h.2.2] at h2; cases h2⟩⟩
 have eu:mW g ss ⟨st,s⟩ - 1 = (u0:Int):=by omega
 refine ⟨_,_,r3.cell0 s10,⟨by omega,by omega⟩,_,r4.cell0 s10,bR.2 ⟨rfl,?_⟩⟩
 rw [eu]
 refine (Mq (a:=u0) hR hul (by omega)).mono ?_
 rintro _ w11 ⟨rfl,hR⟩
 refine ⟨rfl,rfl,B + 1,by omega,hR.iff fun j z _=>?_⟩
 constructor
 ·rintro (h | ⟨rfl,rfl⟩)
  ·exact .inl h
  ·exact .inr ⟨rfl,hu0,h2⟩
 ·rintro (h | ⟨rfl,h,_⟩)
  ·exact .inl h
  ·exact .inr ⟨by omega,rfl⟩
theorem Ou {n kw kc k1 k4:Nat} {w0:World} (hw:Mo (hp w) g ss nn kw) (hc:av g) (hA:bG g ss) (hnn:pM g nn) (hkc:ax (hp w) (aM kc) [.pointer (some (aM kw))]) (B:GB (hp w) k1 x) (hgx:gR (hp w) g x) (hn:(aU g ss).length = n) (hn2:n≤33280)
  (hR:bK n (fun _ _=>False) 0 k4 (all w) w0) :
  aC Tryz.prog rJ [.func (.func a_) (Array.mk []) (Array.mk [.pointer (some (aM k4))]),.pointer (some (aM kc)),.pointer (some (aM k1))] w0 fun v w'=>v = .tuple (Array.mk [])∧∃ B,B≤4611686018427387∧bK n (fun j z=>z∈bQ n (Bj g nn ss j)) B k4 (all w) w':=by
 obtain ⟨x',o,c,a,int,ol,cl,ka,kt,on,cn,kp,ma,mt,mp,rk,hg,hs,rT,hma,hN,hmt,hTo,rN,hmp,hby⟩:=hw.ex
 rw [hn] at rk rT
 have hkl:=hA.wz hc
 obtain ⟨sT,sN,sP,_,_,_⟩:=hc.eD
 have h256:=hA.dn.2.1
 have pl:=hgx.p.1
 refine n_ _ _ _ _ w0 _ ?_
 obtain ⟨oo,co,es,q1,q2,h⟩:=hR
 refine ah h fun ke w1 h=>?_
 have hR:bK n (fun _ _=>False) 0 k4 (aR ke [.func (.func a_) (Array.mk []) (Array.mk [.pointer (some (aM k4))])] :: all w) w1:=⟨oo,co,es,q1,q2,h.pick 4 [1,2,3,0]⟩
 clear h q1 q2
 obtain ⟨he,hel,_,hR⟩:=hR.RZ
 have rE:ax he (aM ke) [.func (.func a_) (Array.mk []) (Array.mk [.pointer (some (aM k4))])]:=ai 0 hel
 have swe:sub (hp w) he:=aZ 1 hel
 have s1:=sub.trans swe hR.sb
 refine ⟨_,hkc.cell0 s1,_,_,_,rk.cell s1 (j:=8) rfl,fun z w'=>∃ (i B:Nat),z = i∧i≤n∧B≤i * 30000∧bK n (jT g nn ss i) B k4 [has he] w',fun z _=>n - z.toNat,
  ⟨0,0,rfl,Sv _,Sv _,hR.iff fun j z _=>⟨fun h=>h.elim,fun h=>by obtain ⟨_,_,h,_⟩:=h; omega⟩⟩,?_⟩
 clear hR s1
 rintro _ _ w2 ⟨i,B0,rfl,hi,hB0,hR⟩
 have s2:=sub.trans swe hR.sb
 refine ae (fun h1=>?_) fun h1=>?_
 rotate_left
 ·have h1:i = n:=by have:=Sj h1; omega
  subst h1
  refine ⟨rfl,B0,by omega,(hR.has swe).iff fun j z _=>?_⟩
  rw [← hn]; exact jT.all hA
 have h1:i < n:=by have:=Si h1; omega
 obtain ⟨t,tad,ht,hta,rt⟩:=fm rT h1
 obtain ⟨i0,q0,k0,e0,hi0,hq0,he0,hge,hte⟩:=dw (Sl ht)
 have hst0:0≤t.st:=by rw [hte]; exact S_ _
 have hst1:t.st < ss.length:=by rw [hte]; show (i0:Int) < _; omega
 obtain ⟨oo,co,es,q1,q2,h⟩:=hR
 refine ay hta h1 ⟨_,_,rt.at s2 rfl,ah h fun ki w3 h=>ah h fun k5 w4 h=>bg (h.pick 2 [1,0]) (by simp) fun w5 h=>bh (h.pick 2 [1,0]) rfl (by simp [aS]) fun w6 h=>?_⟩
 have h:St w6 (aR k5 [.int .i64 t.st,.int .i64 t.sym] :: aR ki [.int .i64 (i:Int)] :: aR k4 [.slice oo n co] :: own 1 oo n co (es.map bF) :: aT (es.map (bX 1 iv)) :: [has he]):=h
 have hR:bK n (jT g nn ss i) B0 k4 (aR k5 [.int .i64 t.st,.int .i64 t.sym] :: aR ki [.int .i64 (i:Int)] :: [has he]) w6:=⟨oo,co,es,q1,q2,h.pick 5 [2,3,4,0,1]⟩
 clear h q1 q2
 intro w7 hd
 have hR:=hR.gr (Gr.drawn hd)
 obtain ⟨hi0,hil,_,hR⟩:=hR.RZ
 have r5:ax hi0 (aM k5) [.int .i64 t.st,.int .i64 t.sym]:=ai 0 hil
 have rI:ax hi0 (aM ki) [.int .i64 (i:Int)]:=ai 1 hil
 have sei:sub he hi0:=aZ 2 hil
 have s7:=hR.sb
 have sw7:=sub.trans swe (sub.trans sei s7)
 refine ⟨fun u=>Gr w7 u,Gr.refl _,_,fun u g=>hkc.cell0 (sub.trans sw7 g),_,fun u g=>rk.cell (sub.trans sw7 g) (j:=12) rfl,_,fun u g=>r5.cell (sub.trans s7 g) (j:=1) rfl,(cQ (κ:=Int) hmp sw7 aK (rfl:ag Ty _ = .map _ _) (uw.AK bz) rfl rfl t.sym).mono ?_⟩
 rintro _ w11 ⟨rfl,e11⟩
 obtain ⟨ba,bc,hb1,hb2⟩:=hby t.sym
 rw [hb1]
 generalize hbs:xg g g.prods.length t.sym = bys at *
 have hbl:bys.length≤97:=by rw [← hbs]; exact SK (zU _ _ _) sP
 refine ⟨_,_,_,rfl,by rw [e11]; exact Gr.refl _,fun z w'=>∃ (m B:Nat),z = m∧m≤bys.length∧B≤B0 + m * 300∧bK n (fun j z=>jT g nn ss i j z∨z = i∧lM g nn ss t (bys.take m) j) B k4 [has hi0] w',fun z _=>bys.length - z.toNat,
  ⟨0,B0,rfl,Sv _,by omega,by rw [e11]; exact hR.iff fun j z _=>⟨.inl,fun h=>h.elim id fun h=>by obtain ⟨_,m,hm,_⟩:=h; simp at hm⟩⟩,?_⟩
 clear hR e11 hd s7 sw7
 rintro _ _ w12 ⟨m,B1,rfl,hm,hB1,hR⟩
 have s12:=hR.sb
 have sw12:=sub.trans swe (sub.trans sei s12)
 refine ae (fun h2=>?_) fun h2=>?_
 rotate_left
 ·have h2:m = bys.length:=by have:=Sj h2; omega
  rw [h2,SM] at hR
  refine ⟨⟨by omega,by omega⟩,⟨i + 1,B1,by simp,h1,by omega,(hR.has sei).iff fun j z _=>?_⟩,bA h1⟩
  rw [jT.succ ht,hbs]
 have h2:m < bys.length:=by have:=Si h2; omega
 obtain ⟨pm,hpm⟩ : ∃ pm,bys[m]? = some pm:=⟨_,Sm h2⟩
 obtain ⟨_,p,hp,hpl⟩:=wL.1 (hbs ▸ Sl hpm)
 have hpml:pm < x.pl:=by have:=(Sk.1 hp).1; omega
 have hpr:=Sl hp
 obtain ⟨i0',q',e1',hq',hcl'⟩:=Bn hc hA ht hp hpl
 have hrl:=ye hc hA hq' hp hcl'
 obtain ⟨bv,bad,hbv,hba,hbc⟩:=hb2.bL h2
 rw [Sn,hpm] at hbv
 cases hbv
 obtain ⟨p',pad,pvs,hp1,hpa,hp2,ra,rl,rc,rfl,hrc,hp3⟩:=hgx.p.get hpml
 rw [hp] at hp1; cases hp1
 have rl1:=hp3.1
 refine aq hba h2 ⟨_,hbc _ sw12,_,_,_,B.c4 sw12,ay hpa hpml ⟨_,_,_,hp2.cell sw12 (j:=1) rfl,?_⟩⟩
 obtain ⟨oo,co,es,q1,q2,h⟩:=hR
 refine ah h fun kr w13 h=>bg h (by simp) fun w14 h=>?_
 have hR:bK n (fun j z=>jT g nn ss i j z∨z = i∧lM g nn ss t (bys.take m) j) B1 k4 (aR kr [.slice ra rl rc] :: [has hi0]) w14:=⟨oo,co,es,q1,q2,h.pick 4 [1,2,3,0]⟩
 clear h q1 q2
 obtain ⟨hm0,hml,_,hR⟩:=hR.RZ
 have rR:ax hm0 (aM kr) [.slice ra rl rc]:=ai 0 hml
 have sim:sub hi0 hm0:=aZ 1 hml
 have s14:=hR.sb
 have swm:=sub.trans swe (sub.trans sei sim)
 have sw14:=sub.trans swm s14
 have hrow:∀ s∈p.right,0≤s∧s < g.T + g.N:=fun s hs=>by have:=hc.sym hpr hs; omega
 refine ⟨_,hkc.cell0 sw14,_,r5.cell0 (sub.trans sim s14),_,_,_,rR.cell0 s14,(IC (J:=fun k u=>∃ B',B'≤B1 + k∧bK n (fun j z=>(jT g nn ss i j z∨z = i∧lM g nn ss t (bys.take m) j)∨z = i∧wP g nn ss t p k j) B' k4 [has hm0] u) (hw.mono swm) hc hA (hp3.mono swm) (by omega) hst0 hst1 rfl
  ⟨B1,by omega,hR.iff fun j z _=>⟨.inl,fun h=>h.elim id fun h=>by obtain ⟨_,_,_,h,_⟩:=h; omega⟩⟩ (fun k u ⟨_,_,h⟩=>h.sb) fun k u s hs ⟨B',hB',h⟩=>?_).mono ?_⟩
 ·have hkl:k < p.right.length:=(Sk.1 hs).1
  refine (Ms (hw.mono swm) hnn hc hA (hkc.mono swm) rR (rE.mono (sub.trans sei sim)) (rI.mono sim) (hp3.mono swm) hrc (by omega) hrow hs hn hn2 (by omega) h).mono ?_
  rintro _ u' ⟨rfl,B2,hB2,h⟩
  refine ⟨rfl,B2,by omega,h.iff fun j z _=>?_⟩
  rw [wP.succ hs]
  constructor
  ·rintro ((h | h) | h)
   ·exact .inl h
   ·exact .inr ⟨h.1,.inl h.2⟩
   ·exact .inr ⟨h.1,.inr h.2⟩
  ·rintro (h | ⟨h,h2 | h2⟩)
   ·exact .inl (.inl h)
   ·exact .inl (.inr ⟨h,h2⟩)
   ·exact .inr ⟨h,h2⟩
 rintro _ w15 ⟨rfl,B',hB',hR⟩
 have htk:bys.take (m + 1) = bys.take m ++ [pm]:=by rw [Su,hpm]; rfl
 refine ⟨_,rfl,⟨by omega,by omega⟩,⟨m + 1,B',by simp,h2,by omega,(hR.has sim).iff fun j z _=>?_⟩,bA h2⟩
 rw [htk,lM.snoc hp,← rl1]
 constructor
 ·rintro ((h | h) | h)
  ·exact .inl h
  ·exact .inr ⟨h.1,.inl h.2⟩
  ·exact .inr ⟨h.1,.inr h.2⟩
 ·rintro (h | ⟨h,h2 | h2⟩)
  ·exact .inl (.inl h)
  ·exact .inl (.inr ⟨h,h2⟩)
  ·exact .inr ⟨h,h2⟩
end Go.Proofs.YtngdohpikfcifaaGreatDoor
namespace Go.V
section
variable {κ α : Type} [DecidableEq κ] {sz:Nat} {f:List α→List Value} {s t:κ}
theorem Mt {q:Lq α}:∀ {ps:List (κ × Lq α)},(ps.map Prod.fst).Nodup→cP s ps = some q→(mO sz f ps).Perm (bX sz f q :: mO sz f (ps.filter fun e=>decide (e.1≠s)))
 | [],_,h=>by cases h
 | (a,u) :: m,hn,h=>by
  rw [S0,Te] at hn
  unfold cP at h
  by_cases e:s = a
  ·subst e
   rw [Sz rfl] at h
   cases h
   have e2:((s,q) :: m).filter (fun e=>decide (e.1≠s)) = m:=by
    rw [List.filter_cons,Sr (by simp)]
    refine List.filter_eq_self.2 fun x hx=>?_
    simp only [Sy]
    exact fun h=>hn.1 (SG.2 ⟨x,hx,h⟩)
   rw [e2]; exact .refl _
  ·rw [Sr e] at h
   have e2:((a,u) :: m).filter (fun e=>decide (e.1≠s)) = (a,u) :: m.filter fun e=>decide (e.1≠s):=by
    rw [List.filter_cons,Sz (by simpa using TM e)]
   rw [e2]
   exact (List.Perm.cons _ (Mt hn.2 h)).trans (.swap _ _ _)
theorem FQ (h:t≠s) (ps:List (κ × Lq α)):cP t (ps.filter fun e=>decide (e.1≠s)) = cP t ps:=by
 induction ps with
 | nil=>rfl
 | cons x m ih =>
  obtain ⟨a,u⟩:=x
  rw [List.filter_cons]
  by_cases e:a = s
  ·subst e
   have e2:cP t ((a,u) :: m) = cP t m:=by show (if t = a then some u else cP t m) = _; rw [Sr h]
   rw [Sr (by simp),ih,e2]
  ·rw [Sz (by simpa using e)]
   show (if t = a then some u else cP t (m.filter fun e=>decide (e.1≠s))) = (if t = a then some u else cP t m)
   rw [ih]
end
section
variable {g:af} {ss:List SQ}
theorem yf (i:Nat) (f:Nat→Bool):bQ (i + 1) f = bQ i f ++ if f i = true then [(i:Int)] else []:=by
 unfold bQ
 rw [TX,Th,SU]
 congr 1
 by_cases h:f i = true <;> simp [h]
theorem J4 {q m i:Nat} {t:ak} (ht:(aU g ss)[i]? = some t):fR g ss q m i = true↔m∈xg g g.prods.length t.sym∧∃ p,g.prods[m]? = some p∧bM ss t.st p.right = q:=by
 rw [wL]
 unfold fR
 rw [ht]
 cases hp:g.prods[m]? with
 | none=>simp
 | some p =>
  simp only [SB,Sy,Option.some.injEq]
  constructor
  ·rintro ⟨⟨h1,h2⟩,h3⟩
   exact ⟨⟨by omega,p,rfl,h2⟩,p,rfl,h3⟩
  ·rintro ⟨⟨h1,p',rfl,h2⟩,p'',rfl,h3⟩
   exact ⟨⟨by omega,h2⟩,h3⟩
def R9 (g:af) (ss:List SQ) (ps:List (ak × Lq Int)) (i:Nat) (t:ak) (ms:List Nat):Prop:=(ps.map Prod.fst).Nodup∧(∀ k,(gP k ps).length≤i + 1)∧∀ q m:Nat,gP ⟨(q:Int),(m:Int)⟩ ps = bQ i (fR g ss q m) ++ if m∈ms∧(∃ p,g.prods[m]? = some p∧bM ss t.st p.right = q) then [(i:Int)] else []
abbrev F9:=(Int × Int) × Lq Int
def Re (b:F9):List Value:=[.int .i64 b.1.1,.int .i64 b.1.2,bF b.2]
def Cc (bs:List F9):List Value:=bs.flatMap Re
def BH (bs:List F9):List aw:=bs.map fun b=>bX 1 iv b.2
def Hj (b:F9):kT:=⟨b.1.1,b.1.2,b.2.2⟩
theorem ID (bs:List F9):(Cc bs).length = bs.length * 3:=A8 (f:=Re) (n:=3) (fun _=>rfl) bs
theorem IE (xs ys:List F9):Cc (xs ++ ys) = Cc xs ++ Cc ys:=Tv
theorem yg (g:af) (ss:List SQ) (q:Nat):∀ j,(iw g ss q j).length≤j
 | 0=>by simp [iw]
 | j + 1=>by
  have:=yg g ss q j
  rw [Bk,Sx]
  have h2:(x_ g ss q j).length≤1:=by unfold x_; split <;> simp
  omega
def D9 (g:af) (ss:List SQ) (q:Nat):List kT:=(List.range q).flatMap fun q=>iw g ss q g.prods.length
theorem CW (g:af) (ss:List SQ) (q:Nat):D9 g ss (q + 1) = D9 g ss q ++ iw g ss q g.prods.length:=by unfold D9; rw [TX,Tv]; simp
theorem wQ (g:af) (ss:List SQ):∀ q,(D9 g ss q).length≤q * g.prods.length
 | 0=>by simp [D9]
 | q + 1=>by
  have:=wQ g ss q
  have:=yg g ss q g.prods.length
  rw [CW,Sx,TN]
  omega
end
end Go.V
namespace Go.Proofs.YtngdohpikfcifaaGreatDoor
open Go.V
variable {w:World} {L:List aw} {g:af} {x:GA} {ss:List SQ} {nn:List Bool}
theorem Hk (hg:gR (hp w) g x) (hb:iM g) (ht:gz (hp w)):aC Tryz.prog gp [.agg ⟨x.cells⟩] w fun v w'=>∃ (ss:List SQ) (ask int f:Int) (nn:List Bool) (o:Option Addr) (c:Nat) (ds:List (Lq Int)),v = .tuple #[.slice o ds.length c,.int .i64 f]∧vf g ss ask int f∧(f = 0→pM g nn)∧ds.map (·.2) = tA g nn ss∧St w' (own 1 o ds.length c (ds.map bF) :: aT (ds.map (bX 1 iv)) :: all w):=by
 refine tC _ _ _ _ _ _ _ _ _ _ _ _ _ w _ (de hg fun k1 w1 gw hg B=>?_)
 refine ⟨_,_,_,_,_,_,_,_,_,_,_,_,_,B.row (sub.refl _),(Hh hg hb (gN.mono gw ht)).mono ?_⟩
 rintro _ w2 ⟨ss,ask,int,f,p,rfl,hR,g2,h0,hn⟩
 refine ⟨_,_,rfl,ah (St.all w2) fun k10 w3 h=>bg h (by simp) fun w4 h=>?_⟩
 have g24:Gr w2 w4:=h.aX
 have r10:ax (hp w4) (aM k10) [.pointer p]:=ai 0 h.l
 clear h
 have g14:=g2.trans g24
 refine ae (fun h1=>?_) fun h1=>?_
 ·have h1:f≠0:=by simpa using h1
  have hz:ss = []:=by rcases hR with ⟨_,e,_⟩ | ⟨_,_,e,_⟩ | ⟨_,_,_,_,e⟩ <;> first | exact e | exact absurd e h1
  subst hz
  exact ⟨[],ask,int,f,[],none,0,[],rfl,hR,fun h=>absurd h h1,rfl,aB 1 ((St.flat (M:=[])).2 (St.here (gw.trans g14)))⟩
 have h1:f = 0:=by simpa using h1
 subst h1
 obtain ⟨hc,hA⟩:=hR.Fz rfl
 obtain ⟨k,nn,rfl,hnn,hw⟩:=h0 rfl
 have hw:=hw.mono g24
 have B4:GB (hp w4) k1 x:=⟨fun s=>B.c0 (sub.trans g14 s),fun s=>B.c1 (sub.trans g14 s),fun s=>B.c2 (sub.trans g14 s),fun s=>B.c3 (sub.trans g14 s),fun s=>B.c4 (sub.trans g14 s),fun s=>B.row (sub.trans g14 s)⟩
 have hnl:=fL hc hA
 refine ⟨_,r10.cell0 (sub.refl _),(IA (P:=fun i z=>z∈bQ (aU g ss).length (Bj g nn ss i)) hw rfl hnl rfl fun k4 w0 hR0=>Ou hw hc hA hnn r10 B4 (hg.mono g14) rfl hnl hR0).mono ?_⟩
 rintro _ w5 ⟨o,c,ds,rfl,hds,h⟩
 have hdl:=hds.1
 refine ⟨_,_,_,rfl,ss,ask,int,0,nn,o,c,ds,by rw [hdl],hR,fun _=>hnn,hds.list,?_⟩
 rw [hdl]
 exact St.JA h (cE (gw.trans g14))
theorem Hl (hg:gR (hp w) g x) (hb:iM g) (htb:gz (hp w)):aC Tryz.prog wN [.agg ⟨x.cells⟩] w fun v w'=>∃ (ss:List SQ) (ask int f:Int) (o:Option Addr) (c:Nat) (ds:List F9),v = .tuple #[.slice o ds.length c,.int .i64 f]∧vf g ss ask int f∧ds.map Hj = nY g ss∧St w' (own 3 o ds.length c (Cc ds) :: aT (BH ds) :: all w):=by
 refine tE _ _ _ _ _ _ _ _ _ _ _ _ _ w _ (de hg fun k1 w1 gw hg B=>?_)
 refine ⟨_,_,_,_,_,_,_,_,_,_,_,_,_,B.row (sub.refl _),(Hh hg hb (gN.mono gw htb)).mono ?_⟩
 rintro _ w2 ⟨ss,ask,int,f,p,rfl,hR,g12,h0,hn⟩
 refine ⟨_,_,rfl,ae (fun h1=>?_) fun h1=>?_⟩
 ·have h1:f≠0:=by simpa using h1
  have hz:ss = []:=by rcases hR with ⟨_,e,_⟩ | ⟨_,_,e,_⟩ | ⟨_,_,_,_,e⟩ <;> first | exact e | exact absurd e h1
  subst hz
  exact ⟨[],ask,int,f,none,0,[],rfl,hR,rfl,aB 3 ((St.flat (M:=[])).2 (St.here (gw.trans g12)))⟩
 have h1:f = 0:=by simpa using h1
 subst h1
 obtain ⟨hc,hA⟩:=hR.Fz rfl
 obtain ⟨kw,nn,rfl,hnn,hw⟩:=h0 rfl
 have hnl:=fL hc hA
 obtain ⟨x',o,c,a,int',ol,cl,ka,kt,on,cn,kp,ma,mt,mp,rk,hg',hs,rT,hma,hN,hmt,hTo,rN,hmp,hby⟩:=hw.ex
 have hkl:=hA.wz hc
 obtain ⟨sT,sN,sP,_,_,_⟩:=hc.eD
 have h256:=hA.dn.2.1
 have pl:=hg.p.1
 have hgx:=hg.mono g12
 refine mg (St.all w2) fun kb w3 h=>?_
 have h:=dC (κ:=ak) h
 have g23:Gr w2 w3:=aZ 1 h.l
 refine ⟨_,_,_,rk.cell g23 (j:=8) rfl,fun z w'=>∃ (i:Nat) (ps:List (ak × Lq Int)),z = i∧i≤(aU g ss).length∧R9 g ss ps i ⟨0,0⟩ []∧St w' (mapA kb (mV ps) :: aT (mO 1 iv ps) :: all w2),fun z _=>(aU g ss).length - z.toNat,
  ⟨0,[],rfl,Sv _,⟨by simp,fun k=>Sv _,fun q m=>by simp [gP,cP,bQ]⟩,?_⟩,?_⟩
 ·exact ((St.flat (M:=[])).2 h).swap
 clear h
 rintro _ _ w4 ⟨i,ps,rfl,hi,hBk,h⟩
 have s4:sub (hp w2) (hp w4):=aZ 2 h.l
 refine ae (fun h1=>?_) fun h1=>?_
 ·have h1:i < (aU g ss).length:=by have:=Si h1; omega
  obtain ⟨t,tad,ht,hta,rt⟩:=fm rT h1
  obtain ⟨i0,q0,k0,e0,hi0,hq0,he0,hge,hte⟩:=dw (Sl ht)
  have hst0:0≤t.st:=by rw [hte]; exact S_ _
  have hst1:t.st < ss.length:=by rw [hte]; show (i0:Int) < _; omega
  refine ay hta h1 ⟨_,_,rt.at s4 rfl,ah h fun k13 w5 h=>bh h rfl (by simp [aS]) fun w6 h=>?_⟩
  intro w7 hd
  have h:=h.eq (aD hd)
  have s7:sub (hp w2) (hp w7):=aZ 3 h.l
  have r13:ax (hp w7) (aM k13) [.int .i64 t.st,.int .i64 t.sym]:=ai 0 h.l
  refine ⟨fun u=>Gr w7 u,Gr.refl _,_,fun u g=>rk.cell (sub.trans s7 g) (j:=12) rfl,_,fun u g=>r13.cell g (j:=1) rfl,(cQ (κ:=Int) hmp s7 aK (rfl:ag Ty _ = .map _ _) (uw.AK bz) rfl rfl t.sym).mono ?_⟩
  rintro _ w10 ⟨rfl,e10⟩
  obtain ⟨ba,bc,hb1,hb2⟩:=hby t.sym
  rw [hb1]
  have hnd:(xg g g.prods.length t.sym).Nodup:=by
   unfold xg JT
   exact (List.nodup_range.filter _).filter _
  have hiff:∀ m,m∈xg g g.prods.length t.sym↔0 < m∧∃ p,g.prods[m]? = some p∧p.left = t.sym:=fun m=>wL
  have hbb:∀ q m:Nat,fR g ss q m i = true↔m∈xg g g.prods.length t.sym∧∃ p,g.prods[m]? = some p∧bM ss t.st p.right = q:=fun q m=>J4 ht
  generalize hbs:xg g g.prods.length t.sym = bys at *
  have hbl:bys.length≤97:=by rw [← hbs]; exact SK (zU _ _ _) sP
  refine ⟨_,_,_,rfl,by rw [e10]; exact Gr.refl _,fun z w'=>∃ (M:Nat) (ps:List (ak × Lq Int)),z = M∧M≤bys.length∧R9 g ss ps i t (bys.take M)∧St w' (mapA kb (mV ps) :: aT (mO 1 iv ps) :: aR k13 [.int .i64 t.st,.int .i64 t.sym] :: all w2),fun z _=>bys.length - z.toNat,
   ⟨0,ps,rfl,Sv _,⟨hBk.1,hBk.2.1,fun q m=>by rw [hBk.2.2 q m]; simp⟩,by rw [e10]; exact h.pick 3 [1,2,0]⟩,?_⟩
  clear h hBk e10 hd r13 s7
  rintro _ _ w11 ⟨M,ps,rfl,hM,hBk,h⟩
  have s11:sub (hp w2) (hp w11):=aZ 3 h.l
  refine ae (fun h2=>?_) fun h2=>?_
  rotate_left
  ·have h2:M = bys.length:=by have:=Sj h2; omega
   rw [h2,SM] at hBk
   refine ⟨⟨by omega,by omega⟩,⟨i + 1,ps,by simp,h1,⟨hBk.1,fun k=>by have:=hBk.2.1 k; omega,fun q m=>?_⟩,h.pick 3 [0,1]⟩,bA h1⟩
   rw [hBk.2.2 q m,yf]
   by_cases e:fR g ss q m i = true
   ·rw [Sz e,Sz ((hbb q m).1 e)]; simp
   ·rw [Sr e,Sr (fun h=>e ((hbb q m).2 h))]; simp
  have h2:M < bys.length:=by have:=Si h2; omega
  obtain ⟨pm,hpm⟩ : ∃ pm,bys[M]? = some pm:=⟨_,Sm h2⟩
  obtain ⟨_,p,hpq,hpl⟩:=(hiff pm).1 (Sl hpm)
  have hpml:pm < x.pl:=by have:=(Sk.1 hpq).1; omega
  obtain ⟨i0',q',e1',hq',hcl'⟩:=Bn hc hA ht hpq hpl
  have hrl:=ye hc hA hq' hpq hcl'
  obtain ⟨bv,bad,hbv,hba,hbc⟩:=hb2.bL h2
  rw [Sn,hpm] at hbv
  cases hbv
  obtain ⟨p',pad,pvs,hp1,hpa,hp2,ra,rl,rc,rfl,hrc,hp3⟩:=hgx.p.get hpml
  rw [hpq] at hp1; cases hp1
  have rl1:=hp3.1
  obtain ⟨jw,_,hjw,_,_⟩:=nX hc hA hpq p.right.length 0 (by omega) i0' q' hq' (by simpa using hcl')
  rw [List.drop_zero,← e1'] at hjw
  refine aq hba h2 ⟨_,hbc _ s11,?_⟩
  intro w12 hd
  have h:=h.eq (aD hd)
  have s12:sub (hp w2) (hp w12):=aZ 3 h.l
  have r13:ax (hp w12) (aM k13) [.int .i64 t.st,.int .i64 t.sym]:=ai 2 h.l
  refine ⟨fun u=>Gr w12 u,Gr.refl _,_,fun u g=>r13.cell0 g,_,_,_,fun u g=>B.c4 (sub.trans g12 (sub.trans s12 g)),ay hpa hpml ⟨_,_,_,fun u g=>hp2.cell (sub.trans s12 g) (j:=1) rfl,(IC (J:=fun k u=>hp u = hp w12) (H:=hp w2) hw hc hA hp3 (by omega) hst0 hst1 rfl rfl (fun k u e=>by rw [e]; exact s12) fun k u s hs e=>?_).mono ?_⟩⟩
  ·exact og _ _ _ _ ⟨rfl,e⟩
  rintro _ w16 ⟨rfl,e16⟩
  have h:=h.eq e16
  refine ⟨_,rfl,Gr.of_eq e16,ah h fun k20 w17 h=>bh h rfl (by simp [aS]) fun w18 h=>?_⟩
  refine ⟨_,_,(ai 0 h.l).at (sub.refl _) rfl,ah h fun k21 w19 h=>?_⟩
  refine (map_take (κ:=ak) aK (rfl:ag Ty _ = .map _ _) dH rfl rfl (h.pick 3 [2,0,1]) ⟨bM ss t.st p.right,(pm:Int)⟩).mono ?_
  rintro _ w20 ⟨n,rfl,h⟩
  obtain ⟨q,M',e1,e2,hq,back⟩:=sF rfl (h.pick 4 [3,0,1,2]) ⟨bM ss t.st p.right,(pm:Int)⟩
  have hql:q.2.length≤i + 1:=by rw [e2]; exact hBk.2.1 _
  rw [e1] at hq ⊢
  refine ⟨_,_,_,_,rfl,?_⟩
  refine (aQ (us:=iv q.2) aK (rfl:ag Ty _ = .slice _) (rfl:ag Ty _ = .slice _) rfl rfl rfl (hq.pick 5 [3,0,1,2,4]) rfl (by simp [aS]) (by show (q.2.length + 1) * 8≤_; omega) (by omega)).mono ?_
  rintro _ w21 ⟨o',c',rfl,h⟩
  refine ⟨_,_,_,rfl,(Mj (h.pick 5 [3,0,2]) _).mono ?_⟩
  rintro _ w22 h
  rw [yc] at h
  have h:=xN back (q.2 ++ [(i:Int)]) (by simp) (by simp [iv]) h
  have htk:bys.take (M + 1) = bys.take M ++ [pm]:=by rw [Su,hpm]; rfl
  have hnot:pm∉bys.take M:=fun hm=>by
   obtain ⟨M2,hM2⟩:=SP hm
   have hM3:=(Sk.1 hM2).1
   rw [SN] at hM3
   rw [TE,Sz (by omega)] at hM2
   have:=(List.getElem?_inj (i:=M2) (j:=M) (by omega) hnd).1 (by rw [hM2,hpm])
   omega
  refine ⟨⟨by omega,by omega⟩,⟨M + 1,jg ⟨bM ss t.st p.right,(pm:Int)⟩ ((o',c'),q.2 ++ [(i:Int)]) ps,by simp,h2,⟨Ik _ hBk.1,fun k=>?_,fun q2 m=>?_⟩,?_⟩,bA h2⟩
  ·rw [jI]
   by_cases e:k = (⟨bM ss t.st p.right,(pm:Int)⟩ : ak)
   ·rw [Sz e]
    show (q.2 ++ [(i:Int)]).length≤i + 1
    have h5:q.2.length≤i:=by
     rw [e2]
     rw [hjw,hBk.2.2 jw pm,Sr (fun h=>hnot h.1),S6]
     exact fp _ _
    rw [Sx,T5]; omega
   ·rw [Sr e]; exact hBk.2.1 k
  ·rw [jI,htk]
   by_cases e:(⟨(q2:Int),(m:Int)⟩ : ak) = ⟨bM ss t.st p.right,(pm:Int)⟩
   ·rw [Sz e]
    have e3:(q2:Int) = bM ss t.st p.right:=congrArg ak.st e
    have e4:m = pm:=by have:(m:Int) = pm:=congrArg ak.sym e; omega
    subst e4
    show q.2 ++ [(i:Int)] = _
    rw [e2,← e,hBk.2.2 q2 m,Sr (fun h=>hnot h.1),S6,Sz ⟨by simp,p,hpq,e3.symm⟩]
   ·rw [Sr e,hBk.2.2 q2 m]
    congr 1
    by_cases h5:m∈bys.take M∧∃ p,g.prods[m]? = some p∧bM ss t.st p.right = q2
    ·rw [Sz h5,Sz ⟨by simp [h5.1],h5.2⟩]
    ·rw [Sr h5,Sr ?_]
     rintro ⟨h6,p2,h7,h8⟩
     rw [Sp,SE] at h6
     rcases h6 with h6 | rfl
     ·exact h5 ⟨h6,p2,h7,h8⟩
     ·rw [hpq] at h7; cases h7
      exact e (by rw [← h8])
  ·exact h
 have h1:i = (aU g ss).length:=by have:=Sj h1; omega
 subst h1
 have hget:∀ q m:Nat,gP ⟨(q:Int),(m:Int)⟩ ps = bQ (aU g ss).length (fR g ss q m):=fun q m=>by rw [hBk.2.2 q m]; simp
 have hkn:=hBk.1
 clear hBk
 have hP2:∀ q,q≤ss.length→q * g.prods.length≤256 * 97:=fun q hq=>Nat.mul_le_mul (by omega) sP
 refine ⟨_,_,_,rk.cell s4 (j:=5) rfl,fun o n c z w'=>∃ (q:Nat) (bs:List F9) (rs:List (ak × Lq Int)),z = q∧q≤ss.length∧n = bs.length∧bs.map Hj = D9 g ss q∧(rs.map Prod.fst).Nodup∧(∀ k:ak,(q:Int)≤k.st→cP k rs = cP k ps)∧St w' (own 3 o n c (Cc bs) :: aT (BH bs) :: mapA kb (mV ps) :: aT (mO 1 iv rs) :: all w2),fun _ _ _ z _=>ss.length - z.toNat,
  ⟨0,[],ps,rfl,Sv _,rfl,rfl,hkn,fun _ _=>rfl,aB 3 ((St.flat (M:=[])).2 h)⟩,?_⟩
 clear h s4
 rintro _ o14 _ c14 _ w23 ⟨q,bs,rs,rfl,hq,rfl,hbs,hrn,hrs,h⟩
 have s23:sub (hp w2) (hp w23):=aZ 4 h.l
 have hbl:bs.length≤24832:=by
  have h1:=wQ g ss q
  rw [← hbs,Ss] at h1
  have:=hP2 q hq
  omega
 refine ae (fun h1=>?_) fun h1=>?_
 rotate_left
 ·have h1:q = ss.length:=by have:=Sj h1; omega
  subst h1
  refine fK _ _ _ w23 _ (fk (dJ h) ⟨_,_,_,rfl,ss,ask,int,0,_,_,bs,rfl,hR,hbs,?_⟩)
  have h:=fj h
  exact St.JA (h.pick 5 [0,1,4]) (cE (gw.trans g12))
 have h1:q < ss.length:=by have:=Si h1; omega
 refine ⟨_,_,_,B.c4 (sub.trans g12 s23),fun o n c z w'=>∃ (m:Nat) (bs:List F9) (rs:List (ak × Lq Int)),z = m∧m≤x.pl∧n = bs.length∧bs.map Hj = D9 g ss q ++ iw g ss q m∧(rs.map Prod.fst).Nodup∧(∀ k:ak,((q:Int) < k.st∨(k.st = q∧(m:Int)≤k.sym))→cP k rs = cP k ps)∧St w' (own 3 o n c (Cc bs) :: aT (BH bs) :: mapA kb (mV ps) :: aT (mO 1 iv rs) :: all w2),fun _ _ _ z _=>x.pl - z.toNat,
  ⟨0,bs,rs,rfl,Sv _,rfl,by rw [hbs]; simp [iw],hrn,fun k hk=>hrs k (by rcases hk with hk | hk <;> omega),h⟩,?_⟩
 clear h s23 hbs hrn hrs hbl
 rintro _ o16 _ c16 _ w24 ⟨m,bs,rs,rfl,hm,rfl,hbs,hrn,hrs,h⟩
 have hbl:bs.length≤25000:=by
  have h1:=wQ g ss q
  have h2:=yg g ss q m
  have h3:=congrArg List.length hbs
  rw [Ss,Sx] at h3
  have:=hP2 q hq
  omega
 refine ae (fun h2=>?_) fun h2=>?_
 rotate_left
 ·have h2:m = x.pl:=by have:=Sj h2; omega
  subst h2
  refine ⟨⟨by omega,by omega⟩,⟨q + 1,bs,rs,by simp,h1,rfl,?_,hrn,fun k hk=>hrs k (.inl (by omega)),h⟩,bA h1⟩
  rw [hbs,CW,pl]
 have h2:m < x.pl:=by have:=Si h2; omega
 have hgm:=hget q m
 refine (qA (κ:=ak) aK (rfl:ag Ty _ = .map _ _) dH rfl rfl (h.pick 3 [2]) ⟨(q:Int),(m:Int)⟩).mono ?_
 rintro _ w25 ⟨rfl,e25⟩
 rw [gl]
 have hrow:iw g ss q (m + 1) = iw g ss q m ++ x_ g ss q m:=Bk g ss q m
 have hskip:bQ (aU g ss).length (fR g ss q m) = []→aG ((m:Int) + 1)∧(∃ (m' : Nat) (bs' : List F9) (rs' : List (ak × Lq Int)),(m:Int) + 1 = m'∧m'≤x.pl∧bs.length = bs'.length∧bs'.map Hj = D9 g ss q ++ iw g ss q m'∧(rs'.map Prod.fst).Nodup∧(∀ k:ak,((q:Int) < k.st∨(k.st = q∧(m' : Int)≤k.sym))→cP k rs' = cP k ps)∧St w25 (own 3 o16 bs.length c16 (Cc bs') :: aT (BH bs') :: mapA kb (mV ps) :: aT (mO 1 iv rs') :: all w2))∧x.pl - ((m:Int) + 1).toNat < x.pl - (m:Int).toNat:=fun e=>by
  refine ⟨⟨by omega,by omega⟩,⟨m + 1,bs,rs,by simp,h2,rfl,?_,hrn,fun k hk=>hrs k (hk.elim .inl fun hk=>.inr ⟨hk.1,by have:=hk.2; omega⟩),by rw [e25]; exact h⟩,bA h2⟩
  rw [hrow,hbs]
  unfold x_
  rw [Sz e]; simp
 cases hgq:cP (⟨(q:Int),(m:Int)⟩ : ak) ps with
 | none =>
  have e:bQ (aU g ss).length (fR g ss q m) = []:=by rw [← hgm]; unfold gP; rw [hgq]
  exact ⟨_,_,_,rfl,Dq (by simp) (hskip e)⟩
 | some r =>
  have er:r.2 = bQ (aU g ss).length (fR g ss q m):=by rw [← hgm]; unfold gP; rw [hgq]
  refine ⟨_,_,_,rfl,ae (fun h3=>?_) fun h3=>?_⟩
  rotate_left
  ·refine hskip ?_
   rw [← er]
   exact SV (by have:=Sj h3; omega)
  have h3:0 < r.2.length:=by have:=Si h3; omega
  have hne:bQ (aU g ss).length (fR g ss q m)≠[]:=by rw [← er]; intro e; rw [e] at h3; simp at h3
  have hgr:cP (⟨(q:Int),(m:Int)⟩ : ak) rs = some r:=by rw [hrs _ (.inr ⟨rfl,Int.le_refl _⟩)]; exact hgq
  have h:=h.eq (by rw [e25] : hp w25 = hp w24)
  have h4:=(St.flat.1 (h.pick 4 [3,0,1,2])).perm ((Mt (sz:=1) (f:=iv) hrn hgr).append_right _)
  have h:St w25 (own 1 r.1.1 r.2.length r.1.2 (iv r.2) :: aT (mO 1 iv (rs.filter fun e=>decide (e.1≠(⟨(q:Int),(m:Int)⟩ : ak)))) :: own 3 o16 bs.length c16 (Cc bs) :: aT (BH bs) :: mapA kb (mV ps) :: all w2):=(St.flat.2 (h4.perm Tq.symm)).swap
  clear h4
  refine cV _ _ _ w25 _ (fk (dJ h) ⟨_,_,_,rfl,?_⟩)
  have h:=fj h
  refine ah h fun k34 w27 h=>?_
  have z1:(bs.length + 1) * 40≤140737488355328∧bs.length < 9223372036854775807:=by omega
  refine (aQ (us:=Cc bs) aK (rfl:ag Ty _ = .slice _) (rfl:ag Ty _ = .slice _) rfl rfl rfl (h.pick 6 [0,3,1,2,4,5]) rfl (by simp [aS]) z1.1 z1.2).mono ?_
  rintro _ w28 ⟨o17,c17,rfl,h⟩
  have hnew:Hj (((q:Int),(m:Int)),((fw r.1.1 0 r.2.length 1,r.2.length),r.2)) = ⟨(q:Int),(m:Int),bQ (aU g ss).length (fR g ss q m)⟩:=by unfold Hj; rw [er]
  refine ⟨_,_,_,rfl,⟨by omega,by omega⟩,⟨m + 1,bs ++ [(((q:Int),(m:Int)),((fw r.1.1 0 r.2.length 1,r.2.length),r.2))],rs.filter fun e=>decide (e.1≠(⟨(q:Int),(m:Int)⟩ : ak)),by simp,h2,by simp,?_,(hrn.sublist (List.Sublist.map _ List.filter_sublist)),fun k hk=>?_,?_⟩,bA h2⟩
  ·rw [SU,hbs,hrow]
   unfold x_
   rw [Sr hne]
   simp [hnew]
  ·rw [FQ (s:=(⟨(q:Int),(m:Int)⟩ : ak)) ?_]
   ·exact hrs k (hk.elim .inl fun hk=>.inr ⟨hk.1,by have:=hk.2; omega⟩)
   ·intro e
    subst e
    rcases hk with hk | hk
    ·exact absurd hk (by show ¬(q:Int) < q; omega)
    ·have:=hk.2; simp at this; omega
  ·have h:=St.snoc (h.pick 6 [2,4,0,5,3])
   have h3:St w28 (own 3 o17 (bs.length + 1) c17 (Cc bs ++ [.int .i64 (q:Int),.int .i64 (m:Int),.slice (fw r.1.1 0 r.2.length 1) r.2.length r.2.length]) :: aT (BH bs ++ [own 1 (fw r.1.1 0 r.2.length 1) r.2.length r.2.length (iv r.2)]) :: mapA kb (mV ps) :: aT (mO 1 iv (rs.filter fun e=>decide (e.1≠(⟨(q:Int),(m:Int)⟩ : ak)))) :: all w2):=h.pick 2 [1,0]
   rw [IE,show BH (bs ++ [(((q:Int),(m:Int)),((fw r.1.1 0 r.2.length 1,r.2.length),r.2))]) = BH bs ++ [own 1 (fw r.1.1 0 r.2.length 1) r.2.length r.2.length (iv r.2)] by unfold BH; rw [SU]; rfl]
   exact h3
end Go.Proofs.YtngdohpikfcifaaGreatDoor
namespace Go.V
instance:nI kT:={ n:=3,rd:=fun h x vs=>∃ (a:Option Addr) (c:Nat),vs = [.int .i64 x.st,.int .i64 x.prod,.slice a x.tr.length c]∧aW h x.tr a x.tr.length,mono:=fun s ⟨a,c,e,r⟩=>⟨a,c,e,r.mono s⟩,len:=fun ⟨_,_,e,_⟩=>by rw [e]; rfl }
section
variable {w:World} {L:List aw} {o:Option Addr} {c:Nat}
theorem wR {ds:List (Lq Int)} (h:St w (own 1 o ds.length c (ds.map bF) :: aT (ds.map (bX 1 iv)) :: L)):aW (hp w) (ds.map (·.2)) o ds.length:=by
 have hr:=gB 0 h.l
 refine ⟨by simp,fun i x hi=>?_⟩
 rw [Sn] at hi
 cases hd:ds[i]? with
 | none=>rw [hd] at hi; cases hi
 | some p =>
  rw [hd] at hi
  simp only [Tf,Option.some.injEq] at hi
  subst hi
  have hA:(ds.map (bX 1 iv))[i]? = some (bX 1 iv p):=by rw [Sn,hd]; rfl
  have h2:=St.out (h.pick 2 [1]) hA
  have hle:p.2.length≤p.1.2:=dJ h2
  have rp:aW (hp w) p.2 p.1.1 p.2.length:=b8 rfl (gB 0 h2.l)
  rcases hr with e | ⟨ad,e,hc⟩
  ·rw [List.map_eq_nil_iff] at e; subst e; simp at hd
  ·refine ⟨ad,[bF p],e,fun j v hj=>?_,p.1.1,p.2.length,p.1.2,rfl,hle,rp⟩
   cases j with
   | zero =>
    simp at hj; subst hj
    rw [add_add,aH]
    have:=hc i (bF p) (by rw [Sn,hd]; rfl)
    rw [show i * nI.n (List Int) + 0 = i from by show i * 1 + 0 = i; omega]
    exact this
   | succ j=>simp at hj
theorem jU {h:Hp} {xss:List (List Int)} {i l:Nat} (r:aW h xss o l) (hi:i < l):∃ x ad a c,xss[i]? = some x∧o = some ad∧(∀ u:World,sub h (hp u)→u.cell? (ad.add i) = some (.slice a x.length c))∧aW h x a x.length:=by
 obtain ⟨x,ad,vs,hx,ha,hr,a,l',c',rfl,hle,hx2⟩:=r.get hi
 have hl:=hx2.1
 subst hl
 refine ⟨x,ad,a,c',hx,ha,fun u s=>?_,hx2⟩
 have:=hr.cell0 s
 rwa [aH,show i * nI.n (List Int) = i from Tp i] at this
theorem R0 {ds:List F9} (h:St w (own 3 o ds.length c (Cc ds) :: aT (BH ds) :: L)):aW (hp w) (ds.map Hj) o ds.length:=by
 have hr:=gB 0 h.l
 refine ⟨by simp,fun i x hi=>?_⟩
 rw [Sn] at hi
 cases hd:ds[i]? with
 | none=>rw [hd] at hi; cases hi
 | some p =>
  rw [hd] at hi
  simp only [Tf,Option.some.injEq] at hi
  subst hi
  have hA:(BH ds)[i]? = some (bX 1 iv p.2):=by unfold BH; rw [Sn,hd]; rfl
  have h2:=St.out (h.pick 2 [1]) hA
  have rp:aW (hp w) p.2.2 p.2.1.1 p.2.2.length:=b8 rfl (gB 0 h2.l)
  rcases hr with e | ⟨ad,e,hc⟩
  ·have h1:=congrArg List.length e
   rw [ID,T6] at h1
   have:=(Sk.1 hd).1; omega
  ·exact ⟨ad,Re p,e,dr (n:=3) (fun _=>rfl) ds ad hc i p hd,p.2.1.1,p.2.1.2,rfl,rp⟩
theorem Mu {h:Hp} {xs:List kT} {l i:Nat} (r:aW h xs o l) (hi:i < l):∃ x ad a c,xs[i]? = some x∧o = some ad∧ax h (ad.add (dP i 3)) [.int .i64 x.st,.int .i64 x.prod,.slice a x.tr.length c]∧aW h x.tr a x.tr.length:=by
 obtain ⟨x,ad,vs,hx,ha,hr,a,c',rfl,hx2⟩:=r.get hi
 exact ⟨x,ad,a,c',hx,ha,hr,hx2⟩
end
section
variable {g:af} {nn:List Bool} {ss ss' : List SQ}
theorem Mv (h:bf ss = bf ss') (i k:Nat):cY g nn ss i k = cY g nn ss' i k:=by
 unfold cY
 rw [nW h]
 have e:∀ i s,eE ss i s = eE ss' i s:=fun i s=>G7 h i s
 simp only [e]
theorem Ov (h:bf ss = bf ss') (i k:Nat):Bj g nn ss i k = Bj g nn ss' i k:=by
 unfold Bj
 rw [nW h]
 have e:∀ q l,bM ss q l = bM ss' q l:=fun q l=>DX h l q
 simp only [e]
theorem Mw (h:bf ss = bf ss') (q m i:Nat):fR g ss q m i = fR g ss' q m i:=by
 unfold fR
 rw [nW h]
 have e:∀ q l,bM ss q l = bM ss' q l:=fun q l=>DX h l q
 simp only [e]
theorem IF (h:bf ss = bf ss'):ry g nn ss = ry g nn ss':=by
 unfold ry
 rw [nW h]
 refine TJ fun i _=>?_
 rw [show cY g nn ss i = cY g nn ss' i from funext fun k=>Mv h i k]
theorem IG (h:bf ss = bf ss'):tA g nn ss = tA g nn ss':=by
 unfold tA
 rw [nW h]
 refine TJ fun i _=>?_
 rw [show Bj g nn ss i = Bj g nn ss' i from funext fun k=>Ov h i k]
theorem Ow (h:bf ss = bf ss') (q m:Nat):x_ g ss q m = x_ g ss' q m:=by
 unfold x_
 rw [nW h,show fR g ss q m = fR g ss' q m from funext fun k=>Mw h q m k]
theorem IH (h:bf ss = bf ss'):nY g ss = nY g ss':=by
 unfold nY
 rw [L7 h]
 have e:∀ q j,iw g ss q j = iw g ss' q j:=fun q j=>by unfold iw; rw [show x_ g ss q = x_ g ss' q from funext fun m=>Ow h q m]
 simp only [e]
end
def tI:af:=⟨[⟨⟨⟨[]⟩⟩,0⟩,⟨⟨⟨[120]⟩⟩,0⟩,⟨⟨⟨[121]⟩⟩,0⟩],[⟨⟨[]⟩⟩,⟨⟨[115]⟩⟩,⟨⟨[97]⟩⟩,⟨⟨[98]⟩⟩],[],4,[⟨3,[4],0⟩,⟨4,[5,4,6],0⟩,⟨4,[1],0⟩,⟨5,[],0⟩,⟨6,[],0⟩,⟨6,[2],0⟩]⟩
theorem J5:av tI:=by
 refine ⟨rfl,⟨rfl,by decide,by decide,by decide,by decide,?_,?_,?_,?_,?_⟩,⟨by decide,by decide,?_,by decide,by decide,by decide⟩,⟨3,[4],0⟩,rfl,rfl,rfl,rfl⟩
 ·decide
 ·intro i v h; simp [tI] at h
 ·decide
 ·decide
 ·decide
 ·intro p hp
  simp only [List.drop_succ_cons,List.drop_zero,tI,SA,List.not_mem_nil,or_false] at hp
  unfold lC eC
  rcases hp with rfl | rfl | rfl | rfl | rfl
  ·refine ⟨by decide,?_⟩
   intro s hs; simp at hs
   rcases hs with rfl | rfl | rfl <;> decide
  ·refine ⟨by decide,?_⟩
   intro s hs; simp at hs; subst hs; decide
  ·exact ⟨by decide,by simp⟩
  ·exact ⟨by decide,by simp⟩
  ·refine ⟨by decide,?_⟩
   intro s hs; simp at hs; subst hs; decide
theorem Mx:iM tI:=by
 refine ⟨by decide,by decide,by decide,by decide,?_,by decide,by decide⟩
 intro t ht
 simp only [tI,SA,List.not_mem_nil,or_false] at ht
 unfold anyI
 rcases ht with rfl | rfl | rfl <;> decide
theorem My:(ct tI 7).1.length = 7∧∀ i,i < 7→i < (ct tI i).1.length:=by decide +kernel
theorem II:E9 tI 7:=⟨My.1,by decide,My.2⟩
def Mz:List SQ:=(ct tI 7).2.map fun es=>(((none,0),[]),((none,0),es))
def O5:List Bool:=[false,false,true,true]
theorem Hm:pM tI O5:=by
 refine ⟨rfl,fun i=>?_⟩
 have key:∀ s,uP tI s→s = 5∨s = 6:=fun s h=>by
  induction h with
  | mk p hp _ ih =>
   simp only [tI,SA,List.not_mem_nil,or_false] at hp
   rcases hp with rfl | rfl | rfl | rfl | rfl | rfl
   ·have:=ih 4 (by simp); omega
   ·have:=ih 4 (by simp); omega
   ·have:=ih 1 (by simp); omega
   ·exact .inl rfl
   ·exact .inr rfl
   ·exact .inr rfl
 have n5:uP tI 5:=uP.mk ⟨5,[],0⟩ (by simp [tI]) (by simp)
 have n6:uP tI 6:=uP.mk ⟨6,[],0⟩ (by simp [tI]) (by simp)
 have hT:tI.T = 3:=rfl
 rw [hT]
 match i with
 | 0=>exact ⟨fun h=>(by cases h),fun h=>(by have:=key _ h; omega)⟩
 | 1=>exact ⟨fun h=>(by cases h),fun h=>(by have:=key _ h; omega)⟩
 | 2=>exact ⟨fun _=>n5,fun _=>rfl⟩
 | 3=>exact ⟨fun _=>n6,fun _=>rfl⟩
 | i + 4=>exact ⟨fun h=>(by simp [bn,O5] at h),fun h=>(by have:=key _ h; omega)⟩
theorem Hn {ss:List SQ} {a i f:Int} (h:vf tI ss a i f):f = 0∧bf ss = bf Mz:=by
 rcases h with ⟨hn,_⟩ | ⟨_,hbig,_⟩ | ⟨_,hA,_,_,rfl⟩
 ·exact absurd J5 hn
 ·exact (A0 II hbig).elim
 ·refine ⟨rfl,?_⟩
  rw [hA.es,E_ hA.dn II]
  unfold Mz bf
  rw [List.map_map]
  simp [Function.comp_def]
end Go.V
namespace Go.V.bw
inductive Rc (E:Nat→List Nat):Nat→Nat→Prop
 | refl (a:Nat):Rc E a a
 | step {a b c:Nat}:b∈E a→Rc E b c→Rc E a c
theorem Rc.trans {E:Nat→List Nat} {a b c:Nat} (h:Rc E a b):Rc E b c→Rc E a c:=by
 induction h with
 | refl=>exact id
 | step h _ ih=>exact fun k=>.step h (ih k)
theorem Rc.one {E:Nat→List Nat} {a b:Nat} (h:b∈E a):Rc E a b:=.step h (.refl b)
def Good (E:Nat→List Nat) (gs:List (List Nat)):Prop :=
 gs.flatten.Nodup∧∀ g1 g g2,gs = g1 ++ g :: g2→g≠[]∧(∀ a∈g,∀ b∈g,Rc E a b)∧∀ a∈g,∀ b∈E a,b∈g∨b∈g1.flatten
theorem Good.nil (E:Nat→List Nat):Good E []:=⟨by simp,fun g1 g g2 h=>by simp at h⟩
theorem Good.snoc {E:Nat→List Nat} {gs:List (List Nat)} {g:List Nat} (h:Good E gs) (hn:g≠[]) (hd:g.Nodup) (hx:∀ a∈g,a∉gs.flatten)
  (hr:∀ a∈g,∀ b∈g,Rc E a b) (he:∀ a∈g,∀ b∈E a,b∈g∨b∈gs.flatten):Good E (gs ++ [g]):=by
 refine ⟨?_,?_⟩
 ·rw [TZ,SX]
  refine ⟨h.1,by simpa using hd,?_⟩
  intro a ha b hb e
  subst e
  exact hx a (by simpa using hb) ha
 ·intro g1 g' g2 e
  rcases List.eq_nil_or_concat g2 with rfl | ⟨g3,x,rfl⟩
  ·obtain ⟨rfl,e2⟩:=List.append_inj' e rfl
   simp only [List.cons.injEq,and_true] at e2
   subst e2
   exact ⟨hn,hr,he⟩
  ·rw [List.concat_eq_append,← List.cons_append,← SI] at e
   obtain ⟨e1,e2⟩:=List.append_inj' e rfl
   exact h.2 g1 g' g3 e1
theorem Good.to {E:Nat→List Nat} {gs:List (List Nat)} (h:Good E gs) {a b:Nat} (hw:Rc E a b) :
  ∀ g1 g g2,gs = g1 ++ g :: g2→a∈g→b∈(g1 ++ [g]).flatten:=by
 induction hw with
 | refl a=>intro g1 g g2 _ ha; simp [ha]
 | @step a b c hb hc ih =>
  intro g1 g g2 e ha
  rcases (h.2 g1 g g2 e).2.2 a ha b hb with hb | hb
  ·exact ih g1 g g2 e hb
  ·obtain ⟨x,hx,hbx⟩:=List.mem_flatten.1 hb
   obtain ⟨y1,y2,rfl⟩:=TQ hx
   have:=ih y1 x (y2 ++ g :: g2) (by rw [e]; simp) hbx
   simp only [TZ,T8,List.flatten_nil,S6,Sp] at this ⊢
   rcases this with h | h
   ·exact Or.inl (Or.inl h)
   ·exact Or.inl (Or.inr (Or.inl h))
theorem yS {gs:List (List Nat)} (h:gs.flatten.Nodup) {g1 g2:List (List Nat)} {g:List Nat} (e:gs = g1 ++ g :: g2) {a:Nat} (ha:a∈g):a∉g1.flatten∧a∉g2.flatten:=by
 subst e
 rw [TZ,T8,SX,SX] at h
 refine ⟨fun h1=>h.2.2 a h1 a (by simp [ha]) rfl,fun h1=>h.2.1.2.2 a ha a h1 rfl⟩
theorem Good.same {E:Nat→List Nat} {gs:List (List Nat)} (h:Good E gs) {g:List Nat} (hg:g∈gs) {a b:Nat} (ha:a∈g) (hab:Rc E a b) (hba:Rc E b a) (hb:b∈gs.flatten):b∈g:=by
 obtain ⟨g1,g2,e⟩:=TQ hg
 have h1:=h.to hab g1 g g2 e ha
 simp only [TZ,T8,List.flatten_nil,S6,Sp] at h1
 rcases h1 with h1 | h1
 ·obtain ⟨x,hx,hbx⟩:=List.mem_flatten.1 h1
  obtain ⟨y1,y2,rfl⟩:=TQ hx
  have h2:=h.to hba y1 x (y2 ++ g :: g2) (by rw [e]; simp) hbx
  have:=(yS h.1 e ha).1
  simp only [TZ,T8,List.flatten_nil,S6,Sp] at h2 this
  rcases h2 with h2 | h2
  ·exact absurd (Or.inl h2) this
  ·exact absurd (Or.inr (Or.inl h2)) this
 ·exact h1
abbrev Sc:=Nat × Nat × List Nat
def aA:List Sc→List Nat
 | []=>[]
 | (n,_,r) :: t=>aA t ++ n :: r
structure Sg (E:Nat→List Nat) (low:Nat→Nat) (op:List Nat) (D:Nat→Prop) (b n k:Nat) (r:List Nat):Prop where
 le:k≤(E n).length
 top:low n≤b + 1
 lo:∀ v∈r,low n≤low v
 pos:∀ v∈n :: r,0 < low v
 at_:∀ v∈r,∀ i,op[i]? = some v→low v≤i
 rc:∀ v∈r,Rc E n v
 to:∀ v∈n :: r,∃ u,op[low v - 1]? = some u∧Rc E v u
 ed:∀ v∈r,∀ m∈E v,D m∨∃ i,op[i]? = some m∧low n≤i + 1
 en:∀ j m,j < k→(E n)[j]? = some m→D m∨∃ i,op[i]? = some m∧low n≤i + 1
def OK (E:Nat→List Nat) (low:Nat→Nat) (op:List Nat) (D:Nat→Prop):List Sc→Prop
 | []=>True
 | (n,k,r) :: t=>Sg E low op D (aA t).length n k r∧(∀ u k' r' t',t = (u,k',r') :: t'→Rc E u n)∧OK E low op D t
theorem bJ {t:List Sc} {n k:Nat} {r:List Nat}:(aA ((n,k,r) :: t)).length = (aA t).length + 1 + r.length:=by simp [aA]; omega
theorem OK.mono {E:Nat→List Nat} {low low' : Nat→Nat} {op op' : List Nat} {D D' : Nat→Prop}:∀ (t:List Sc),OK E low op D t →
  (∀ v∈aA t,low' v = low v)→(∀ i v:Nat,op[i]? = some v→op'[i]? = some v∨D' v)→(∀ i v:Nat,op'[i]? = some v→v∈aA t→op[i]? = some v)→(∀ i:Nat,i < (aA t).length→op'[i]? = op[i]?)→op.Nodup→(∀ v:Nat,D v→D' v) →
  (∀ i:Nat,i < (aA t).length→op[i]? = (aA t)[i]?)→OK E low' op' D' t
 | [],_,_,_,_,_,_,_,_=>trivial
 | (n,k,r) :: t,⟨s,hu,ht⟩,hl,ho,hb,hi,nd,hD,hp=>by
  have hn:low' n = low n:=hl n (by simp [aA])
  have hr:∀ v∈r,low' v = low v:=fun v hv=>hl v (by simp [aA,hv])
  have hnr:∀ v∈n :: r,low' v = low v:=fun v hv=>hl v (by simp only [aA,Sp]; exact Or.inr hv)
  refine ⟨⟨s.le,by rw [hn]; exact s.top,fun v hv=>by rw [hn,hr v hv]; exact s.lo v hv,fun v hv=>by rw [hnr v hv]; exact s.pos v hv,?_,s.rc,?_,?_,?_⟩,hu,?_⟩
  ·intro v hv i h
   rw [hr v hv]
   exact s.at_ v hv i (hb i v h (by simp [aA,hv]))
  ·intro v hv
   obtain ⟨u,h1,h2⟩:=s.to v hv
   refine ⟨u,?_,h2⟩
   rw [hnr v hv,hi _ ?_,h1]
   rw [bJ]
   have hp':=s.pos v hv
   rcases SA.1 hv with rfl | hv
   ·have:=s.top; omega
   ·have hv2:v∈aA ((n,k,r) :: t):=by simp [aA,hv]
    obtain ⟨i,hi1,hi2⟩:=List.getElem_of_mem hv2
    have:=s.at_ v hv i (by rw [hp i hi1,Sm hi1,hi2])
    rw [bJ] at hi1
    omega
  ·intro v hv m hm
   rcases s.ed v hv m hm with h | ⟨i,h1,h2⟩
   ·exact Or.inl (hD m h)
   ·rcases ho i m h1 with h | h
    ·exact Or.inr ⟨i,h,by rw [hn]; exact h2⟩
    ·exact Or.inl h
  ·intro j m hj hm
   rcases s.en j m hj hm with h | ⟨i,h1,h2⟩
   ·exact Or.inl (hD m h)
   ·rcases ho i m h1 with h | h
    ·exact Or.inr ⟨i,h,by rw [hn]; exact h2⟩
    ·exact Or.inl h
  ·refine OK.mono t ht (fun v hv=>hl v (by simp [aA,hv])) ho (fun i v h hv=>hb i v h (by simp [aA,hv])) (fun i h=>hi i (by rw [bJ]; omega)) nd hD ?_
   intro i h
   rw [hp i (by rw [bJ]; omega)]
   simp only [aA]
   rw [Sw h]
end Go.V.bw
namespace Go.V.bw
def zD (f:Nat→Nat) (i x:Nat):Nat→Nat:=fun j=>if j = i then x else f j
theorem aY (f:Nat→Nat) (i x:Nat):zD f i x i = x:=by simp [zD]
theorem cM {f:Nat→Nat} {i x j:Nat} (h:j≠i):zD f i x j = f j:=by simp [zD,h]
structure Inv (E:Nat→List Nat) (N:Nat) (low:Nat→Nat) (S:List Sc) (gs:List (List Nat)):Prop where
 ok:OK E low (aA S) (·∈gs.flatten) S
 nd:(aA S ++ gs.flatten).Nodup
 lt:∀ v∈aA S ++ gs.flatten,v < N
 un:∀ v,v < N→(low v = 0↔v∉aA S ++ gs.flatten)
 dn:∀ v∈gs.flatten,low v = N + 1
 good:Good E gs
theorem yh:∀ (l m:List Nat),l.Nodup→(∀ v∈l,v∈m)→l.length≤m.length
 | [],_,_,_=>Sv _
 | a :: l,m,h,hs=>by
  have ha:=hs a (by simp)
  rw [Te] at h
  have:=yh l (m.erase a) h.2 (fun v hv=>(List.mem_erase_of_ne (fun e:v = a=>h.1 (e ▸ hv))).2 (hs v (by simp [hv])))
  rw [List.length_erase_of_mem ha] at this
  have:=List.length_pos_of_mem ha
  simp only [S4]; omega
theorem MA {l:List Nat} {N:Nat} (h1:l.Nodup) (h2:∀ v∈l,v < N):l.length≤N:=by
 have:=yh l (List.range N) h1 (fun v hv=>SO.2 (h2 v hv))
 simpa using this
variable {E:Nat→List Nat} {N:Nat} {low:Nat→Nat} {S t:List Sc} {gs:List (List Nat)} {D:Nat→Prop} {op:List Nat}
theorem FR {l:List Nat} (h:l.Nodup) {i j:Nat} {v:Nat} (h1:l[i]? = some v) (h2:l[j]? = some v):i = j:=by
 obtain ⟨a,h1⟩:=Sk.1 h1
 obtain ⟨b,h2⟩:=Sk.1 h2
 exact (List.getElem_inj h).1 (h1.trans h2.symm)
theorem OK.to:∀ (S:List Sc),OK E low op D S→∀ v∈aA S,0 < low v∧∃ u,op[low v - 1]? = some u∧Rc E v u
 | [],_,v,hv=>by simp [aA] at hv
 | (n,k,r) :: t,⟨s,_,h⟩,v,hv=>by
  simp only [aA,Sp] at hv
  rcases hv with hv | hv
  ·exact OK.to t h v hv
  ·exact ⟨s.pos v hv,s.to v hv⟩
theorem OK.O6:∀ (S:List Sc),OK E low op D S→op.Nodup→(∀ i:Nat,i < (aA S).length→op[i]? = (aA S)[i]?)→∀ v∈aA S,∀ i:Nat,op[i]? = some v→low v≤i + 1
 | [],_,_,_,v,hv=>by simp [aA] at hv
 | (n,k,r) :: t,⟨s,_,h⟩,nd,hp,v,hv=>by
  intro i hi
  simp only [aA,Sp] at hv
  rcases hv with hv | hv
  ·refine OK.O6 t h nd (fun j hj=>?_) v hv i hi
   rw [hp j (by rw [bJ]; omega)]
   simp only [aA]
   rw [Sw hj]
  ·rcases SA.1 hv with rfl | hv
   ·have h1:op[(aA t).length]? = some v:=by
     rw [hp _ (by rw [bJ]; omega)]
     simp [aA]
    have:=FR nd hi h1
    have:=s.top
    omega
   ·have:=s.at_ v hv i hi
    omega
theorem Inv.P_ (h:Inv E N low S gs):(aA S).Nodup:=(SX.1 h.nd).1
theorem Inv.len (h:Inv E N low S gs):(aA S).length≤N:=MA h.P_ fun v hv=>h.lt v (by simp [hv])
theorem Inv.seen (h:Inv E N low S gs) {v:Nat} (hv:v < N) (hl:low v≠0):v∈aA S∨v∈gs.flatten:=by
 have:=mt (h.un v hv).2 hl
 simp only [Sp] at this
 exact Tl fun e=>this e
theorem Inv.root (h:Inv E N low [] gs) {m:Nat} (hm:m < N) (h0:low m = 0):Inv E N (zD low m 1) [(m,0,[])] gs:=by
 have hx:=(h.un m hm).1 h0
 simp only [aA,To] at hx
 have hne:∀ v,v∈gs.flatten→v≠m:=fun v hv e=>hx (e ▸ hv)
 refine ⟨⟨⟨by simp,by simp [aA,aY],by simp,?_,by simp,by simp,?_,by simp,by simp⟩,by simp,trivial⟩,?_,?_,?_,?_,h.good⟩
 ·intro v hv
  simp only [SE] at hv
  rw [hv,aY]; omega
 ·intro v hv
  simp only [SE] at hv
  subst hv
  exact ⟨v,by simp [aY,aA],.refl v⟩
 ·have:=h.nd
  simp only [aA,To,List.singleton_append,Te] at this ⊢
  exact ⟨hx,this⟩
 ·intro v hv
  simp only [aA,To,List.singleton_append,SA] at hv
  rcases hv with rfl | hv
  ·exact hm
  ·exact h.lt v (by simpa [aA] using hv)
 ·intro v hv
  simp only [aA,To,List.singleton_append,SA]
  by_cases e:v = m
  ·subst e; simp [aY]
  ·rw [cM e,h.un v hv]; simp [aA,e]
 ·intro v hv
  rw [cM (hne v hv)]
  exact h.dn v hv
theorem Inv.push {n k m:Nat} {r:List Nat} (h:Inv E N low ((n,k,r) :: t) gs) (hk:(E n)[k]? = some m) (hm:m < N) (h0:low m = 0) :
  Inv E N (zD low m ((aA ((n,k,r) :: t)).length + 1)) ((m,0,[]) :: (n,k + 1,r) :: t) gs:=by
 have hx:=(h.un m hm).1 h0
 have hxo:m∉aA ((n,k,r) :: t):=fun e=>hx (by simp only [Sp]; exact Or.inl e)
 have hxg:m∉gs.flatten:=fun e=>hx (by simp only [Sp]; exact Or.inr e)
 have ho:aA ((m,0,[]) :: (n,k + 1,r) :: t) = aA ((n,k,r) :: t) ++ [m]:=rfl
 have hmono:=OK.mono (low':=zD low m ((aA ((n,k,r) :: t)).length + 1)) (op':=aA ((n,k,r) :: t) ++ [m]) (D':=(·∈gs.flatten)) _ h.ok
  (fun v hv=>cM fun e=>hxo (e ▸ hv))
  (fun i v hi=>Or.inl (by rw [Sw (by obtain ⟨a,_⟩:=Sk.1 hi; exact a)]; exact hi))
  (fun i v hi hv=>by
   by_cases hl:i < (aA ((n,k,r) :: t)).length
   ·rwa [Sw hl] at hi
   ·rw [SC (by omega)] at hi
    have hi:=Sl hi
    simp only [SE] at hi
    exact absurd (hi ▸ hv) hxo)
  (fun i hi=>Sw hi) h.P_ (fun _ h=>h) (fun _ _=>rfl)
 obtain ⟨s,hu,ht⟩:=hmono
 have hle:k < (E n).length:=(Sk.1 hk).1
 refine ⟨⟨⟨by simp,?_,by simp,?_,by simp,by simp,?_,by simp,by simp⟩,?_,⟨⟨hle,s.top,s.lo,s.pos,s.at_,s.rc,s.to,s.ed,?_⟩,hu,ht⟩⟩,?_,?_,?_,?_,h.good⟩
 ·rw [aY]; exact SF _
 ·intro v hv
  simp only [SE] at hv
  rw [hv,aY]; omega
 ·intro v hv
  simp only [SE] at hv
  subst hv
  refine ⟨v,?_,.refl v⟩
  rw [aY,ho]
  simp
 ·intro u k' r' t' e
  cases e
  exact Rc.one (Sl hk)
 ·intro j v hj hv
  by_cases e:j = k
  ·subst e
   rw [hk] at hv
   cases hv
   refine Or.inr ⟨(aA ((n,j,r) :: t)).length,by rw [ho,SC (SF _)]; simp,?_⟩
   have h1:=s.top
   have h2:(aA ((n,j,r) :: t)).length = (aA t).length + 1 + r.length:=bJ
   omega
  ·exact s.en j v (by omega) hv
 ·rw [ho]
  have:=h.nd
  rw [SI,SX] at *
  refine ⟨this.1,?_,?_⟩
  ·simp only [List.singleton_append,Te]
   exact ⟨hxg,this.2.1⟩
  ·intro a ha b hb e
   simp only [List.singleton_append,SA] at hb
   rcases hb with rfl | hb
   ·exact hxo (e ▸ ha)
   ·exact this.2.2 a ha b hb e
 ·intro v hv
  rw [ho] at hv
  simp only [Sp,SE] at hv
  rcases hv with (hv | rfl) | hv
  ·exact h.lt v (by simp only [Sp]; exact Or.inl hv)
  ·exact hm
  ·exact h.lt v (by simp only [Sp]; exact Or.inr hv)
 ·intro v hv
  rw [ho]
  by_cases e:v = m
  ·subst e; simp [aY]
  ·rw [cM e,h.un v hv]; simp [e]
 ·intro v hv
  have e:v≠m:=fun e=>hxg (e ▸ hv)
  rw [cM e]
  exact h.dn v hv
theorem Inv.Qa {n k:Nat} {r:List Nat} (h:Inv E N low ((n,k,r) :: t) gs):n∉aA t∧n∉r∧n∉gs.flatten∧(∀ v∈r,v∉aA t):=by
 have:=h.nd
 simp only [aA,SX,Te,Sp,SA] at this
 obtain ⟨⟨h1,h2,h3⟩,h4,h5⟩:=this
 exact ⟨fun e=>h3 n e n (Or.inl rfl) rfl,h2.1,fun e=>h5 n (Or.inr (Or.inl rfl)) n e rfl,fun v hv e=>h3 v e v (Or.inr hv) rfl⟩
theorem Inv.look {n k m:Nat} {r:List Nat} (h:Inv E N low ((n,k,r) :: t) gs) (hk:(E n)[k]? = some m) (hm:m < N) (h0:low m≠0) :
  Inv E N (zD low n (min (low n) (low m))) ((n,k + 1,r) :: t) gs:=by
 obtain ⟨x1,x2,x3,x4⟩:=h.Qa
 obtain ⟨s,hu,ht⟩:=h.ok
 have hle:k < (E n).length:=(Sk.1 hk).1
 have hr:∀ v∈r,v≠n:=fun v hv e=>x2 (e ▸ hv)
 have hlen:=h.len
 rw [bJ] at hlen
 have htop:=s.top
 have hpn:=s.pos n (by simp)
 have hmin:zD low n (min (low n) (low m)) n≤low n:=by rw [aY]; omega
 have hdone:m∈gs.flatten→min (low n) (low m) = low n:=fun e=>by rw [h.dn m e]; omega
 have hmono:=OK.mono (low':=zD low n (min (low n) (low m))) (op':=aA ((n,k,r) :: t)) (D':=(·∈gs.flatten)) _ ht
  (fun v hv=>cM fun e=>x1 (e ▸ hv)) (fun i v hi=>Or.inl hi) (fun i v hi _=>hi) (fun i hi=>rfl) h.P_ (fun _ h=>h)
  (fun i hi=>by simp only [aA]; rw [Sw hi])
 refine ⟨⟨⟨hle,by omega,?_,?_,?_,s.rc,?_,?_,?_⟩,hu,hmono⟩,h.nd,h.lt,?_,?_,h.good⟩
 ·intro v hv
  rw [cM (hr v hv)]
  exact SK hmin (s.lo v hv)
 ·intro v hv
  by_cases e:v = n
  ·subst e; rw [aY]; omega
  ·rw [cM e]; exact s.pos v hv
 ·intro v hv
  rw [cM (hr v hv)]
  exact s.at_ v hv
 ·intro v hv
  by_cases e:v = n
  ·subst e
   rw [aY]
   by_cases hc:low v≤low m
   ·rw [TW hc]; exact s.to v (by simp)
   ·rw [Nat.min_eq_right (by omega)]
    rcases h.seen hm h0 with hs | hs
    ·obtain ⟨_,u,h1,h2⟩:=OK.to _ h.ok m hs
     exact ⟨u,h1,.step (Sl hk) h2⟩
    ·have:=hdone hs; omega
  ·rw [cM e]; exact s.to v hv
 ·intro v hv x hx
  rcases s.ed v hv x hx with h1 | ⟨i,h1,h2⟩
  ·exact Or.inl h1
  ·exact Or.inr ⟨i,h1,SK hmin h2⟩
 ·intro j x hj hx
  by_cases e:j = k
  ·subst e
   rw [hk] at hx; cases hx
   rcases h.seen hm h0 with hs | hs
   ·obtain ⟨i,hi1,hi2⟩:=List.getElem_of_mem hs
    have hi3:(aA ((n,j,r) :: t))[i]? = some m:=by rw [Sm hi1,hi2]
    refine Or.inr ⟨i,hi3,?_⟩
    have:=OK.O6 _ h.ok h.P_ (fun _ _=>rfl) m hs i hi3
    rw [aY]; omega
   ·exact Or.inl hs
  ·rcases s.en j x (by omega) hx with h1 | ⟨i,h1,h2⟩
   ·exact Or.inl h1
   ·exact Or.inr ⟨i,h1,SK hmin h2⟩
 ·intro v hv
  by_cases e:v = n
  ·subst e
   rw [aY]
   have h1:v∈aA ((v,k + 1,r) :: t) ++ gs.flatten:=by simp [aA]
   constructor
   ·intro h2; omega
   ·intro h2; exact absurd h1 h2
  ·rw [cM e]; exact h.un v hv
 ·intro v hv
  have e:v≠n:=fun e=>x3 (e ▸ hv)
  rw [cM e]
  exact h.dn v hv
theorem Inv.merge {n k u ku:Nat} {r ru:List Nat} (h:Inv E N low ((n,k,r) :: (u,ku,ru) :: t) gs) (hk:k = (E n).length) (hne:low n≠(aA ((u,ku,ru) :: t)).length + 1) :
  Inv E N (zD low u (min (low u) (low n))) ((u,ku,ru ++ n :: r) :: t) gs:=by
 obtain ⟨x1,x2,x3,x4⟩:=h.Qa
 obtain ⟨s,hu,s2,hu2,ht⟩:=h.ok
 have ho:aA ((u,ku,ru ++ n :: r) :: t) = aA ((n,k,r) :: (u,ku,ru) :: t):=by simp [aA]
 have hru:u∉aA t∧u∉ru∧u≠n∧u∉r∧u∉gs.flatten:=by
  have:=h.nd
  simp only [aA,SX,Te,Sp,SA] at this
  obtain ⟨⟨⟨h1,h2,h3⟩,h4,h5⟩,h6,h7⟩:=this
  exact ⟨fun e=>h3 u e u (Or.inl rfl) rfl,h2.1,h5 u (Or.inr (Or.inl rfl)) n (Or.inl rfl),fun e=>h5 u (Or.inr (Or.inl rfl)) u (Or.inr e) rfl,fun e=>h7 u (Or.inl (Or.inr (Or.inl rfl))) u e rfl⟩
 obtain ⟨y1,y2,y3,y4,y5⟩:=hru
 have hmin:zD low u (min (low u) (low n)) u≤low u:=by rw [aY]; omega
 have hmin2:zD low u (min (low u) (low n)) u≤low n:=by rw [aY]; omega
 have hlow:∀ v,v≠u→zD low u (min (low u) (low n)) v = low v:=fun v e=>cM e
 have hn:zD low u (min (low u) (low n)) n = low n:=hlow n (TM y3)
 have hr:∀ v∈r,zD low u (min (low u) (low n)) v = low v:=fun v hv=>hlow v fun e=>y4 (e ▸ hv)
 have hru:∀ v∈ru,zD low u (min (low u) (low n)) v = low v:=fun v hv=>hlow v fun e=>y2 (e ▸ hv)
 have hpn:=s.pos n (by simp)
 have hpu:=s2.pos u (by simp)
 have hmono:=OK.mono (low':=zD low u (min (low u) (low n))) (op':=aA ((n,k,r) :: (u,ku,ru) :: t)) (D':=(·∈gs.flatten)) _ ht
  (fun v hv=>cM fun e=>y1 (e ▸ hv)) (fun i v hi=>Or.inl hi) (fun i v hi _=>hi) (fun i hi=>rfl) h.P_ (fun _ h=>h)
  (fun i hi=>by simp only [aA]; rw [SI,Sw hi])
 have hposn:(aA ((n,k,r) :: (u,ku,ru) :: t))[(aA ((u,ku,ru) :: t)).length]? = some n:=by simp only [aA]; simp
 refine ⟨?_,by rw [ho]; exact h.nd,by rw [ho]; exact h.lt,?_,?_,h.good⟩
 ·rw [ho]
  refine ⟨⟨s2.le,SK hmin s2.top,?_,?_,?_,?_,?_,?_,?_⟩,hu2,hmono⟩
  ·intro v hv
   simp only [Sp,SA] at hv
   rcases hv with hv | rfl | hv
   ·rw [hru v hv]; exact SK hmin (s2.lo v hv)
   ·rw [hn]; exact hmin2
   ·rw [hr v hv]; exact SK hmin2 (s.lo v hv)
  ·intro v hv
   by_cases e:v = u
   ·subst e; rw [aY]; omega
   ·rw [hlow v e]
    simp only [Sp,SA] at hv
    rcases hv with hv | hv | rfl | hv
    ·exact absurd hv e
    ·exact s2.pos v (by simp [hv])
    ·exact hpn
    ·exact s.pos v (by simp [hv])
  ·intro v hv i hi
   simp only [Sp,SA] at hv
   rcases hv with hv | rfl | hv
   ·rw [hru v hv]; exact s2.at_ v hv i hi
   ·rw [hn]
    have:=FR h.P_ hi hposn
    have:=s.top
    omega
   ·rw [hr v hv]; exact s.at_ v hv i hi
  ·intro v hv
   have h1:=hu u ku ru t rfl
   simp only [Sp,SA] at hv
   rcases hv with hv | rfl | hv
   ·exact s2.rc v hv
   ·exact h1
   ·exact h1.trans (s.rc v hv)
  ·intro v hv
   by_cases e:v = u
   ·subst e
    rw [aY]
    by_cases hc:low v≤low n
    ·rw [TW hc]; exact s2.to v (by simp)
    ·rw [Nat.min_eq_right (by omega)]
     obtain ⟨x,h1,h2⟩:=s.to n (by simp)
     exact ⟨x,h1,(hu v ku ru t rfl).trans h2⟩
   ·rw [hlow v e]
    simp only [Sp,SA] at hv
    rcases hv with hv | hv | rfl | hv
    ·exact absurd hv e
    ·exact s2.to v (by simp [hv])
    ·exact s.to v (by simp)
    ·exact s.to v (by simp [hv])
  ·intro v hv x hx
   simp only [Sp,SA] at hv
   rcases hv with hv | rfl | hv
   ·rcases s2.ed v hv x hx with h1 | ⟨i,h1,h2⟩
    ·exact Or.inl h1
    ·exact Or.inr ⟨i,h1,SK hmin h2⟩
   ·obtain ⟨j,hj1,hj2⟩:=List.getElem_of_mem hx
    rcases s.en j x (by omega) (by rw [Sm hj1,hj2]) with h1 | ⟨i,h1,h2⟩
    ·exact Or.inl h1
    ·exact Or.inr ⟨i,h1,SK hmin2 h2⟩
   ·rcases s.ed v hv x hx with h1 | ⟨i,h1,h2⟩
    ·exact Or.inl h1
    ·exact Or.inr ⟨i,h1,SK hmin2 h2⟩
  ·intro j x hj hx
   rcases s2.en j x hj hx with h1 | ⟨i,h1,h2⟩
   ·exact Or.inl h1
   ·exact Or.inr ⟨i,h1,SK hmin h2⟩
 ·intro v hv
  rw [ho]
  by_cases e:v = u
  ·subst e
   rw [aY]
   have h1:v∈aA ((n,k,r) :: (v,ku,ru) :: t) ++ gs.flatten:=by simp [aA]
   constructor
   ·intro h2; omega
   ·intro h2; exact absurd h1 h2
  ·rw [hlow v e]; exact h.un v hv
 ·intro v hv
  rw [hlow v fun e=>y5 (e ▸ hv)]
  exact h.dn v hv
end Go.V.bw
namespace Go.V.bw
variable {E:Nat→List Nat} {N:Nat} {low:Nat→Nat} {S t:List Sc} {gs:List (List Nat)}
theorem Inv.R1 {n k u ku:Nat} {r ru:List Nat} (h:Inv E N low ((n,k,r) :: (u,ku,ru) :: t) gs) (hl:low n = (aA ((u,ku,ru) :: t)).length + 1):min (low u) (low n) = low u:=by
 obtain ⟨s,hu,s2,hu2,ht⟩:=h.ok
 have:=s2.top
 rw [bJ] at hl
 omega
theorem Inv.pop {n k:Nat} {r:List Nat} (h:Inv E N low ((n,k,r) :: t) gs) (hk:k = (E n).length) (hl:low n = (aA t).length + 1) :
  Inv E N (fun v=>if v∈n :: r then N + 1 else low v) t (gs ++ [n :: r]):=by
 obtain ⟨s,hu,ht⟩:=h.ok
 have hnd:=h.nd
 simp only [aA,SX,Sp] at hnd
 obtain ⟨⟨h1,h2,h3⟩,h4,h5⟩:=hnd
 have FN:aA ((n,k,r) :: t) = aA t ++ n :: r:=rfl
 have hin:∀ (i m:Nat),(aA ((n,k,r) :: t))[i]? = some m→low n≤i + 1→m∈n :: r:=by
  intro i m hi hle
  rw [FN,SC (by omega)] at hi
  exact Sl hi
 have back:∀ p:Nat,∀ i:Nat,i < p→∀ v:Nat,v∈n :: r→(aA ((n,k,r) :: t))[i]? = some v→Rc E v n:=by
  intro p
  induction p with
  | zero=>intro i hi; omega
  | succ p ih =>
   intro i hi v hv hiv
   rcases SA.1 hv with rfl | hr
   ·exact .refl _
   ·have a1:=s.at_ v hr i hiv
    have a2:=s.lo v hr
    obtain ⟨u,b1,b2⟩:=s.to v hv
    have a3:=s.pos v hv
    exact b2.trans (ih (low v - 1) (by omega) u (hin _ u b1 (by omega)) b1)
 have back:∀ v∈n :: r,Rc E v n:=by
  intro v hv
  obtain ⟨i,hi1,hi2⟩:=List.getElem_of_mem (show v∈aA ((n,k,r) :: t) by rw [FN]; exact List.mem_append_right _ hv)
  exact back (i + 1) i (by omega) v hv (by rw [Sm hi1,hi2])
 have fwd:∀ v∈n :: r,Rc E n v:=by
  intro v hv
  rcases SA.1 hv with rfl | hr
  ·exact .refl _
  ·exact s.rc v hr
 have hg:Good E (gs ++ [n :: r]):=by
  refine h.good.snoc (by simp) h2 (fun a ha hb=>h5 a (Or.inr ha) a hb rfl) (fun a ha b hb=>(back a ha).trans (fwd b hb)) ?_
  intro a ha b hb
  rcases SA.1 ha with rfl | hr
  ·obtain ⟨j,hj1,hj2⟩:=List.getElem_of_mem hb
   rcases s.en j b (by omega) (by rw [Sm hj1,hj2]) with h1 | ⟨i,h1,h2⟩
   ·exact Or.inr h1
   ·exact Or.inl (hin i b h1 h2)
  ·rcases s.ed a hr b hb with h1 | ⟨i,h1,h2⟩
   ·exact Or.inr h1
   ·exact Or.inl (hin i b h1 h2)
 have hdis:∀ v∈aA t,v∉n :: r:=fun v hv e=>h3 v hv v e rfl
 have hfl:∀ v,v∈(gs ++ [n :: r]).flatten↔v∈gs.flatten∨v∈n :: r:=by intro v; rw [TZ,Sp,List.flatten_singleton]
 have hmono:=OK.mono (low':=fun v=>if v∈n :: r then N + 1 else low v) (op':=aA t) (D':=(·∈(gs ++ [n :: r]).flatten)) _ ht
  (fun v hv=>by simp only [Sr (hdis v hv)])
  (fun i v hi=>by
   by_cases hb:i < (aA t).length
   ·rw [FN,Sw hb] at hi
    exact Or.inl hi
   ·rw [FN,SC (by omega)] at hi
    exact Or.inr ((hfl v).2 (Or.inr (Sl hi))))
  (fun i v hi _=>by
   rw [FN,Sw (Sk.1 hi).1]
   exact hi)
  (fun i hi=>by rw [FN,Sw hi]) h.P_ (fun v hv=>(hfl v).2 (Or.inl hv))
  (fun i hi=>by rw [FN,Sw hi])
 refine ⟨hmono,?_,?_,?_,?_,hg⟩
 ·rw [SX]
  refine ⟨h1,hg.1,?_⟩
  intro a ha b hb e
  subst e
  rcases (hfl a).1 hb with hb | hb
  ·exact h5 a (Or.inl ha) a hb rfl
  ·exact hdis a ha hb
 ·intro v hv
  rw [Sp,hfl] at hv
  refine h.lt v ?_
  rw [FN,Sp,Sp]
  rcases hv with hv | hv | hv
  ·exact Or.inl (Or.inl hv)
  ·exact Or.inr hv
  ·exact Or.inl (Or.inr hv)
 ·intro v hv
  rw [Sp,hfl]
  by_cases e:v∈n :: r
  ·simp only [Sz e]
   constructor
   ·intro h; omega
   ·intro h; exact absurd (Or.inr (Or.inr e)) h
  ·simp only [Sr e]
   rw [h.un v hv,FN,Sp,Sp]
   constructor
   ·intro a b
    rcases b with b | b | b
    ·exact a (Or.inl (Or.inl b))
    ·exact a (Or.inr b)
    ·exact e b
   ·intro a b
    rcases b with (b | b) | b
    ·exact a (Or.inl b)
    ·exact e b
    ·exact a (Or.inr (Or.inl b))
 ·intro v hv
  rcases (hfl v).1 hv with hv | hv
  ·by_cases e:v∈n :: r
   ·simp only [Sz e]
   ·simp only [Sr e]; exact h.dn v hv
  ·simp only [Sz hv]
theorem Inv.start (E:Nat→List Nat) (N:Nat):Inv E N (fun _=>0) [] []:=⟨trivial,by simp [aA],by simp [aA],by simp [aA],by simp,Good.nil E⟩
def todo (E:Nat→List Nat) (N:Nat) (low:Nat→Nat) (S:List Sc):Nat :=
 ((List.range N).map fun v=>if low v = 0 then (E v).length + 2 else 0).sum + (S.map fun s=>(E s.1).length + 1 - s.2.1).sum
theorem Qb {l:List Nat} {f g:Nat→Nat} (h:∀ v∈l,f v≤g v):(l.map f).sum≤(l.map g).sum:=by
 induction l with
 | nil=>simp
 | cons a l ih =>
  have h1:=h a (by simp)
  have h2:=ih fun v hv=>h v (by simp [hv])
  simp only [S0,List.sum_cons]; omega
theorem Qc {l:List Nat} {f g:Nat→Nat} (h:∀ v∈l,f v≤g v) {a d:Nat} (ha:a∈l) (hd:f a + d≤g a):(l.map f).sum + d≤(l.map g).sum:=by
 induction l with
 | nil=>simp at ha
 | cons b l ih =>
  simp only [S0,List.sum_cons]
  rcases SA.1 ha with rfl | ha
  ·have:=Qb (l:=l) fun v hv=>h v (by simp [hv])
   omega
  ·have h1:=h b (by simp)
   have h2:=ih (fun v hv=>h v (by simp [hv])) ha
   omega
theorem J6 {n k m:Nat} {r:List Nat} (h:Inv E N low ((n,k,r) :: t) gs) (hk:(E n)[k]? = some m) (hm:m < N) (h0:low m = 0) (x:Nat) (hx:x≠0) :
  todo E N (zD low m x) ((m,0,[]) :: (n,k + 1,r) :: t) < todo E N low ((n,k,r) :: t):=by
 have hle:k < (E n).length:=(Sk.1 hk).1
 have:=Qc (l:=List.range N) (f:=fun v=>if zD low m x v = 0 then (E v).length + 2 else 0) (g:=fun v=>if low v = 0 then (E v).length + 2 else 0) (a:=m) (d:=(E m).length + 2)
  (fun v _=>by
   by_cases e:v = m
   ·subst e; simp [aY,hx]
   ·rw [cM e]; exact SF _) (SO.2 hm) (by simp [aY,hx,h0])
 unfold todo
 simp only [S0,List.sum_cons]
 omega
theorem yi {low' : Nat→Nat} (h:∀ v,v < N→(low' v = 0↔low v = 0)):((List.range N).map fun v=>if low' v = 0 then (E v).length + 2 else 0).sum = ((List.range N).map fun v=>if low v = 0 then (E v).length + 2 else 0).sum:=by
 congr 1
 refine TJ fun v hv=>?_
 have:=h v (SO.1 hv)
 by_cases e:low v = 0
 ·simp [e,this.2 e]
 ·simp [e,mt this.1 e]
end Go.V.bw
namespace Go.Proofs.YtngdohpikfcifaaGreatDoor
open Go.V
abbrev rM:FuncId:=11
def yj:bj:={ rngs:=[],loops:=[],joins:=[],blocks:=[] }
def zE (a:Option Addr) (b c:Nat) (d:Option Addr) (e f:Nat) (g:Option Addr) (i j:Nat) (k:Int) (l:Option Addr) (m n:Nat) (w:World) (R:Value→WP):Prop :=  new w (oC [vS a b c,vS d e f,vS g i j,iI k,vS l m n] 27) fun k1 w1=>∀ w2,drawn w1 w2→∃ (I1:World→Prop),I1 w2∧∃ o1 k2 k3 o2 k4 k5 o3 k6 k7 n1 o4 k8 k9,(∀ w3,I1 w3→V.rowAt w3 (aM k1) 0 5 = some [vS o1 k2 k3,vS o2 k4 k5,vS o3 k6 k7,iI n1,vS o4 k8 k9])∧au Proofs.Tryz.prog Ev 36 [] w2 fun v1 w4=>∃ o5 k10 k11,v1 = vS o5 k10 k11∧∃ (I2:World→Prop),I2 w4∧(∀ w5,I2 w5→I1 w5)∧idx o5 k10 0 2 fun a1=>∃ g1 x1 g2 x2,(∀ w6,I2 w6→V.rowAt w6 a1 0 2 = some [Value.func (Fn.func g1) (Array.mk []) (Array.mk x1),Value.func (Fn.func g2) (Array.mk []) (Array.mk x2)])∧au Proofs.Tryz.prog Ev 37 [vA (Array.mk [Value.func (Fn.func g1) (Array.mk []) (Array.mk x1),Value.func (Fn.func g2) (Array.mk []) (Array.mk x2)]),vA (Array.mk [vS o1 k2 k3,vS o2 k4 k5,vS o3 k6 k7,iI n1,vS o4 k8 k9])] w4 fun v2 w7=>∃ o6 k12 k13 n2,v2 = vT (Array.mk [vS o6 k12 k13,iI n2])∧I2 w7∧R (vT (Array.mk [vS o6 k12 k13,iI n2])) w7
theorem yk (a:Option Addr) (b c:Nat) (d:Option Addr) (e f:Nat) (g:Option Addr) (i j:Nat) (k:Int) (l:Option Addr) (m n:Nat) (w:World) (R:Value→WP) (h:zE a b c d e f g i j k l m n w R):aC Tryz.prog 11 [(.agg #[(.slice a b c),(.slice d e f),(.slice g i j),(.int .i64 k),(.slice l m n)])] w R:=rv Tryz.func11 yj (by kernel_rfl) h

abbrev ym:FuncId:=12
def uU:bj:={ rngs:=[],loops:=[],joins:=[],blocks:=[] }
def wS (a:Option Addr) (b c:Nat) (d:Option Addr) (e f:Nat) (g:Option Addr) (i j:Nat) (k:Int) (l:Option Addr) (m n:Nat) (w:World) (R:Value→WP):Prop :=  new w (oC [vS a b c,vS d e f,vS g i j,iI k,vS l m n] 27) fun k1 w1=>∀ w2,drawn w1 w2→∃ (I1:World→Prop),I1 w2∧∃ o1 k2 k3 o2 k4 k5 o3 k6 k7 n1 o4 k8 k9,(∀ w3,I1 w3→V.rowAt w3 (aM k1) 0 5 = some [vS o1 k2 k3,vS o2 k4 k5,vS o3 k6 k7,iI n1,vS o4 k8 k9])∧au Proofs.Tryz.prog Ev 36 [] w2 fun v1 w4=>∃ o5 k10 k11,v1 = vS o5 k10 k11∧∃ (I2:World→Prop),I2 w4∧(∀ w5,I2 w5→I1 w5)∧idx o5 k10 1 2 fun a1=>∃ g1 x1 g2 x2,(∀ w6,I2 w6→V.rowAt w6 a1 0 2 = some [Value.func (Fn.func g1) (Array.mk []) (Array.mk x1),Value.func (Fn.func g2) (Array.mk []) (Array.mk x2)])∧au Proofs.Tryz.prog Ev 37 [vA (Array.mk [Value.func (Fn.func g1) (Array.mk []) (Array.mk x1),Value.func (Fn.func g2) (Array.mk []) (Array.mk x2)]),vA (Array.mk [vS o1 k2 k3,vS o2 k4 k5,vS o3 k6 k7,iI n1,vS o4 k8 k9])] w4 fun v2 w7=>∃ o6 k12 k13 n2,v2 = vT (Array.mk [vS o6 k12 k13,iI n2])∧I2 w7∧R (vT (Array.mk [vS o6 k12 k13,iI n2])) w7
theorem uV (a:Option Addr) (b c:Nat) (d:Option Addr) (e f:Nat) (g:Option Addr) (i j:Nat) (k:Int) (l:Option Addr) (m n:Nat) (w:World) (R:Value→WP) (h:wS a b c d e f g i j k l m n w R):aC Tryz.prog 12 [(.agg #[(.slice a b c),(.slice d e f),(.slice g i j),(.int .i64 k),(.slice l m n)])] w R:=rv Tryz.func12 uU (by kernel_rfl) h

abbrev FT:FuncId:=19
def Cd:bj:={ rngs:=[],loops:=[(9,[(7,(.one .slice)),(31,(.one (.int .i64)))]),(13,[(42,(.one (.int .i64)))])],joins:=[],blocks:=[] }
def D_ (a:Option Addr) (b c:Nat) (d:Option Addr) (e f:Nat) (g:Option Addr) (i j:Nat) (k:Int) (l:Option Addr) (m n:Nat) (w:World) (R:Value→WP):Prop :=  new w (oC [vS a b c,vS d e f,vS g i j,iI k,vS l m n] 27) fun k1 w1=>∃ o1 k2 k3 o2 k4 k5 o3 k6 k7 n1 o4 k8 k9,V.rowAt w1 (aM k1) 0 5 = some [vS o1 k2 k3,vS o2 k4 k5,vS o3 k6 k7,iI n1,vS o4 k8 k9]∧au Proofs.Tryz.prog Ev 12 [vA (Array.mk [vS o1 k2 k3,vS o2 k4 k5,vS o3 k6 k7,iI n1,vS o4 k8 k9])] w1 fun v1 w2=>∃ o5 k10 k11 n2,v1 = vT (Array.mk [vS o5 k10 k11,iI n2])∧br (n2 != 0) (R (vT (Array.mk [vS none 0 0,iI n2])) w2) (∃ o6 k12 k13 o7 k14 k15 o8 k16 k17 n3 o9 k18 k19,V.rowAt w2 (aM k1) 0 5 = some [vS o6 k12 k13,vS o7 k14 k15,vS o8 k16 k17,iI n3,vS o9 k18 k19]∧au Proofs.Tryz.prog Ev 18 [vA (Array.mk [vS o6 k12 k13,vS o7 k14 k15,vS o8 k16 k17,iI n3,vS o9 k18 k19])] w2 fun v2 w3=>∃ o10 k20 k21 n4,v2 = vT (Array.mk [vS o10 k20 k21,iI n4])∧br (n4 != 0) (R (vT (Array.mk [vS none 0 0,iI n4])) w3) (∃ (x1:lP [(7,js),(31,aI)]),∃ (x2:lN [(7,js),(31,aI)]),x1 none 0 0 0 w3∧∀ (I1:Nat→Value) (o11:Option Addr) (k22 k23:Nat) (n5:Int) (w4:World),x1 o11 k22 k23 n5 w4→br (decide (n5 < (↑k20:Int))) (idx o10 k20 n5 3 fun a1=>∃ n6 n7 o12 k24 k25,V.rowAt w4 a1 0 3 = some [iI n6,iI n7,vS o12 k24 k25]∧new w4 (oC [iI 0,iI 0,vS none 0 0] 45) fun k26 w5=>iA w5 (aM k26) [iI n6,iI n7,vS o12 k24 k25] fun w6=>∃ o13 k27 k28,World.cell? w6 (aM k1) = some (vS o13 k27 k28)∧au Proofs.Tryz.prog Ev 51 [iI (↑k27:Int),vS none 0 0] w6 fun v3 w7=>∃ o14,v3 = vP o14∧∃ o15 k29 k30,World.cell? w7 (Addr.add (aM k26) 2) = some (vS o15 k29 k30)∧∃ (x3:lP [(42,aI)]),∃ (x4:lN [(42,aI)]),x3 0 w7∧∀ (I2:Nat→Value) (n8:Int) (w8:World),x3 n8 w8→br (decide (n8 < (↑k29:Int))) (idx o15 k29 n8 1 fun a2=>∃ n9,World.cell? w8 a2 = some (iI n9)∧idx o5 k10 n9 1 fun a3=>∃ o16 k31 k32,World.cell? w8 a3 = some (vS o16 k31 k32)∧au Proofs.Tryz.prog Ev 52 [vP o14,vS o16 k31 k32] w8 fun v4 w9=>∃ n10,v4 = iI n10∧aG (n8 + 1)∧x3 (n8 + 1) w9∧x4 (n8 + 1) w9 < x4 n8 w8) (∀ w10,drawn w8 w10→∃ (I3:World→Prop),I3 w10∧∃ n11,(∀ w11,I3 w11→World.cell? w11 (aM k26) = some (iI n11))∧∃ n12,(∀ w12,I3 w12→World.cell? w12 (Addr.add (aM k26) 1) = some (iI n12))∧au Proofs.Tryz.prog Ev 53 [vP o14] w10 fun v5 w13=>∃ o17 k33 k34,v5 = vS o17 k33 k34∧I3 w13∧new w13 (oC [iI n11,iI n12,vS o17 k33 k34] 49) fun k35 w14=>I3 w14∧az Proofs.Tryz.prog (f_ 40 (Array.mk [vS o11 k22 k23,vS (some (aM k35)) 1 1])) w14 fun v6 w15=>∃ o18 k36 k37,v6 = vS o18 k36 k37∧I3 w15∧aG (n5 + 1)∧x1 o18 k36 k37 (n5 + 1) w15∧x2 o18 k36 k37 (n5 + 1) w15 < x2 o11 k22 k23 n5 w4)) (au Proofs.Tryz.prog Ev 54 [vS o11 k22 k23] w4 fun v7 w16=>∃ o19 k38 k39,v7 = vS o19 k38 k39∧R (vT (Array.mk [vS o19 k38 k39,iI 0])) w16)))
theorem Ce (a:Option Addr) (b c:Nat) (d:Option Addr) (e f:Nat) (g:Option Addr) (i j:Nat) (k:Int) (l:Option Addr) (m n:Nat) (w:World) (R:Value→WP) (h:D_ a b c d e f g i j k l m n w R):aC Tryz.prog 19 [(.agg #[(.slice a b c),(.slice d e f),(.slice g i j),(.int .i64 k),(.slice l m n)])] w R:=rv Tryz.func19 Cd (by kernel_rfl) h

abbrev yn:FuncId:=36
def uW:bj:={ rngs:=[],loops:=[],joins:=[],blocks:=[] }
def wT  (w:World) (R:Value→WP):Prop :=  new w (oC [Value.func (Fn.func 15) (Array.mk []) (Array.mk []),Value.func (Fn.func 16) (Array.mk []) (Array.mk []),Value.func (Fn.func 11) (Array.mk []) (Array.mk []),Value.func (Fn.func 17) (Array.mk []) (Array.mk [])] 88) fun k1 w1=>R (vS (some (aM k1)) 2 2) w1
theorem uX  (w:World) (R:Value→WP) (h:wT  w R):aC Tryz.prog 36 [] w R:=rv Tryz.func36 uW (by kernel_rfl) h

abbrev oh:FuncId:=37
def lO:bj:={ rngs:=[],loops:=[],joins:=[],blocks:=[] }
def m_ (a:FuncId) (b:List Value) (c:FuncId) (d:List Value) (e:Option Addr) (f g:Nat) (i:Option Addr) (j k:Nat) (l:Option Addr) (m n:Nat) (o:Int) (p:Option Addr) (q s:Nat) (w:World) (R:Value→WP):Prop :=  new w (oC [Value.func (Fn.func a) (Array.mk []) (Array.mk b),Value.func (Fn.func c) (Array.mk []) (Array.mk d)] 88) fun k1 w1=>new w1 (oC [vS e f g,vS i j k,vS l m n,iI o,vS p q s] 27) fun k2 w2=>∃ g1 x1,World.cell? w2 (aM k1) = some (Value.func (Fn.func g1) (Array.mk []) (Array.mk x1))∧∃ o1 k3 k4 o2 k5 k6 o3 k7 k8 n1 o4 k9 k10,V.rowAt w2 (aM k2) 0 5 = some [vS o1 k3 k4,vS o2 k5 k6,vS o3 k7 k8,iI n1,vS o4 k9 k10]∧y8 (Proofs.YtngdohpikfcifaaGreatDoor.Fn g1) (au Proofs.Tryz.prog Ev g1 (vA (Array.mk [vS o1 k3 k4,vS o2 k5 k6,vS o3 k7 k8,iI n1,vS o4 k9 k10]) :: x1) w2 fun v1 w3=>∃ o5 k11 k12 n2,v1 = vT (Array.mk [vS o5 k11 k12,iI n2])∧br (n2 != 0) (R (vT (Array.mk [vS none 0 0,iI n2])) w3) (∃ g2 x2,World.cell? w3 (Addr.add (aM k1) 1) = some (Value.func (Fn.func g2) (Array.mk []) (Array.mk x2))∧∃ o6 k13 k14 o7 k15 k16 o8 k17 k18 n3 o9 k19 k20,V.rowAt w3 (aM k2) 0 5 = some [vS o6 k13 k14,vS o7 k15 k16,vS o8 k17 k18,iI n3,vS o9 k19 k20]∧y8 (Proofs.YtngdohpikfcifaaGreatDoor.Fn g2) (au Proofs.Tryz.prog Ev g2 (vA (Array.mk [vS o6 k13 k14,vS o7 k15 k16,vS o8 k17 k18,iI n3,vS o9 k19 k20]) :: x2) w3 fun v2 w4=>∃ o10 k21 k22 n4,v2 = vT (Array.mk [vS o10 k21 k22,iI n4])∧br (n4 != 0) (R (vT (Array.mk [vS none 0 0,iI n4])) w4) (au Proofs.Tryz.prog Ev 78 [vS o10 k21 k22,vS o5 k11 k12] w4 fun v3 w5=>∃ o11 k23 k24 n5,v3 = vT (Array.mk [vS o11 k23 k24,iI n5])∧R (vT (Array.mk [vS o11 k23 k24,iI n5])) w5))))
theorem lQ (a:FuncId) (b:List Value) (c:FuncId) (d:List Value) (e:Option Addr) (f g:Nat) (i:Option Addr) (j k:Nat) (l:Option Addr) (m n:Nat) (o:Int) (p:Option Addr) (q s:Nat) (w:World) (R:Value→WP) (h:m_ a b c d e f g i j k l m n o p q s w R):aC Tryz.prog 37 [(.agg #[(.func (.func a) #[] ⟨b⟩),(.func (.func c) #[] ⟨d⟩)]),(.agg #[(.slice e f g),(.slice i j k),(.slice l m n),(.int .i64 o),(.slice p q s)])] w R:=rv Tryz.func37 lO (by kernel_rfl) h

def fM:bj:={ rngs:=[],loops:=[],joins:=[],blocks:=[] }
def fZ (a:Option Addr) (b c:Nat) (w:World) (R:Value→WP):Prop :=  p8 a b c none (some (↑b:Int)) (some (↑b:Int)) 3 fun (o1:Option Addr) (k1 k2:Nat)=>R (vS o1 k1 k2) w
theorem fN (a:Option Addr) (b c:Nat) (w:World) (R:Value→WP) (h:fZ a b c w R):aC Tryz.prog 54 [(.slice a b c)] w R:=rv Tryz.func54 fM (by kernel_rfl) h

abbrev zF:FuncId:=78
def wU:bj:={ rngs:=[],loops:=[(4,[(22,(.one (.int .i64)))])],joins:=[(2,[(19,(.one .bool))])],blocks:=[] }
def yp (a:Option Addr) (b c:Nat) (d:Option Addr) (e f:Nat) (w:World) (R:Value→WP):Prop :=  new w (oC [vS a b c] 30) fun k1 w1=>new w1 (oC [vS d e f] 30) fun k2 w2=>∃ (x1:lP [(19,yL)]),(∃ o1 k3 k4,World.cell? w2 (aM k1) = some (vS o1 k3 k4)∧au Proofs.Tryz.prog Ev 114 [vS o1 k3 k4] w2 fun v1 w3=>∃ b1,v1 = vB b1∧br (!b1) (x1 true w3) (∃ o2 k5 k6,World.cell? w3 (aM k2) = some (vS o2 k5 k6)∧∃ o3 k7 k8,World.cell? w3 (aM k1) = some (vS o3 k7 k8)∧x1 ((↑k5:Int) != (↑k7:Int)) w3))∧∀ (I1:Nat→Value) (b2:Bool) (w4:World),x1 b2 w4→br b2 (R (vT (Array.mk [vS none 0 0,iI 1])) w4) (∃ o4 k9 k10,World.cell? w4 (aM k2) = some (vS o4 k9 k10)∧∃ (x2:lP [(22,aI)]),∃ (x3:lN [(22,aI)]),x2 0 w4∧∀ (I2:Nat→Value) (n1:Int) (w5:World),x2 n1 w5→br (decide (n1 < (↑k9:Int))) (idx o4 k9 n1 1 fun a1=>∃ o5 k11 k12,World.cell? w5 a1 = some (vS o5 k11 k12)∧au Proofs.Tryz.prog Ev 82 [vS o5 k11 k12,Value.func (Fn.func 115) (Array.mk []) (Array.mk [])] w5 fun v2 w6=>∃ b3,v2 = vB b3∧br b3 (R (vT (Array.mk [vS none 0 0,iI 1])) w6) (aG (n1 + 1)∧x2 (n1 + 1) w6∧x3 (n1 + 1) w6 < x3 n1 w5)) (∃ o6 k13 k14,World.cell? w5 (aM k1) = some (vS o6 k13 k14)∧y7 (↑k13:Int) (↑k13:Int) 8∧new w5 (Obj.cells (Array.mk (gG (Int.toNat (↑k13:Int)) [vP none])) 117) fun k15 w7=>new w7 (oC [vS none 0 0] 123) fun k16 w8=>st1 w8 (aM k16) (vS (some (aM k15)) (Int.toNat (↑k13:Int)) (Int.toNat (↑k13:Int))) fun w9=>∃ o7 k17 k18,World.cell? w9 (aM k1) = some (vS o7 k17 k18)∧y7 (↑k17:Int) (↑k17:Int) 24∧new w9 (Obj.cells (Array.mk (gG (Int.toNat (↑k17:Int)) [vS none 0 0])) 24) fun k19 w10=>new w10 (oC [vS none 0 0] 30) fun k20 w11=>st1 w11 (aM k20) (vS (some (aM k19)) (Int.toNat (↑k17:Int)) (Int.toNat (↑k17:Int))) fun w12=>∃ o8 k21 k22,World.cell? w12 (aM k1) = some (vS o8 k21 k22)∧au Proofs.Tryz.prog Ev 116 [vS o8 k21 k22,Value.func (Fn.func 117) (Array.mk []) (Array.mk [vP (some (aM k16)),vP (some (aM k2)),vP (some (aM k1)),vP (some (aM k20))])] w12 fun v3 w13=>v3 = vT (Array.mk [])∧∃ o9 k23 k24,World.cell? w13 (aM k20) = some (vS o9 k23 k24)∧R (vT (Array.mk [vS o9 k23 k24,iI 0])) w13))
theorem wV (a:Option Addr) (b c:Nat) (d:Option Addr) (e f:Nat) (w:World) (R:Value→WP) (h:yp a b c d e f w R):aC Tryz.prog 78 [(.slice a b c),(.slice d e f)] w R:=rv Tryz.func78 wU (by kernel_rfl) h

abbrev zG:FuncId:=114
def wW:bj:={ rngs:=[],loops:=[],joins:=[],blocks:=[] }
def yq (a:Option Addr) (b c:Nat) (w:World) (R:Value→WP):Prop :=  new w (oC [vS a b c] 30) fun k1 w1=>∃ o1 k2 k3,World.cell? w1 (aM k1) = some (vS o1 k2 k3)∧au Proofs.Tryz.prog Ev 150 [vS o1 k2 k3,Value.func (Fn.func 151) (Array.mk []) (Array.mk [vP (some (aM k1))])] w1 fun v1 w2=>∃ b1,v1 = vB b1∧R (vB !b1) w2
theorem wX (a:Option Addr) (b c:Nat) (w:World) (R:Value→WP) (h:yq a b c w R):aC Tryz.prog 114 [(.slice a b c)] w R:=rv Tryz.func114 wW (by kernel_rfl) h

abbrev uY:FuncId:=115
def rP:bj:={ rngs:=[],loops:=[],joins:=[],blocks:=[] }
def tJ (a:Int) (w:World) (R:Value→WP):Prop :=  br (decide (a < 0)) (R (vB true) w) (R (vB (decide (1024≤a))) w)
theorem rQ (a:Int) (w:World) (R:Value→WP) (h:tJ a w R):aC Tryz.prog 115 [(.int .i64 a)] w R:=rv Tryz.func115 rP (by kernel_rfl) h

abbrev Bo:FuncId:=116
def yr:bj:={ rngs:=[],loops:=[(5,[(26,(.one (.int .i64)))]),(12,[]),(14,[]),(30,[(170,(.one (.int .i64)))])],joins:=[(26,[])],blocks:=[] }
def zH (a:Option Addr) (b c:Nat) (d:FuncId) (e:List Value) (w:World) (R:Value→WP):Prop :=  y7 (↑b:Int) (↑b:Int) 8∧new w (Obj.cells (Array.mk (gG (Int.toNat (↑b:Int)) [iI 0])) 3) fun k1 w1=>new w1 (oC [vS none 0 0] 24) fun k2 w2=>st1 w2 (aM k2) (vS (some (aM k1)) (Int.toNat (↑b:Int)) (Int.toNat (↑b:Int))) fun w3=>aG ((↑b:Int) + 1)∧new w3 (oC [vS none 0 0] 24) fun k3 w4=>new w4 (oC [vS none 0 0] 211) fun k4 w5=>∃ (x1:lP [(26,aI)]),∃ (x2:lN [(26,aI)]),x1 0 w5∧∀ (I1:Nat→Value) (n1:Int) (w6:World),x1 n1 w6→br (decide (n1 < (↑b:Int))) (∃ o1 k5 k6,World.cell? w6 (aM k2) = some (vS o1 k5 k6)∧idx o1 k5 n1 1 fun a1=>∃ n2,World.cell? w6 a1 = some (iI n2)∧br (decide (0 < n2)) (aG (n1 + 1)∧x1 (n1 + 1) w6∧x2 (n1 + 1) w6 < x2 n1 w6) (new w6 (Obj.map (Array.mk []) 0) fun k7 w7=>∃ o2 k8 k9,World.cell? w7 (aM k3) = some (vS o2 k8 k9)∧aG ((↑k8:Int) + 1)∧az Proofs.Tryz.prog (Instr.mapUpdate 178 (Value.map (some k7)) (iI n1) (iI ((↑k8:Int) + 1))) w7 fun (x3:Unit) (w8:World)=>au Proofs.Tryz.prog Ev 153 [iI n1,vP (some (aM k3)),vP (some (aM k2)),vP (some (aM k4))] w8 fun v1 w9=>v1 = vT (Array.mk [])∧∃ (x4:lP []),∃ (x5:lN []),x4 w9∧∀ (I2:Nat→Value) (w10:World),x4 w10→∃ o3 k10 k11,World.cell? w10 (aM k4) = some (vS o3 k10 k11)∧br (decide (0 < (↑k10:Int))) (∃ o4 k12 k13,World.cell? w10 (aM k4) = some (vS o4 k12 k13)∧∃ o5 k14 k15,World.cell? w10 (aM k4) = some (vS o5 k14 k15)∧aG ((↑k14:Int) - 1)∧idx o4 k12 ((↑k14:Int) - 1) 2 fun a2=>∃ (x6:lP []),∃ (x7:lN []),x6 w10∧∀ (I3:Nat→Value) (w11:World),x6 w11→∀ w12,drawn w11 w12→∃ (I4:World→Prop),I4 w12∧∃ n3,(∀ w13,I4 w13→World.cell? w13 (Addr.add a2 1) = some (iI n3))∧∃ n4,(∀ w14,I4 w14→World.cell? w14 a2 = some (iI n4))∧idx a b n4 1 fun a3=>∃ o6 k16 k17,(∀ w15,I4 w15→World.cell? w15 a3 = some (vS o6 k16 k17))∧br (decide (n3 < (↑k16:Int))) (∀ w16,drawn w12 w16→∃ (I5:World→Prop),I5 w16∧∃ n5,(∀ w17,I5 w17→World.cell? w17 a2 = some (iI n5))∧idx a b n5 1 fun a4=>∃ o7 k18 k19,(∀ w18,I5 w18→World.cell? w18 a4 = some (vS o7 k18 k19))∧∃ n6,(∀ w19,I5 w19→World.cell? w19 (Addr.add a2 1) = some (iI n6))∧idx o7 k18 n6 1 fun a5=>∃ n7,(∀ w20,I5 w20→World.cell? w20 a5 = some (iI n7))∧∃ n8,World.cell? w16 (Addr.add a2 1) = some (iI n8)∧aG (n8 + 1)∧st1 w16 (Addr.add a2 1) (iI (n8 + 1)) fun w21=>∃ o8 k20 k21,World.cell? w21 (aM k2) = some (vS o8 k20 k21)∧idx o8 k20 n7 1 fun a6=>∃ n9,World.cell? w21 a6 = some (iI n9)∧br (n9 == 0) (∃ o9 k22 k23,World.cell? w21 (aM k3) = some (vS o9 k22 k23)∧aG ((↑k22:Int) + 1)∧az Proofs.Tryz.prog (Instr.mapUpdate 178 (Value.map (some k7)) (iI n7) (iI ((↑k22:Int) + 1))) w21 fun (x8:Unit) (w22:World)=>au Proofs.Tryz.prog Ev 153 [iI n7,vP (some (aM k3)),vP (some (aM k2)),vP (some (aM k4))] w22 fun v2 w23=>v2 = vT (Array.mk [])∧x4 w23∧x5 w23 < x5 w10) (∀ w24,drawn w21 w24→∃ (I6:World→Prop),I6 w24∧∃ o10 k24 k25,(∀ w25,I6 w25→World.cell? w25 (aM k2) = some (vS o10 k24 k25))∧∃ n10,(∀ w26,I6 w26→World.cell? w26 a2 = some (iI n10))∧∃ o11 k26 k27,(∀ w27,I6 w27→World.cell? w27 (aM k2) = some (vS o11 k26 k27))∧∃ n11,(∀ w28,I6 w28→World.cell? w28 a2 = some (iI n11))∧idx o11 k26 n11 1 fun a7=>∃ n12,(∀ w29,I6 w29→World.cell? w29 a7 = some (iI n12))∧∃ o12 k28 k29,(∀ w30,I6 w30→World.cell? w30 (aM k2) = some (vS o12 k28 k29))∧idx o12 k28 n7 1 fun a8=>∃ n13,(∀ w31,I6 w31→World.cell? w31 a8 = some (iI n13))∧idx o10 k24 n10 1 fun a9=>st1 w24 a9 (iI (if n13 < n12 then n13 else n12)) fun w32=>x6 w32∧x7 w32 < x7 w11)) (∃ n14,World.cell? w12 a2 = some (iI n14)∧∃ o13 k30 k31,World.cell? w12 (aM k4) = some (vS o13 k30 k31)∧∃ o14 k32 k33,World.cell? w12 (aM k4) = some (vS o14 k32 k33)∧aG ((↑k32:Int) - 1)∧p8 o13 k30 k31 none (some ((↑k32:Int) - 1)) none 2 fun (o15:Option Addr) (k34 k35:Nat)=>st1 w12 (aM k4) (vS o15 k34 k35) fun w33=>∃ (x9:lP []),(∃ o16 k36 k37,World.cell? w33 (aM k4) = some (vS o16 k36 k37)∧br (decide (0 < (↑k36:Int))) (∃ o17 k38 k39,World.cell? w33 (aM k4) = some (vS o17 k38 k39)∧∃ o18 k40 k41,World.cell? w33 (aM k4) = some (vS o18 k40 k41)∧aG ((↑k40:Int) - 1)∧idx o17 k38 ((↑k40:Int) - 1) 2 fun a10=>∃ n15,World.cell? w33 a10 = some (iI n15)∧∀ w34,drawn w33 w34→∃ (I7:World→Prop),I7 w34∧∃ o19 k42 k43,(∀ w35,I7 w35→World.cell? w35 (aM k2) = some (vS o19 k42 k43))∧∃ o20 k44 k45,(∀ w36,I7 w36→World.cell? w36 (aM k2) = some (vS o20 k44 k45))∧idx o20 k44 n15 1 fun a11=>∃ n16,(∀ w37,I7 w37→World.cell? w37 a11 = some (iI n16))∧∃ o21 k46 k47,(∀ w38,I7 w38→World.cell? w38 (aM k2) = some (vS o21 k46 k47))∧idx o21 k46 n14 1 fun a12=>∃ n17,(∀ w39,I7 w39→World.cell? w39 a12 = some (iI n17))∧idx o19 k42 n15 1 fun a13=>st1 w34 a13 (iI (if n17 < n16 then n17 else n16)) fun w40=>x9 w40) (x9 w33))∧∀ (I8:Nat→Value) (w41:World),x9 w41→∀ w42,drawn w41 w42→∃ (I9:World→Prop),I9 w42∧∃ o22 k48 k49,(∀ w43,I9 w43→World.cell? w43 (aM k2) = some (vS o22 k48 k49))∧idx o22 k48 n14 1 fun a14=>∃ n18,(∀ w44,I9 w44→World.cell? w44 a14 = some (iI n18))∧az Proofs.Tryz.prog (Instr.lookup 178 (Value.map (some k7)) (iI n14) false) w42 fun v3 w45=>∃ n19,v3 = iI n19∧I9 w45∧br (n18 == n19) (∃ o23 k50 k51,World.cell? w45 (aM k3) = some (vS o23 k50 k51)∧az Proofs.Tryz.prog (Instr.lookup 178 (Value.map (some k7)) (iI n14) false) w45 fun v4 w46=>∃ n20,v4 = iI n20∧aG (n20 - 1)∧p8 o23 k50 k51 (some (n20 - 1)) none none 1 fun (o24:Option Addr) (k52 k53:Nat)=>au Proofs.Tryz.prog Ev 118 [vS o24 k52 k53] w46 fun v5 w47=>∃ o25 k54 k55,v5 = vS o25 k54 k55∧∃ o26 k56 k57,World.cell? w47 (aM k3) = some (vS o26 k56 k57)∧az Proofs.Tryz.prog (Instr.lookup 178 (Value.map (some k7)) (iI n14) false) w47 fun v6 w48=>∃ n21,v6 = iI n21∧aG (n21 - 1)∧p8 o26 k56 k57 none (some (n21 - 1)) none 1 fun (o27:Option Addr) (k58 k59:Nat)=>st1 w48 (aM k3) (vS o27 k58 k59) fun w49=>∃ (x10:lP [(170,aI)]),∃ (x11:lN [(170,aI)]),x10 0 w49∧∀ (I10:Nat→Value) (n22:Int) (w50:World),x10 n22 w50→br (decide (n22 < (↑k54:Int))) (idx o25 k54 n22 1 fun a15=>∃ n23,World.cell? w50 a15 = some (iI n23)∧∃ o28 k60 k61,World.cell? w50 (aM k2) = some (vS o28 k60 k61)∧idx o28 k60 n23 1 fun a16=>st1 w50 a16 (iI ((↑b:Int) + 1)) fun w51=>aG (n22 + 1)∧x10 (n22 + 1) w51∧x11 (n22 + 1) w51 < x11 n22 w50) (y8 (Proofs.YtngdohpikfcifaaGreatDoor.Fn d) (au Proofs.Tryz.prog Ev d (vS o25 k54 k55 :: e) w50 fun v7 w52=>v7 = vT (Array.mk [])∧x4 w52∧x5 w52 < x5 w10))) (x4 w45∧x5 w45 < x5 w10))) (aG (n1 + 1)∧x1 (n1 + 1) w10∧x2 (n1 + 1) w10 < x2 n1 w6))) (R (vT (Array.mk [])) w6)
theorem yu (a:Option Addr) (b c:Nat) (d:FuncId) (e:List Value) (w:World) (R:Value→WP) (h:zH a b c d e w R):aC Tryz.prog 116 [(.slice a b c),(.func (.func d) #[] ⟨e⟩)] w R:=rv Tryz.func116 yr (by kernel_rfl) h

abbrev uZ:FuncId:=117
def rS:bj:={ rngs:=[],loops:=[(2,[(19,(.one (.int .i64)))]),(7,[(30,(.one (.int .i64)))]),(11,[(45,(.one (.int .i64)))]),(19,[(68,(.one (.int .i64)))])],joins:=[],blocks:=[] }
def tK (a:Option Addr) (b c:Nat) (d e f g:Addr) (w:World) (R:Value→WP):Prop :=  au Proofs.Tryz.prog Ev 51 [iI 1024,vS none 0 0] w fun v1 w1=>∃ o1,v1 = vP o1∧∃ (x1:lP [(19,aI)]),∃ (x2:lN [(19,aI)]),x1 0 w1∧∀ (I1:Nat→Value) (n1:Int) (w2:World),x1 n1 w2→br (decide (n1 < (↑b:Int))) (idx a b n1 1 fun a1=>∃ n2,World.cell? w2 a1 = some (iI n2)∧∃ o2 k1 k2,World.cell? w2 d = some (vS o2 k1 k2)∧idx o2 k1 n2 1 fun a2=>st1 w2 a2 (vP o1) fun w3=>aG (n1 + 1)∧x1 (n1 + 1) w3∧x2 (n1 + 1) w3 < x2 n1 w2) (∃ (x3:lP [(30,aI)]),∃ (x4:lN [(30,aI)]),x3 0 w2∧∀ (I2:Nat→Value) (n3:Int) (w4:World),x3 n3 w4→br (decide (n3 < (↑b:Int))) (idx a b n3 1 fun a3=>∃ n4,World.cell? w4 a3 = some (iI n4)∧∃ o3 k3 k4,World.cell? w4 e = some (vS o3 k3 k4)∧idx o3 k3 n4 1 fun a4=>∃ o4 k5 k6,World.cell? w4 a4 = some (vS o4 k5 k6)∧au Proofs.Tryz.prog Ev 52 [vP o1,vS o4 k5 k6] w4 fun v2 w5=>∃ n5,v2 = iI n5∧∃ o5 k7 k8,World.cell? w5 f = some (vS o5 k7 k8)∧idx o5 k7 n4 1 fun a5=>∃ o6 k9 k10,World.cell? w5 a5 = some (vS o6 k9 k10)∧∃ (x5:lP [(45,aI)]),∃ (x6:lN [(45,aI)]),x5 0 w5∧∀ (I3:Nat→Value) (n6:Int) (w6:World),x5 n6 w6→br (decide (n6 < (↑k9:Int))) (idx o6 k9 n6 1 fun a6=>∃ n7,World.cell? w6 a6 = some (iI n7)∧∃ o7 k11 k12,World.cell? w6 d = some (vS o7 k11 k12)∧idx o7 k11 n7 1 fun a7=>∃ o8,World.cell? w6 a7 = some (vP o8)∧Pb Proofs.YtngdohpikfcifaaGreatDoor.Ty (fun (x7:Sem Value) (I4:Value→Prop)=>∃ v3,Sem.run Proofs.Tryz.prog x7 w6 = Result.ok v3 w6∧I4 v3) BinOp.neq 117 (Operand.tmp 52) (Operand.tmp 53) o8 o1 fun b1=>br b1 (∃ o9 k13 k14,World.cell? w6 d = some (vS o9 k13 k14)∧idx o9 k13 n7 1 fun a8=>∃ o10,World.cell? w6 a8 = some (vP o10)∧new w6 (oC [vP o10] 117) fun k15 w7=>au Proofs.Tryz.prog Ev 95 [vP o1,vS (some (aM k15)) 1 1] w7 fun v4 w8=>∃ n8,v4 = iI n8∧aG (n6 + 1)∧x5 (n6 + 1) w8∧x6 (n6 + 1) w8 < x6 n6 w6) (aG (n6 + 1)∧x5 (n6 + 1) w6∧x6 (n6 + 1) w6 < x6 n6 w6)) (aG (n3 + 1)∧x3 (n3 + 1) w6∧x4 (n3 + 1) w6 < x4 n3 w4)) (au Proofs.Tryz.prog Ev 53 [vP o1] w4 fun v5 w9=>∃ o11 k16 k17,v5 = vS o11 k16 k17∧∃ (x8:lP [(68,aI)]),∃ (x9:lN [(68,aI)]),x8 0 w9∧∀ (I5:Nat→Value) (n9:Int) (w10:World),x8 n9 w10→br (decide (n9 < (↑b:Int))) (idx a b n9 1 fun a9=>∃ n10,World.cell? w10 a9 = some (iI n10)∧∀ w11,drawn w10 w11→∃ (I6:World→Prop),I6 w11∧∃ o12 k18 k19,(∀ w12,I6 w12→World.cell? w12 g = some (vS o12 k18 k19))∧au Proofs.Tryz.prog Ev 118 [vS o11 k16 k17] w11 fun v6 w13=>∃ o13 k20 k21,v6 = vS o13 k20 k21∧I6 w13∧idx o12 k18 n10 1 fun a10=>st1 w13 a10 (vS o13 k20 k21) fun w14=>aG (n9 + 1)∧x8 (n9 + 1) w14∧x9 (n9 + 1) w14 < x9 n9 w10) (R (vT (Array.mk [])) w10)))
theorem rU (a:Option Addr) (b c:Nat) (d e f g:Addr) (w:World) (R:Value→WP) (h:tK a b c d e f g w R):aC Tryz.prog 117 [(.slice a b c),(.pointer (some d)),(.pointer (some e)),(.pointer (some f)),(.pointer (some g))] w R:=rv Tryz.func117 rS (by kernel_rfl) h

abbrev u4:FuncId:=151
def rV:bj:={ rngs:=[],loops:=[],joins:=[],blocks:=[] }
def tL (a:Option Addr) (b c:Nat) (d:Addr) (w:World) (R:Value→WP):Prop :=  au Proofs.Tryz.prog Ev 82 [vS a b c,Value.func (Fn.func 152) (Array.mk []) (Array.mk [vP (some d)])] w fun v1 w1=>∃ b1,v1 = vB b1∧R (vB b1) w1
theorem rW (a:Option Addr) (b c:Nat) (d:Addr) (w:World) (R:Value→WP) (h:tL a b c d w R):aC Tryz.prog 151 [(.slice a b c),(.pointer (some d))] w R:=rv Tryz.func151 rV (by kernel_rfl) h

abbrev pU:FuncId:=152
def nb:bj:={ rngs:=[],loops:=[],joins:=[],blocks:=[] }
def om (a:Int) (b:Addr) (w:World) (R:Value→WP):Prop :=  br (decide (a < 0)) (R (vB true) w) (∃ o1 k1 k2,World.cell? w b = some (vS o1 k1 k2)∧R (vB (decide ((↑k1:Int)≤a))) w)
theorem nf (a:Int) (b:Addr) (w:World) (R:Value→WP) (h:om a b w R):aC Tryz.prog 152 [(.int .i64 a),(.pointer (some b))] w R:=rv Tryz.func152 nb (by kernel_rfl) h

abbrev wY:FuncId:=153
def tM:bj:={ rngs:=[],loops:=[],joins:=[],blocks:=[] }
def u5 (a:Int) (b c d:Addr) (w:World) (R:Value→WP):Prop :=  ∃ o1 k1 k2,World.cell? w b = some (vS o1 k1 k2)∧new w (oC [iI a] 3) fun k3 w1=>az Proofs.Tryz.prog (f_ 24 (Array.mk [vS o1 k1 k2,vS (some (aM k3)) 1 1])) w1 fun v1 w2=>∃ o2 k4 k5,v1 = vS o2 k4 k5∧st1 w2 b (vS o2 k4 k5) fun w3=>∃ o3 k6 k7,World.cell? w3 c = some (vS o3 k6 k7)∧∃ o4 k8 k9,World.cell? w3 b = some (vS o4 k8 k9)∧idx o3 k6 a 1 fun a1=>st1 w3 a1 (iI (↑k8:Int)) fun w4=>∃ o5 k10 k11,World.cell? w4 d = some (vS o5 k10 k11)∧new w4 (oC [iI a,iI 0] 213) fun k12 w5=>az Proofs.Tryz.prog (f_ 211 (Array.mk [vS o5 k10 k11,vS (some (aM k12)) 1 1])) w5 fun v2 w6=>∃ o6 k13 k14,v2 = vS o6 k13 k14∧st1 w6 d (vS o6 k13 k14) fun w7=>R (vT (Array.mk [])) w7
theorem tN (a:Int) (b c d:Addr) (w:World) (R:Value→WP) (h:u5 a b c d w R):aC Tryz.prog 153 [(.int .i64 a),(.pointer (some b)),(.pointer (some c)),(.pointer (some d))] w R:=rv Tryz.func153 tM (by kernel_rfl) h

end Go.Proofs.YtngdohpikfcifaaGreatDoor
namespace Go.V
def F_ (l:List (Nat × Nat)):List Value:=l.flatMap fun x=>[.int .i64 (x.1:Int),.int .i64 (x.2:Int)]
theorem Ea:∀ l,(F_ l).length = l.length * 2
 | []=>rfl
 | x :: l=>by
  have:=Ea l
  unfold F_ at this ⊢
  rw [Tg,Sx,this]; simp; omega
theorem FU (l:List (Nat × Nat)) (a b:Nat):F_ l ++ [Value.int .i64 (a:Int),.int .i64 (b:Int)] = F_ (l ++ [(a,b)]):=by simp [F_]
def QJ (g:List Nat):List Int:=(g.map Int.ofNat).mergeSort fun x y=>decide (x≤y)
theorem MB {gs:List (List Nat)} (h:∀ g∈gs,g≠[]):gs.length≤gs.flatten.length:=by
 induction gs with
 | nil=>simp
 | cons g gs ih =>
  have h1:=ih fun x hx=>h x (by simp [hx])
  have h2:=List.length_pos_iff.2 (h g (by simp))
  rw [T8,Sx,S4]; omega
theorem bw.Good.ne {E:Nat→List Nat} {gs:List (List Nat)} (h:bw.Good E gs):∀ g∈gs,g≠[]:=fun g hg=>by
 obtain ⟨g1,g2,e⟩:=TQ hg
 exact (h.2 g1 g g2 e).1
theorem bw.Good.len {E:Nat→List Nat} {gs:List (List Nat)} {N:Nat} (h:bw.Good E gs) (hl:∀ v∈gs.flatten,v < N):gs.length≤N∧∀ g∈gs,g.length≤N:=by
 have h1:=MB h.ne
 have h2:=bw.MA h.1 hl
 refine ⟨by omega,fun g hg=>?_⟩
 obtain ⟨g1,g2,e⟩:=TQ hg
 rw [e] at h2; simp at h2; omega
end Go.V
namespace Go.Proofs.YtngdohpikfcifaaGreatDoor
open Go.V
abbrev Ls:=(Option Addr × Nat) × List Int
def Bp (p:Ls):Value:=.slice p.1.1 p.2.length p.1.2
def yv (p:Ls):aw:=own 1 p.1.1 p.2.length p.1.2 (iv p.2)
variable {w:World} {L:List aw}
abbrev tO (ko kl kw bl N:Nat) (oa:Option Addr) (oc:Nat) (wa:Option Addr) (wc:Nat) (op low:List Nat) (wk:List (Nat × Nat)):List aw :=
 [aR ko [.slice oa op.length oc],own 1 oa op.length oc (mC op),aR kl [.slice (some ⟨bl,0,none⟩) N N],aR bl (mC low),aR kw [.slice wa wk.length wc],own 2 wa wk.length wc (F_ wk)]
theorem IJ {ko kl kw bl N n:Nat} {oa:Option Addr} {oc:Nat} {wa:Option Addr} {wc:Nat} {op low:List Nat} {wk:List (Nat × Nat)}
  (h:St w (tO ko kl kw bl N oa oc wa wc op low wk ++ L)) (hN:low.length = N) (hn:n < N) (ho:op.length < N) (hw:wk.length < N) (hb:N * 24≤140737488355328) :
  aC Tryz.prog wY [.int .i64 (n:Int),.pointer (some (aM ko)),.pointer (some (aM kl)),.pointer (some (aM kw))] w fun v w'=>v = .tuple (Array.mk []) ∧
   ∃ oa oc wa wc,St w' (tO ko kl kw bl N oa oc wa wc (op ++ [n]) (low.set n (op.length + 1)) (wk ++ [(n,0)]) ++ L):=by
 refine tN (n:Int) (aM ko) (aM kl) (aM kw) w _ ?_
 refine ⟨_,_,_,(ai 0 h.l).cell0 (sub.refl _),ah h fun k3 w1 h=>?_⟩
 refine (aQ aK (rfl:ag Ty _ = .slice _) (rfl:ag Ty _ = .slice _) rfl rfl rfl (h.pick 7 [0,2,1,3,4,5,6]) rfl (by simp [aS]) (by show (op.length + 1) * 8≤_; omega) (by omega)).mono ?_
 rintro _ w2 ⟨oa',oc',rfl,h⟩
 rw [Lz] at h
 refine ⟨_,_,_,rfl,bg (h.pick 7 [2,0,3,4,5,6]) (by simp) fun w3 h=>?_⟩
 refine ⟨_,_,_,(ai 2 h.l).cell0 (sub.refl _),_,_,_,(ai 0 h.l).cell0 (sub.refl _),aq rfl hn ?_⟩
 rw [aO]
 refine bg (h.pick 6 [3,0,1,2,4,5]) (by simp [mC]; omega) fun w4 h=>?_
 refine ⟨_,_,_,(ai 4 h.l).cell0 (sub.refl _),ah h fun k12 w5 h=>?_⟩
 refine (aQ aK (rfl:ag Ty _ = .slice _) (rfl:ag Ty _ = .slice _) rfl rfl rfl (h.pick 7 [0,6,1,2,3,4,5]) rfl (by simp [aS]) (by show (wk.length + 1) * 16≤_; omega) (by omega)).mono ?_
 rintro _ w6 ⟨wa',wc',rfl,h⟩
 refine ⟨_,_,_,rfl,bg (h.pick 7 [6,0,2,3,4,5]) (by simp) fun w7 h=>⟨rfl,oa',oc',wa',wc',?_⟩⟩
 have l1:(op ++ [n]).length = op.length + 1:=by simp
 have l2:(wk ++ [(n,0)]).length = wk.length + 1:=by simp
 unfold tO
 rw [l1,l2,← wb,← FU]
 exact h.pick 6 [3,4,5,2,0,1]
end Go.Proofs.YtngdohpikfcifaaGreatDoor
namespace Go.V
section
variable {w:World} {L:List aw}
theorem wZ {l:List (Nat × Nat)}:∀ {i n k:Nat},l[i]? = some (n,k)→(F_ l)[i * 2]? = some (.int .i64 (n:Int))∧(F_ l)[i * 2 + 1]? = some (.int .i64 (k:Int)):=by
 induction l with
 | nil=>intro i n k h; simp at h
 | cons x l ih =>
  intro i n k h
  have e:F_ (x :: l) = Value.int .i64 (x.1:Int) :: Value.int .i64 (x.2:Int) :: F_ l:=rfl
  rw [e]
  cases i with
  | zero=>simp at h; subst h; simp
  | succ i =>
   simp only [TV] at h
   have:=ih h
   rw [show (i + 1) * 2 = i * 2 + 1 + 1 from by omega,show i * 2 + 1 + 1 + 1 = (i * 2 + 1) + 1 + 1 from rfl]
   simpa using this
theorem MC {l:List (Nat × Nat)}:∀ {i n k:Nat} (k' : Nat),l[i]? = some (n,k)→(F_ l).set (i * 2 + 1) (.int .i64 (k' : Int)) = F_ (l.set i (n,k')):=by
 induction l with
 | nil=>intro i n k k' h; simp at h
 | cons x l ih =>
  intro i n k k' h
  have e:F_ (x :: l) = Value.int .i64 (x.1:Int) :: Value.int .i64 (x.2:Int) :: F_ l:=rfl
  rw [e]
  cases i with
  | zero=>simp at h; subst h; rfl
  | succ i =>
   simp only [TV] at h
   rw [show (i + 1) * 2 + 1 = (i * 2 + 1) + 1 + 1 from by omega,List.set_cons_succ,List.set_cons_succ,ih k' h]; rfl
theorem St.Rf {M Q L:List aw} (h:St w (M ++ (Q ++ L))):St w (Q ++ (M ++ L)):=h.perm (by
 rw [← SI,← SI]; exact List.perm_append_comm.append_right L)
theorem MD (xs:List Nat):mC xs = iv (xs.map Int.ofNat):=by simp [mC,iv]
end
def cK (S:List bw.Sc):List (Nat × Nat):=(S.map fun s=>(s.1,s.2.1)).reverse
theorem bY (n k:Nat) (r:List Nat) (t:List bw.Sc):cK ((n,k,r) :: t) = cK t ++ [(n,k)]:=by simp [cK]
theorem Bq:∀ (S:List bw.Sc),(cK S).length≤(bw.aA S).length
 | []=>by simp [cK,bw.aA]
 | (n,k,r) :: t=>by
  have:=Bq t
  rw [bY,bw.bJ,Sx]; simp; omega
def lf (low:List Nat) (v:Nat):Nat:=low.getD v 0
theorem lR {low:List Nat} {i x:Nat} (h:i < low.length):lf (low.set i x) = bw.zD (lf low) i x:=by
 funext j
 unfold lf bw.zD
 rw [Sq,TB]
 by_cases e:j = i
 ·subst e; simp [h]
 ·rw [Sr (fun h=>e h.symm),Sr e]; exact (Sq).symm
theorem Br {low:List Nat} {i:Nat} (h:i < low.length):low[i]? = some (lf low i):=by
 unfold lf; rw [Sq,Sm h]; rfl
def u6 (mp:List (Int × Value)):List bw.Sc→Prop
 | []=>True
 | (n,_,_) :: t=>assoc (n:Int) mp = some (.int .i64 (((bw.aA t).length + 1:Nat):Int))∧u6 mp t
theorem u6.put {mp:List (Int × Value)} {m:Nat} {v:Value}:∀ (S:List bw.Sc),u6 mp S→(∀ s∈S,s.1≠m)→u6 (bx (m:Int) v mp) S
 | [],_,_=>trivial
 | (n,k,r) :: t,⟨h1,h2⟩,hn=>by
  refine ⟨?_,u6.put t h2 fun s hs=>hn s (by simp [hs])⟩
  have:=hn (n,k,r) (by simp)
  rw [db,Sr (by simp at this ⊢; omega)]
  exact h1
theorem Qd {S:List bw.Sc}:∀ s∈S,s.1∈bw.aA S:=by
 induction S with
 | nil=>intro s hs; simp at hs
 | cons x t ih =>
  obtain ⟨n,k,r⟩:=x
  intro s hs
  rcases SA.1 hs with rfl | hs
  ·simp [bw.aA]
  ·simp [bw.aA,ih s hs]
end Go.V
namespace Go.V
def En (es:List (List Int)) (n:Nat):List Nat:=(es.getD n []).map Int.toNat
def yw (es:List (List Int)):Prop:=∀ l∈es,∀ x∈l,0≤x∧x < (es.length:Int)
theorem Ho {es:List (List Int)} {n:Nat} {l:List Int} (h:es[n]? = some l):En es n = l.map Int.toNat:=by
 unfold En; rw [Sq,h]; rfl
theorem IK {es:List (List Int)} (hR:yw es) {n m:Nat} (h:m∈En es n):m < es.length:=by
 unfold En at h
 rw [Sq] at h
 cases hl:es[n]? with
 | none=>rw [hl] at h; simp at h
 | some l =>
  rw [hl] at h
  obtain ⟨x,hx,rfl⟩:=SG.1 h
  have:=hR l (Sl hl) x hx
  omega
def kU (low:List Nat) (n:Nat):List bw.Sc→List Nat
 | []=>low
 | (u,_,_) :: _=>low.set u (min (lf low u) (lf low n))
def eR (x:Nat) (low:List Nat) (g:List Nat):List Nat:=g.foldl (fun l m=>l.set m x) low
theorem u7 (x:Nat):∀ (g low:List Nat),(eR x low g).length = low.length
 | [],_=>rfl
 | m :: g,low=>by show (eR x (low.set m x) g).length = _; rw [u7 x g]; simp
theorem FV (x:Nat) (low g:List Nat) (m:Nat):eR x low (g ++ [m]) = (eR x low g).set m x:=by simp [eR]
theorem CX (x:Nat):∀ (g low:List Nat),(∀ m∈g,m < low.length)→lf (eR x low g) = fun v=>if v∈g then x else lf low v
 | [],_,_=>by funext v; simp [eR]
 | m :: g,low,h=>by
  have:=CX x g (low.set m x) (fun y hy=>by rw [SL]; exact h y (by simp [hy]))
  show lf (eR x (low.set m x) g) = _
  rw [this,lR (h m (by simp))]
  funext v
  by_cases e:v∈g
  ·simp [e]
  ·by_cases e2:v = m
   ·subst e2; simp [e,bw.zD]
   ·simp [e,e2,bw.zD]
structure WD where
 S:List bw.Sc
 low:List Nat
 gs:List (List Nat)
 mp:List (Int × Value)
 oa:Option Addr
 oc:Nat
 wa:Option Addr
 wc:Nat
end Go.V
namespace Go.Proofs.YtngdohpikfcifaaGreatDoor
open Go.V
variable {w:World} {L:List aw} {es:List (List Int)} {a:Option Addr} {N c l:Nat} {d:FuncId} {e:List Value} {Q:List (List Nat)→List aw}
theorem FW {xs:List Int} (hr:aW (hp w) xs a l) (hb:xs.length * 8≤140737488355328) (hb2:xs.length≤9223372036854775807):aC Tryz.prog mv [.slice a l c] w fun v w'=>∃ o c',v = .slice o xs.length c'∧St w' (own 1 o xs.length c' (iv xs) :: all w):=by
 refine kv _ _ _ w _ ?_
 have hl:=hr.1
 cases a with
 | none =>
  have h0:xs = []:=by
   cases xs with
   | nil=>rfl
   | cons t ts=>obtain ⟨ad,_,e,_⟩:=hr.2 0 t rfl; cases e
  subst h0
  exact ⟨none,0,rfl,aB 1 (St.all w)⟩
 | some ad =>
  refine ah (St.all w) fun b w1 h1=>?_
  have h2:St w1 (own 1 (some ⟨b,0,none⟩) 0 0 [] :: all w):=eX (cs:=[]) h1 rfl rfl (SF _)
  have hr:=hr.mono h1.aX
  refine (eY aK (rfl:ag Ty _ = .slice _) rfl rfl rfl h2 (n:=l) (news:=iv xs) (dE aK (rfl:ag Ty _ = .slice _) (by rw [gi,hl,Tp]) (by
    rcases hr.iv with h0 | ⟨ad',e,hc⟩
    ·exact .inl (by have:=congrArg List.length h0; rw [gi,hl] at this; exact this)
    ·cases e; exact .inr ⟨ad,rfl,fun j u hj=>kO (hc j u hj)⟩) (by
   intro u hu
   obtain ⟨t,_,rfl⟩:=SG.1 hu
   rfl)) (by show (0 + l) * 8≤_; omega) (by omega)).mono ?_
  rintro _ w2 ⟨a',c',rfl,h3⟩
  rw [Tn,← hl] at h3 ⊢
  rw [To] at h3
  exact ⟨_,_,_,rfl,a',c',rfl,h3⟩
def QK (ko kl kw bl km N fr:Nat) (es:List (List Int)) (Q:List (List Nat)→List aw) (L:List aw) (x:WD) (w:World):Prop :=
 x.low.length = N∧bw.Inv (En es) N (lf x.low) x.S x.gs∧(∀ v,v≤fr→lf x.low v≠0)∧u6 x.mp x.S ∧
  St w (tO ko kl kw bl N x.oa x.oc x.wa x.wc (bw.aA x.S) x.low (cK x.S) ++ (mapA km x.mp :: (Q x.gs ++ L)))
def O7 (d:FuncId) (e:List Value) (es:List (List Int)) (Q:List (List Nat)→List aw):Prop :=
 ∀ (gs:List (List Nat)) (g:List Nat) (F:List aw) (w:World) (o:Option Addr) (gc:Nat),bw.Good (En es) (gs ++ [g])→(∀ v∈(gs ++ [g]).flatten,v < es.length) →
  St w (own 1 o g.length gc (mC g) :: (Q gs ++ F))→aC Tryz.prog d (.slice o g.length gc :: e) w fun v w'=>v = .tuple (Array.mk [])∧St w' (Q (gs ++ [g]) ++ F)
theorem Qe (hfl:Fn d = true) (hD:O7 d e es Q) (hE:∀ gs h,aE (Q gs ++ L) h→aW h es a N) (hR:yw es) (hB:∀ l∈es,l.length * 8≤140737488355328) (hb:N * 24≤140737488355328) (h:St w (Q [] ++ L)) :
  aC Tryz.prog Bo [.slice a N c,.func (.func d) (Array.mk []) ⟨e⟩] w fun v w'=>v = .tuple (Array.mk [])∧∃ gs,bw.Good (En es) gs∧(∀ v,v∈gs.flatten↔v < N)∧St w' (Q gs ++ L):=by
 refine yu a N c d e w _ ?_
 have hN:es.length = N:=(hE [] _ h.l).1
 refine ⟨⟨by omega,rfl,by omega⟩,ah h fun bl w1 h=>ah h fun kl w2 h=>bg h (by simp) fun w3 h=>⟨⟨by omega,by omega⟩,ah h fun ko w4 h=>ah h fun kw w5 h=>?_⟩⟩
 have h:St w5 (tO ko kl kw bl N none 0 none 0 [] (List.replicate N 0) [] ++ (Q [] ++ L)):=by
  have e1:gG (Int.toNat (N:Int)) [iI 0] = mC (List.replicate N 0):=by rw [dB]; simp [mC]
  rw [e1] at h
  have h:=aB 2 (aB 1 h)
  exact h.pick 6 [3,1,4,5,2,0]
 refine ⟨fun z w'=>∃ k:Nat,z = k∧k≤N∧∃ gs low oa oc wa wc,low.length = N∧bw.Inv (En es) N (lf low) [] gs∧(∀ v,v < k→lf low v≠0)∧St w' (tO ko kl kw bl N oa oc wa wc [] low [] ++ (Q gs ++ L)),
  fun z _=>N - z.toNat,⟨0,rfl,Sv _,[],List.replicate N 0,none,0,none,0,by simp,?_,fun v hv=>by omega,h⟩,?_⟩
 ·have:lf (List.replicate N 0) = fun _=>0:=by
   funext v; unfold lf; rw [Sq,Tc]; split <;> rfl
  rw [this]; exact bw.Inv.start _ _
 rintro _ z w6 ⟨k,rfl,hk,gs,low,oa,oc,wa,wc,hl,hI,hs,h⟩
 refine ae (fun h1=>?_) fun h1=>?_
 rotate_left
 ·have h1:k = N:=by have:=Sj h1; omega
  subst h1
  refine ⟨rfl,gs,hI.good,fun v=>⟨fun hv=>hI.lt v (by simpa [bw.aA] using hv),fun hv=>?_⟩,?_⟩
  ·have:=hI.seen hv (hs v hv)
   simpa [bw.aA] using this
  ·exact h.tail.tail.tail.tail.tail.tail
 have h1:k < N:=by have:=Si h1; omega
 refine ⟨_,_,_,(ai 2 h.l).cell0 (sub.refl _),aq rfl h1 ⟨_,(ai 3 h.l).cell (sub.refl _) (j:=k) (gk (Br (by omega))),?_⟩⟩
 refine ae (fun h2=>?_) fun h2=>?_
 ·have h2:=Si h2
  refine ⟨⟨by omega,by omega⟩,⟨k + 1,rfl,h1,gs,low,oa,oc,wa,wc,hl,hI,fun v hv=>?_,h⟩,bA h1⟩
  by_cases ev:v = k
  ·subst ev; omega
  ·exact hs v (by omega)
 have h2:lf low k = 0:=by have:=Sj h2; omega
 refine mg h fun km w7 h=>?_
 have h:=dC (κ:=Int) h
 refine ⟨_,_,_,(ai 1 h.l).cell0 (sub.refl _),⟨by simp,by simp⟩,(cH (κ:=Int) aK (rfl:ag Ty _ = .map _ _) bz h (k:Int) _).mono ?_⟩
 rintro _ w8 h
 refine (IJ (n:=k) (h.pick 7 [1,2,3,4,5,6,0]) hl h1 (by simp; omega) (by simp; omega) hb).mono ?_
 rintro _ w9 ⟨rfl,oa,oc,wa,wc,h⟩
 refine ⟨rfl,fun w'=>∃ x,QK ko kl kw bl km N k es Q L x w',fun w'=>Lw (QK ko kl kw bl km N k es Q L) (fun x=>bw.todo (En es) N (lf x.low) x.S) w',?_,?_⟩
 ·refine ⟨⟨[(k,0,[])],low.set k 1,gs,_,oa,oc,wa,wc⟩,by simp [hl],?_,?_,?_,h⟩
  ·show bw.Inv _ _ (lf (low.set k 1)) _ _
   rw [lR (by omega)]
   exact hI.root h1 h2
  ·intro v hv
   show lf (low.set k 1) v≠0
   rw [lR (by omega)]
   by_cases ev:v = k
   ·subst ev; rw [bw.aY]; omega
   ·rw [bw.cM ev]; exact hs v (by omega)
  ·exact ⟨by show assoc _ [(_,_)] = _; simp [assoc,bw.aA],trivial⟩
 intro _ w10 hw
 obtain ⟨⟨S,low2,gs2,mp,oa,oc,wa,wc⟩,⟨hl2,hI2,hs2,hM,h⟩,hm⟩:=Dz hw
 simp only at hl2 hI2 hs2 hM h hm
 refine ⟨_,_,_,(ai 4 h.l).cell0 (sub.refl _),?_⟩
 refine ae (fun h3=>?_) fun h3=>?_
 rotate_left
 ·have h3:=Sj h3
  cases S with
  | cons x t=>obtain ⟨n,j,r⟩:=x; rw [bY] at h3; simp at h3
  | nil =>
   refine ⟨⟨by omega,by omega⟩,⟨k + 1,rfl,h1,gs2,low2,oa,oc,wa,wc,hl2,hI2,fun v hv=>hs2 v (by omega),?_⟩,bA h1⟩
   exact h.pick 7 [0,1,2,3,4,5]
 cases S with
 | nil=>have h3:=Si h3; simp [cK] at h3
 | cons x t =>
 obtain ⟨n,k0,r⟩:=x
 have hlen:=hI2.len
 have hwk:=Bq ((n,k0,r) :: t)
 have hw1:(cK ((n,k0,r) :: t)).length = (cK t).length + 1:=by rw [bY]; simp
 have hnN:n < N:=hI2.lt n (by simp [bw.aA])
 obtain ⟨wad,hwa,_⟩:=bH (h.pick 7 [5,0,1,2,3,4,6]) (j:=(cK t).length * 2) (wZ (i:=(cK t).length) (n:=n) (k:=k0) (by rw [bY]; simp)).1
 refine ⟨_,_,_,(ai 4 h.l).cell0 (sub.refl _),_,_,_,(ai 4 h.l).cell0 (sub.refl _),⟨by omega,by omega⟩,?_⟩
 have ei:((cK ((n,k0,r) :: t)).length:Int) - 1 = ((cK t).length:Int):=by omega
 rw [ei]
 refine ay hwa (by omega) ?_
 rw [aH]
 -- the steps of one node
 let P2:Nat × List Nat→World→Prop:=fun p w'=>p.2.length = N∧bw.Inv (En es) N (lf p.2) ((n,p.1,r) :: t) gs2∧(∀ v,v≤k→lf p.2 v≠0)∧bw.todo (En es) N (lf p.2) ((n,p.1,r) :: t)≤Lw (QK ko kl kw bl km N k es Q L) (fun x=>bw.todo (En es) N (lf x.low) x.S) w10 ∧
  St w' (tO ko kl kw bl N oa oc wa wc (bw.aA ((n,p.1,r) :: t)) p.2 (cK ((n,p.1,r) :: t)) ++ (mapA km mp :: (Q gs2 ++ L)))
 refine ⟨fun w'=>∃ p,P2 p w',fun w'=>Lw P2 (fun p=>(En es n).length - p.1) w',⟨(k0,low2),hl2,hI2,hs2,by rw [← hm]; exact SF _,h⟩,?_⟩
 intro _ w11 hw
 obtain ⟨⟨j,low3⟩,⟨hl3,hI3,hs3,ht3,h⟩,hm3⟩:=Dz (f:=fun p=>(En es n).length - p.1) hw
 simp only at hl3 hI3 hs3 ht3 h hm3
 intro w12 hd
 have h:=h.eq (aD hd)
 obtain ⟨el,hel⟩ : ∃ el,es[n]? = some el:=⟨es[n]'(by omega),Sm _⟩
 have hen:=Ho hel
 have rE0:aW (hp w12) es a N:=hE gs2 _ h.tail.tail.tail.tail.tail.tail.tail.l
 obtain ⟨el',ead,ev,hel',hea,hrow,o6,l6,c6,rfl,hle6,hrd6⟩:=rE0.get (i:=n) hnN
 rw [hel] at hel'; cases hel'
 rw [aH,show n * nI.n (List Int) = n from Tp n] at hrow
 have hel6:el.length = l6:=hrd6.1
 have henl:(En es n).length = l6:=by rw [hen,Ss]; exact hel6
 have hjle:j≤(En es n).length:=hI3.ok.1.le
 have hBl:=hB el (Sl hel)
 have hwt:(cK ((n,j,r) :: t))[(cK t).length]? = some (n,j):=by rw [bY]; simp
 have hwl:(cK ((n,j,r) :: t)).length = (cK t).length + 1:=by rw [bY]; simp
 obtain ⟨wad',hwa',hc1⟩:=bH (h.pick 7 [5,0,1,2,3,4,6]) (wZ hwt).1
 obtain ⟨wad'',hwa'',hc2⟩:=bH (h.pick 7 [5,0,1,2,3,4,6]) (wZ hwt).2
 rw [hwa] at hwa' hwa''
 cases hwa'; cases hwa''
 rw [← add_add] at hc2
 have cw:∀ {u:World} {ad:Addr} {v:Value},hp u = hp w12→w12.cell? ad = some v→u.cell? ad = some v:=fun hu h=>by rw [fv hu]; exact h
 refine ⟨fun u=>hp u = hp w12,rfl,(j:Int),fun u hu=>cw hu hc2,(n:Int),fun u hu=>cw hu hc1,aq hea hnN ⟨o6,l6,c6,fun u hu=>cw hu (hrow.cell0 (sub.refl _)),?_⟩⟩
 refine ae (fun h4=>?_) fun h4=>?_
 ·have h4:j < l6:=by have:=Si h4; omega
  intro w16 hd2
  have h:=h.eq (aD hd2)
  have e16:=aD hd2
  obtain ⟨mI,hmI⟩ : ∃ mI,el[j]? = some mI:=⟨el[j]'(by omega),Sm _⟩
  obtain ⟨m,rfl⟩ : ∃ m:Nat,mI = (m:Int):=⟨mI.toNat,by have:=hR el (Sl hel) mI (Sl hmI); omega⟩
  have hmE:(En es n)[j]? = some m:=by rw [hen,Sn,hmI]; rfl
  have hmN:m < N:=by have:=IK hR (Sl hmE); omega
  obtain ⟨ead5,hea5,hc5⟩:=hrd6.at hmI
  have cw:∀ {u:World} {ad:Addr} {v:Value},hp u = hp w16→w12.cell? ad = some v→u.cell? ad = some v:=fun hu h=>cw (hu.trans e16) h
  refine ⟨fun u=>hp u = hp w16,rfl,(n:Int),fun u hu=>cw hu hc1,aq hea hnN ⟨o6,l6,c6,fun u hu=>cw hu (hrow.cell0 (sub.refl _)),(j:Int),fun u hu=>cw hu hc2,aq hea5 h4 ⟨(m:Int),fun u hu=>hc5 u (by rw [hu,e16]; exact sub.refl _),(j:Int),cw rfl hc2,⟨by omega,by omega⟩,?_⟩⟩⟩
  rw [add_add]
  refine gh (h.pick 7 [5,0,1,2,3,4,6]) hwa (by rw [Ea]; omega) fun w21 h=>?_
  have ej:((j:Int) + 1) = ((j + 1:Nat):Int):=by omega
  rw [ej,MC (j + 1) hwt] at h
  have h:St w21 (tO ko kl kw bl N oa oc wa wc (bw.aA ((n,j + 1,r) :: t)) low3 (cK ((n,j + 1,r) :: t)) ++ (mapA km mp :: (Q gs2 ++ L))):=by
   have e1:(cK ((n,j,r) :: t)).set (cK t).length (n,j + 1) = cK ((n,j + 1,r) :: t):=by rw [bY,bY,T3 _ _ (SF _)]; simp
   have e2:(cK ((n,j + 1,r) :: t)).length = (cK ((n,j,r) :: t)).length:=by rw [hwl,bY]; simp
   rw [e1] at h
   unfold tO
   rw [e2]
   exact h.pick 7 [1,2,3,4,5,0,6]
  have hlen3:=hI3.len
  have hmE2:lf low3 m = 0→m∉bw.aA ((n,j,r) :: t):=fun h0 hm=>(hI3.un m hmN).1 h0 (by simp only [Sp]; exact Or.inl hm)
  refine ⟨_,_,_,(ai 2 h.l).cell0 (sub.refl _),aq rfl hmN ⟨_,(ai 3 h.l).cell (sub.refl _) (j:=m) (gk (Br (by omega))),?_⟩⟩
  refine ae (fun h5=>?_) fun h5=>?_
  ·have h5:lf low3 m = 0:=by have:=eq_of_beq h5; omega
   have FN:(bw.aA ((n,j + 1,r) :: t)).length < N:=by
    have h6:=hI3.push hmE hmN h5
    have h7:=h6.len
    have e1:bw.aA ((m,0,[]) :: (n,j + 1,r) :: t) = bw.aA ((n,j + 1,r) :: t) ++ [m]:=rfl
    rw [e1,Sx] at h7; simp at h7; omega
   have hwl2:=Bq ((n,j + 1,r) :: t)
   refine ⟨_,_,_,(ai 0 h.l).cell0 (sub.refl _),⟨by omega,by omega⟩,(cH (κ:=Int) aK (rfl:ag Ty _ = .map _ _) bz (h.pick 7 [6,0,1,2,3,4,5]) (m:Int) _).mono ?_⟩
   rintro _ w22 h
   refine (IJ (n:=m) (h.pick 7 [1,2,3,4,5,6,0]) hl3 hmN FN (by omega) hb).mono ?_
   rintro _ w23 ⟨rfl,oa',oc',wa',wc',h⟩
   have hnew:QK ko kl kw bl km N k es Q L ⟨(m,0,[]) :: (n,j + 1,r) :: t,low3.set m ((bw.aA ((n,j + 1,r) :: t)).length + 1),gs2,bx (m:Int) (.int .i64 (((bw.aA ((n,j + 1,r) :: t)).length:Int) + 1)) mp,oa',oc',wa',wc'⟩ w23:=by
    refine ⟨by simp [hl3],?_,?_,⟨?_,?_⟩,?_⟩
    ·show bw.Inv _ _ (lf (low3.set m _)) _ _
     rw [lR (by omega)]
     exact hI3.push hmE hmN h5
    ·intro v hv
     show lf (low3.set m _) v≠0
     rw [lR (by omega)]
     by_cases ev:v = m
     ·subst ev; rw [bw.aY]; omega
     ·rw [bw.cM ev]; exact hs3 v hv
    ·show assoc _ (bx _ _ _) = _
     rw [db,Sz rfl]; rfl
    ·exact u6.put ((n,j + 1,r) :: t) hM fun s hs e=>hmE2 h5 (by rw [← e]; exact Qd (S:=(n,j + 1,r) :: t) s hs)
    ·have e1:cK ((m,0,[]) :: (n,j + 1,r) :: t) = cK ((n,j + 1,r) :: t) ++ [(m,0)]:=bY _ _ _ _
     show St w23 (tO _ _ _ _ _ _ _ _ _ (bw.aA ((n,j + 1,r) :: t) ++ [m]) _ (cK ((m,0,[]) :: (n,j + 1,r) :: t)) ++ _)
     rw [e1]
     exact h
   refine ⟨rfl,⟨_,hnew⟩,?_⟩
   have l1:=AU (f:=fun x=>bw.todo (En es) N (lf x.low) x.S) hnew
   have l2:=bw.J6 hI3 hmE hmN h5 ((bw.aA ((n,j + 1,r) :: t)).length + 1) (by omega)
   simp only at l1
   rw [lR (by omega)] at l1
   exact Nat.lt_of_le_of_lt l1 (TR l2 ht3)
  ·have h5:lf low3 m≠0:=fun e=>by rw [e] at h5; simp at h5
   intro w24 hd3
   have h:=h.eq (aD hd3)
   have cL:∀ u,hp u = hp w24→u.cell? (aM kl) = some (.slice (some (aM bl)) N N):=fun u hu=>by rw [fv hu]; exact (ai 2 h.l).cell0 (sub.refl _)
   have cI:∀ u,hp u = hp w24→∀ v,v < N→u.cell? ((aM bl).add v) = some (.int .i64 (lf low3 v:Int)):=fun u hu v hv=>by rw [fv hu]; exact (ai 3 h.l).cell (sub.refl _) (j:=v) (gk (Br (by omega)))
   have e24:=aD hd3
   have hwt2:(cK ((n,j + 1,r) :: t))[(cK t).length]? = some (n,j + 1):=by rw [bY]; simp
   obtain ⟨wad3,hwa3,hc3⟩:=bH (h.pick 7 [5,0,1,2,3,4,6]) (wZ hwt2).1
   rw [hwa] at hwa3; cases hwa3
   refine ⟨fun u=>hp u = hp w24,rfl,_,_,_,cL,(n:Int),fun u hu=>by rw [fv hu]; exact hc3,_,_,_,cL,(n:Int),fun u hu=>by rw [fv hu]; exact hc3,aq rfl hnN ⟨_,fun u hu=>cI u hu n hnN,_,_,_,cL,aq rfl hmN ⟨_,fun u hu=>cI u hu m hmN,aq rfl hnN ?_⟩⟩⟩
   rw [aO]
   have emin:(if (lf low3 m:Int) < (lf low3 n:Int) then (lf low3 m:Int) else (lf low3 n:Int)) = ((min (lf low3 n) (lf low3 m):Nat):Int):=by split <;> omega
   rw [emin]
   refine bg (h.pick 7 [3,0,1,2,4,5,6]) (by simp [mC]; omega) fun w32 h=>?_
   rw [wb] at h
   have hnew:P2 (j + 1,low3.set n (min (lf low3 n) (lf low3 m))) w32:=by
    have eset:=lR (low:=low3) (i:=n) (x:=min (lf low3 n) (lf low3 m)) (by omega)
    have hlook:=hI3.look hmE hmN h5
    refine ⟨by simp [hl3],?_,?_,?_,h.pick 7 [1,2,3,0,4,5,6]⟩
    ·show bw.Inv _ _ (lf (low3.set n _)) _ _
     rw [eset]; exact hlook
    ·intro v hv
     show lf (low3.set n _) v≠0
     rw [eset]
     by_cases ev:v = n
     ·subst ev; rw [bw.aY]
      have:=hI3.ok.1.pos v (by simp)
      omega
     ·rw [bw.cM ev]; exact hs3 v hv
    ·show bw.todo _ _ (lf (low3.set n _)) _≤_
     rw [eset]
     refine SK ?_ ht3
     unfold bw.todo
     rw [bw.yi (low:=lf low3)]
     ·simp only [S0,List.sum_cons]; omega
     ·intro v hv
      by_cases ev:v = n
      ·subst ev; rw [bw.aY]
       have:=hI3.ok.1.pos v (by simp)
       constructor <;> intro <;> omega
      ·rw [bw.cM ev]
   refine ⟨⟨_,hnew⟩,?_⟩
   have l1:=AU (f:=fun p=>(En es n).length - p.1) hnew
   have l2:(En es n).length - (j + 1) < (En es n).length - j:=by omega
   exact Nat.lt_of_le_of_lt l1 (TR l2 (Nat.le_of_eq hm3))
 ·have h4:j = (En es n).length:=by have:=Sj h4; omega
  have hlen3:=hI3.len
  refine ⟨(n:Int),hc1,_,_,_,(ai 4 h.l).cell0 (sub.refl _),_,_,_,(ai 4 h.l).cell0 (sub.refl _),⟨by omega,by omega⟩,?_⟩
  have ei:((cK ((n,j,r) :: t)).length:Int) - 1 = ((cK t).length:Int):=by omega
  have hwle:=dJ (h.pick 7 [5,0,1,2,3,4,6])
  rw [ei]
  refine kR (by omega) (bg (h.pick 7 [4,0,1,2,3,5,6]) (by simp) fun w33 h=>?_)
  have h:=zQ (h.pick 7 [5,0,1,2,3,4,6]) (k:=(cK t).length) (by omega)
  have etk:(F_ (cK ((n,j,r) :: t))).take ((cK t).length * 2) = F_ (cK t):=by
   rw [bY,← FU,← Ea,List.take_left']
   rfl
  rw [etk] at h
  have h:St w33 (tO ko kl kw bl N oa oc (fw wa 0 wc 2) wc (bw.aA ((n,j,r) :: t)) low3 (cK t) ++ (mapA km mp :: (Q gs2 ++ L))):=h.pick 7 [2,3,4,5,1,0,6]
  -- the one below takes over
  refine ⟨fun w'=>St w' (tO ko kl kw bl N oa oc (fw wa 0 wc 2) wc (bw.aA ((n,j,r) :: t)) (kU low3 n t) (cK t) ++ (mapA km mp :: (Q gs2 ++ L))),⟨_,_,_,(ai 4 h.l).cell0 (sub.refl _),?_⟩,?_⟩
  ·refine ae (fun h5=>?_) fun h5=>?_
   rotate_left
   ·have h5:=Sj h5
    cases t with
    | nil=>exact h
    | cons x t=>obtain ⟨u,ku,ru⟩:=x; rw [bY] at h5; simp at h5
   ·cases t with
    | nil=>have h5:=Si h5; simp [cK] at h5
    | cons x t =>
    obtain ⟨u,ku,ru⟩:=x
    have huN:u < N:=hI3.lt u (by simp [bw.aA])
    have hwu:(cK ((u,ku,ru) :: t))[(cK t).length]? = some (u,ku):=by rw [bY]; simp
    have hwul:(cK ((u,ku,ru) :: t)).length = (cK t).length + 1:=by rw [bY]; simp
    obtain ⟨wad4,hwa4,hc4⟩:=bH (h.pick 7 [5,0,1,2,3,4,6]) (wZ hwu).1
    have ei2:((cK ((u,ku,ru) :: t)).length:Int) - 1 = ((cK t).length:Int):=by omega
    refine ⟨_,_,_,(ai 4 h.l).cell0 (sub.refl _),_,_,_,(ai 4 h.l).cell0 (sub.refl _),⟨by omega,by omega⟩,?_⟩
    rw [ei2]
    refine ay hwa4 (by omega) ?_
    rw [aH]
    refine ⟨(u:Int),hc4,?_⟩
    intro w34 hd5
    have h:=h.eq (aD hd5)
    have cL:∀ v,hp v = hp w34→v.cell? (aM kl) = some (.slice (some (aM bl)) N N):=fun u hu=>by rw [fv hu]; exact (ai 2 h.l).cell0 (sub.refl _)
    have cI:∀ u,hp u = hp w34→∀ v,v < N→u.cell? ((aM bl).add v) = some (.int .i64 (lf low3 v:Int)):=fun u hu v hv=>by rw [fv hu]; exact (ai 3 h.l).cell (sub.refl _) (j:=v) (gk (Br (by omega)))
    refine ⟨fun u=>hp u = hp w34,rfl,_,_,_,cL,_,_,_,cL,aq rfl huN ⟨_,fun v hv=>cI v hv u huN,_,_,_,cL,aq rfl hnN ⟨_,fun v hv=>cI v hv n hnN,aq rfl huN ?_⟩⟩⟩
    rw [aO]
    have emin:(if (lf low3 n:Int) < (lf low3 u:Int) then (lf low3 n:Int) else (lf low3 u:Int)) = ((min (lf low3 u) (lf low3 n):Nat):Int):=by split <;> omega
    rw [emin]
    refine bg (h.pick 7 [3,0,1,2,4,5,6]) (by simp [mC]; omega) fun w40 h=>?_
    rw [wb] at h
    exact h.pick 7 [1,2,3,0,4,5,6]
  ·intro _ w41 h w42 hd4
   have h:=h.eq (aD hd4)
   obtain ⟨nx1,nx2,nx3,nx4⟩:=hI3.Qa
   have hlu:(kU low3 n t).length = N:=by cases t <;> simp [kU,hl3]
   have hlun:lf (kU low3 n t) n = lf low3 n:=by
    cases t with
    | nil=>rfl
    | cons x t =>
     obtain ⟨u,ku,ru⟩:=x
     have huN:u < N:=hI3.lt u (by simp [bw.aA])
     show lf (low3.set u _) n = _
     rw [lR (by omega),bw.cM]
     intro e
     exact nx1 (by rw [e]; simp [bw.aA])
   obtain ⟨ma1,ma2⟩:=hM
   have lk:=fun {w' : World} {L' : List aw} (h:St w' (mapA km mp :: L'))=>bW (κ:=Int) (P:=Tryz.prog) (z:=.int .i64 0) aK (rfl:ag Ty Dx = .map _ _) bz rfl rfl h (n:Int)
   rw [ma1] at lk
   have cL:∀ v,hp v = hp w42→v.cell? (aM kl) = some (.slice (some (aM bl)) N N):=fun u hu=>by rw [fv hu]; exact (ai 2 h.l).cell0 (sub.refl _)
   have cI:∀ u,hp u = hp w42→∀ v,v < N→u.cell? ((aM bl).add v) = some (.int .i64 (lf (kU low3 n t) v:Int)):=fun u hu v hv=>by rw [fv hu]; exact (ai 3 h.l).cell (sub.refl _) (j:=v) (gk (Br (by omega)))
   refine ⟨fun u=>hp u = hp w42,rfl,_,_,_,cL,aq rfl hnN ⟨_,fun v hv=>cI v hv n hnN,(lk (h.pick 7 [6,0,1,2,3,4,5])).mono ?_⟩⟩
   rintro _ w45 ⟨rfl,rfl⟩
   refine ⟨_,rfl,rfl,?_⟩
   rw [hlun]
   have FN:(bw.aA ((n,j,r) :: t)).length = (bw.aA t).length + 1 + r.length:=bw.bJ
   refine ae (fun h6=>?_) fun h6=>?_
   ·have h6:lf low3 n = (bw.aA t).length + 1:=by have:=eq_of_beq h6; omega
    have hP:=hI3.pop h4 h6
    have hgN:∀ v∈n :: r,v < N:=fun v hv=>hI3.lt v (by simp only [bw.aA,Sp]; exact Or.inl (Or.inr hv))
    have hlowU:kU low3 n t = low3∨lf (kU low3 n t) = lf low3:=by
     cases t with
     | nil=>exact .inl rfl
     | cons x t =>
      obtain ⟨u,ku,ru⟩:=x
      have huN:u < N:=hI3.lt u (by simp [bw.aA])
      right
      show lf (low3.set u _) = _
      rw [lR (by omega),hI3.R1 h6]
      funext v; unfold bw.zD; split
      ·rename_i e; rw [e]
      ·rfl
    have hlowU:lf (kU low3 n t) = lf low3:=by rcases hlowU with e | e <;> rw [e]
    have hole:=dJ (h.pick 7 [1,0,2,3,4,5,6])
    refine ⟨_,_,_,(ai 0 h.l).cell0 (sub.refl _),(lk (h.pick 7 [6,0,1,2,3,4,5])).mono ?_⟩
    rintro _ w46 ⟨rfl,rfl⟩
    have eb:((((bw.aA t).length + 1:Nat):Int) - 1) = ((bw.aA t).length:Int):=by omega
    refine ⟨_,rfl,⟨by omega,by omega⟩,?_⟩
    rw [eb]
    have hrO:aW (hp w46) ((bw.aA ((n,j,r) :: t)).map Int.ofNat) oa (bw.aA ((n,j,r) :: t)).length:=b8 (by simp) (by rw [← MD]; exact gB 1 h.l)
    have hrG:=hrO.drop (k:=(bw.aA t).length) (m:=oc) (by omega) hole
    have hdr:((bw.aA ((n,j,r) :: t)).map Int.ofNat).drop (bw.aA t).length = (n :: r).map Int.ofNat:=by
     rw [← List.map_drop]; congr 1; show (bw.aA t ++ n :: r).drop _ = _; rw [List.drop_left']; rfl
    rw [hdr] at hrG
    have hgl:(bw.aA ((n,j,r) :: t)).length - (bw.aA t).length = (n :: r).length:=by rw [FN]; simp; omega
    refine cJ (by omega) hole ((FW hrG (by simp; omega) (by simp; omega)).mono ?_)
    rintro _ w47 ⟨o25,c25,rfl,h47⟩
    have h:=h47.vK h
    have elg:((n :: r).map Int.ofNat).length = (n :: r).length:=by simp
    rw [elg,← MD] at h
    refine ⟨_,_,_,by rw [elg],_,_,_,(ai 1 h.l).cell0 (sub.refl _),(lk (h.pick 8 [7,0,1,2,3,4,5,6])).mono ?_⟩
    rintro _ w48 ⟨rfl,rfl⟩
    refine ⟨_,rfl,⟨by omega,by omega⟩,?_⟩
    rw [eb]
    refine kR (by omega) (bg (h.pick 8 [1,0,2,3,4,5,6,7]) (by simp) fun w49 h=>?_)
    have h:=zQ (h.pick 8 [2,0,1,3,4,5,6,7]) (k:=(bw.aA t).length) (by omega)
    have etk:(mC (bw.aA ((n,j,r) :: t))).take ((bw.aA t).length * 1) = mC (bw.aA t):=by
     show (mC (bw.aA t ++ n :: r)).take _ = _
     unfold mC
     rw [SU,List.take_left']
     simp
    rw [etk] at h
    have h:St w49 (own 1 o25 (n :: r).length c25 (mC (n :: r)) :: (tO ko kl kw bl N (fw oa 0 oc 1) oc (fw wa 0 wc 2) wc (bw.aA t) (kU low3 n t) (cK t) ++ (mapA km mp :: (Q gs2 ++ L)))):=h.pick 8 [2,1,0,3,4,5,6,7]
    refine ⟨fun z w'=>∃ i:Nat,z = i∧i≤(n :: r).length∧St w' (own 1 o25 (n :: r).length c25 (mC (n :: r)) :: (tO ko kl kw bl N (fw oa 0 oc 1) oc (fw wa 0 wc 2) wc (bw.aA t) (eR (N + 1) (kU low3 n t) ((n :: r).take i)) (cK t) ++ (mapA km mp :: (Q gs2 ++ L)))),
     fun z _=>(n :: r).length - z.toNat,⟨0,rfl,Sv _,h⟩,?_⟩
    rintro _ z w50 ⟨i,rfl,hi,h⟩
    refine ae (fun h7=>?_) fun h7=>?_
    ·have h7:i < (n :: r).length:=by have:=Si h7; omega
     obtain ⟨v,hv⟩ : ∃ v,(n :: r)[i]? = some v:=⟨(n :: r)[i],Sm _⟩
     have hvN:=hgN v (Sl hv)
     obtain ⟨gad,hga,hgc⟩:=bH h (gk hv)
     refine aq hga h7 ⟨_,hgc,_,_,_,(ai 3 h.l).cell0 (sub.refl _),aq rfl hvN ?_⟩
     rw [aO]
     have eN:((N:Int) + 1) = ((N + 1:Nat):Int):=by omega
     rw [eN]
     refine bg (h.pick 8 [4,0,1,2,3,5,6,7]) (by simp [mC,u7]; omega) fun w51 h=>⟨⟨by simp at h7 hi ⊢; omega,by simp at h7 hi ⊢; omega⟩,⟨i + 1,rfl,h7,?_⟩,bA h7⟩
     rw [wb] at h
     rw [Su,hv,Ti,FV]
     exact h.pick 8 [1,2,3,4,0,5,6,7]
    ·have h7:i = (n :: r).length:=by have:=Sj h7; omega
     subst h7
     rw [SM] at h
     refine bR.2 ⟨hfl,?_⟩
     let M':=tO ko kl kw bl N (fw oa 0 oc 1) oc (fw wa 0 wc 2) wc (bw.aA t) (eR (N + 1) (kU low3 n t) (n :: r)) (cK t) ++ [mapA km mp]
     have hp1:(M' ++ (Q gs2 ++ L)).Perm (Q gs2 ++ (M' ++ L)):=by
      rw [← SI,← SI]; exact List.perm_append_comm.append_right L
     have h8:St w50 (own 1 o25 (n :: r).length c25 (mC (n :: r)) :: (Q gs2 ++ (M' ++ L))):=h.perm (List.Perm.cons _ hp1)
     have hrun:=hD gs2 (n :: r) (M' ++ L) w50 o25 c25 hP.good (fun v hv=>by rw [hN]; exact hP.lt v (List.mem_append_right _ hv)) h8
     refine hrun.mono ?_
     rintro _ w52 ⟨rfl,h⟩
     have elow:lf (eR (N + 1) (kU low3 n t) (n :: r)) = fun v=>if v∈n :: r then N + 1 else lf low3 v:=by
      rw [CX _ _ _ (fun m hm=>by rw [hlu]; exact hgN m hm),hlowU]
     have hnew:QK ko kl kw bl km N k es Q L ⟨t,eR (N + 1) (kU low3 n t) (n :: r),gs2 ++ [n :: r],mp,fw oa 0 oc 1,oc,fw wa 0 wc 2,wc⟩ w52:=by
      refine ⟨by show (eR _ _ _).length = _; rw [u7]; exact hlu,?_,?_,ma2,St.Rf (M:=Q (gs2 ++ [n :: r])) (Q:=M') (L:=L) h⟩
      ·show bw.Inv _ _ (lf (eR _ _ _)) _ _
       rw [elow]; exact hP
      ·intro v hv
       show lf (eR _ _ _) v≠0
       rw [elow]
       simp only
       split
       ·omega
       ·exact hs3 v hv
     refine ⟨rfl,⟨_,hnew⟩,?_⟩
     have l1:=AU (f:=fun x=>bw.todo (En es) N (lf x.low) x.S) hnew
     refine Nat.lt_of_le_of_lt l1 (TR ?_ ht3)
     show bw.todo _ _ (lf (eR _ _ _)) _ < _
     rw [elow]
     unfold bw.todo
     rw [bw.yi (low:=lf low3)]
     ·simp only [S0,List.sum_cons]; omega
     ·intro v hv
      show (if v∈n :: r then N + 1 else lf low3 v) = 0↔lf low3 v = 0
      split
      ·rename_i e
       have h9:lf low3 v≠0:=fun h0=>(hI3.un v hv).1 h0 (by simp only [bw.aA,Sp]; exact Or.inl (Or.inr e))
       constructor <;> intro <;> omega
      ·exact Iff.rfl
   ·have h6:lf low3 n≠(bw.aA t).length + 1:=fun e=>by rw [e] at h6; simp at h6
    cases t with
    | nil =>
     exfalso
     have h8:=hI3.ok.1.top
     have h9:=hI3.ok.1.pos n (by simp)
     simp [bw.aA] at h8 h6
     omega
    | cons x t =>
    obtain ⟨u,ku,ru⟩:=x
    have huN:u < N:=hI3.lt u (by simp [bw.aA])
    have eset:=lR (low:=low3) (i:=u) (x:=min (lf low3 u) (lf low3 n)) (by omega)
    have hmg:=hI3.merge h4 h6
    have hpu:=hI3.ok.2.2.1.pos u (by simp)
    have hpn:=hI3.ok.1.pos n (by simp)
    have hnew:QK ko kl kw bl km N k es Q L ⟨(u,ku,ru ++ n :: r) :: t,kU low3 n ((u,ku,ru) :: t),gs2,mp,oa,oc,fw wa 0 wc 2,wc⟩ w45:=by
     refine ⟨hlu,?_,?_,ma2,?_⟩
     ·show bw.Inv _ _ (lf (low3.set u _)) _ _
      rw [eset]; exact hmg
     ·intro v hv
      show lf (low3.set u _) v≠0
      rw [eset]
      by_cases ev:v = u
      ·subst ev; rw [bw.aY]; omega
      ·rw [bw.cM ev]; exact hs3 v hv
     ·have e1:bw.aA ((u,ku,ru ++ n :: r) :: t) = bw.aA ((n,j,r) :: (u,ku,ru) :: t):=by simp [bw.aA]
      show St w45 (tO _ _ _ _ _ _ _ _ _ (bw.aA ((u,ku,ru ++ n :: r) :: t)) _ _ ++ _)
      rw [e1]
      exact h
    refine ⟨⟨_,hnew⟩,?_⟩
    have l1:=AU (f:=fun x=>bw.todo (En es) N (lf x.low) x.S) hnew
    refine Nat.lt_of_le_of_lt l1 (TR ?_ ht3)
    show bw.todo _ _ (lf (low3.set u _)) _ < _
    rw [eset]
    unfold bw.todo
    rw [bw.yi (low:=lf low3)]
    ·simp only [S0,List.sum_cons]; omega
    ·intro v hv
     by_cases ev:v = u
     ·subst ev; rw [bw.aY]
      constructor <;> intro <;> omega
     ·rw [bw.cM ev]
end Go.Proofs.YtngdohpikfcifaaGreatDoor
namespace Go.V
def gq (es:List (List Int)):Bool:=!es.any fun l=>l.any fun x=>decide (x < 0) || decide ((es.length:Int)≤x)
theorem u9 {es:List (List Int)}:gq es = true↔yw es:=by
 unfold gq yw
 rw [Tt,List.any_eq_false]
 constructor
 ·intro h l hl x hx
  have:=h l hl
  rw [Bool.not_eq_true,List.any_eq_false] at this
  have:=this x hx
  simp at this; omega
 ·intro h l hl
  rw [Bool.not_eq_true,List.any_eq_false]
  intro x hx
  have:=h l hl x hx
  simp; omega
end Go.V
namespace Go.Proofs.YtngdohpikfcifaaGreatDoor
open Go.V
variable {w:World} {a:Option Addr} {l c:Nat} {d:FuncId} {e:List Value}
theorem O8 {xs:List Int} {p:Int→Bool} (hfl:Fn d = true) (hr:aW (hp w) xs a l) (hb:l≤4611686018427387904)
  (hP:∀ x∈xs,∀ u,hp u = hp w→aC Tryz.prog d (.int .i64 x :: e) u fun v u'=>v = .bool (p x)∧hp u' = hp w) :
  aC Tryz.prog gJ [.slice a l c,.func (.func d) (Array.mk []) ⟨e⟩] w fun v w'=>v = .bool (xs.any p)∧hp w' = hp w:=by
 refine cN _ _ _ _ _ w _ ?_
 have key:aC Tryz.prog dM [.slice a l c,.func (.func d) (Array.mk []) ⟨e⟩] w fun v w'=>∃ n:Int,v = .int .i64 n∧(xs.any p = decide (0≤n))∧hp w' = hp w:=by
  refine dq _ _ _ _ _ w _ ?_
  have hxl:=hr.1
  refine ⟨fun z w'=>∃ j:Nat,z = j∧j≤l∧(∀ k∈xs.take j,p k = false)∧hp w' = hp w,fun z _=>l - z.toNat,⟨0,rfl,Sv _,fun k hk=>by simp at hk,rfl⟩,?_⟩
  rintro _ z w1 ⟨j,rfl,hj,hno,e1⟩
  refine ae (fun h1=>?_) fun h1=>?_
  rotate_left
  ·have h1:j = l:=by have:=Sj h1; omega
   rw [SD (by omega)] at hno
   exact ⟨_,rfl,by rw [List.any_eq_false.2 fun x hx=>by rw [hno x hx]; simp]; rfl,e1⟩
  have h1:j < l:=by have:=Si h1; omega
  obtain ⟨k,hk⟩ : ∃ k,xs[j]? = some k:=⟨xs[j]'(by omega),Sm _⟩
  obtain ⟨ad,had,hc⟩:=hr.at hk
  refine aq had h1 ⟨k,hc w1 (Gr.of_eq e1),bR.2 ⟨hfl,(hP k (Sl hk) w1 e1).mono ?_⟩⟩
  rintro _ w2 ⟨rfl,e2⟩
  refine ⟨_,rfl,ae (fun hb=>?_) fun hb=>?_⟩
  ·exact ⟨_,rfl,by rw [TP.2 ⟨k,Sl hk,hb⟩]; exact (S2 (S_ j)).symm,e2⟩
  ·refine ⟨⟨by omega,by omega⟩,⟨j + 1,by simp,by omega,fun y hy=>?_,e2⟩,bA h1⟩
   rw [Su,hk] at hy
   rcases Sp.1 hy with hy | hy
   ·exact hno y hy
   ·simp at hy; subst hy; exact hb
 refine key.mono ?_
 rintro _ w' ⟨n,rfl,h1,h2⟩
 exact ⟨n,rfl,by rw [h1],h2⟩
theorem Rg {xs:List (List Int)} {p:List Int→Bool} (hfl:Fn d = true) (hr:aW (hp w) xs a l) (hb:l≤4611686018427387904)
  (hP:∀ x∈xs,∀ u o l c,hp u = hp w→aW (hp w) x o l→aC Tryz.prog d (.slice o l c :: e) u fun v u'=>v = .bool (p x)∧hp u' = hp w) :
  aC Tryz.prog gf [.slice a l c,.func (.func d) (Array.mk []) ⟨e⟩] w fun v w'=>v = .bool (xs.any p)∧hp w' = hp w:=by
 refine fB _ _ _ _ _ w _ ?_
 have key:aC Tryz.prog ig [.slice a l c,.func (.func d) (Array.mk []) ⟨e⟩] w fun v w'=>∃ n:Int,v = .int .i64 n∧(xs.any p = decide (0≤n))∧hp w' = hp w:=by
  refine gy _ _ _ _ _ w _ ?_
  have hxl:=hr.1
  refine ⟨fun z w'=>∃ j:Nat,z = j∧j≤l∧(∀ k∈xs.take j,p k = false)∧hp w' = hp w,fun z _=>l - z.toNat,⟨0,rfl,Sv _,fun k hk=>by simp at hk,rfl⟩,?_⟩
  rintro _ z w1 ⟨j,rfl,hj,hno,e1⟩
  refine ae (fun h1=>?_) fun h1=>?_
  rotate_left
  ·have h1:j = l:=by have:=Sj h1; omega
   rw [SD (by omega)] at hno
   exact ⟨_,rfl,by rw [List.any_eq_false.2 fun x hx=>by rw [hno x hx]; simp]; rfl,e1⟩
  have h1:j < l:=by have:=Si h1; omega
  obtain ⟨k,ad,vs,hk,had,hrow,o,l1,c1,rfl,hle,hrd⟩:=hr.get h1
  rw [aH,show j * nI.n (List Int) = j from Tp j] at hrow
  refine aq had h1 ⟨o,l1,c1,hrow.cell0 (Gr.of_eq e1),bR.2 ⟨hfl,(hP k (Sl hk) w1 o l1 c1 e1 hrd).mono ?_⟩⟩
  rintro _ w2 ⟨rfl,e2⟩
  refine ⟨_,rfl,ae (fun hb=>?_) fun hb=>?_⟩
  ·exact ⟨_,rfl,by rw [TP.2 ⟨k,Sl hk,hb⟩]; exact (S2 (S_ j)).symm,e2⟩
  ·refine ⟨⟨by omega,by omega⟩,⟨j + 1,by simp,by omega,fun y hy=>?_,e2⟩,bA h1⟩
   rw [Su,hk] at hy
   rcases Sp.1 hy with hy | hy
   ·exact hno y hy
   ·simp at hy; subst hy; exact hb
 refine key.mono ?_
 rintro _ w' ⟨n,rfl,h1,h2⟩
 exact ⟨n,rfl,by rw [h1],h2⟩
theorem Ox {es:List (List Int)} (hr:aW (hp w) es a l) (hb:l≤4611686018427387904) (hB:∀ x∈es,x.length≤4611686018427387904) :
  aC Tryz.prog zG [.slice a l c] w fun v w'=>v = .bool (gq es)∧Gr w w':=by
 refine wX _ _ _ w _ ?_
 have hl:=hr.1
 refine ah (St.all w) fun k1 w1 h1=>?_
 have g1:Gr w w1:=h1.aX
 have hcel:=(ai 0 h1.l).cell0 (sub.refl _)
 refine ⟨_,_,_,hcel,(Rg (p:=fun l=>l.any fun x=>decide (x < 0) || decide ((es.length:Int)≤x)) (d:=u4) (e:=[vP (some (aM k1))]) rfl (hr.mono g1) hb ?_).mono ?_⟩
 ·intro x hx u o l' c' hu hrx
  refine rW _ _ _ _ u _ ((O8 (p:=fun x=>decide (x < 0) || decide ((es.length:Int)≤x)) (d:=pU) (e:=[vP (some (aM k1))]) rfl (by rw [hu]; exact hrx) (by have:=hrx.1; have:=hB x hx; omega) ?_).mono ?_)
  ·intro y hy u2 hu2
   refine nf _ _ u2 _ (ae (fun h=>?_) fun h=>?_)
   ·exact ⟨by rw [show decide (y < 0) = true from h]; rfl,hu2⟩
   ·refine ⟨_,_,_,by rw [fv (hu2.trans hu)]; exact hcel,by rw [show decide (y < 0) = false from h,Bool.false_or,hl],hu2⟩
  ·rintro _ w2 ⟨rfl,h2⟩
   exact ⟨_,rfl,rfl,h2.trans hu⟩
 ·rintro _ w2 ⟨rfl,h2⟩
  exact ⟨_,rfl,rfl,g1.trans (Gr.of_eq h2)⟩
end Go.Proofs.YtngdohpikfcifaaGreatDoor
namespace Go.V
theorem J7 {P:Program} {w:World} (d:Nat) {t e:TypeId} {a b:Addr} {q:Bool} {i:TypeInfo} (h:P.underlying t = some (.pointer e)) (hi:P.info? e = some i) (hz:i.size≠0) (hs:(sameAddr a b).run P w = .ok q w) :
  (Op.equalIn (d + 1) t (.pointer (some a)) (.pointer (some b))).run P w = .ok q w:=by
 simp [Op.equalIn,aN h,sizeOf,typeInfo,hi,hz,hs]
theorem Hq {P:Program} {w:World} {t e:TypeId} {a b:Addr} {q:Bool} {i:TypeInfo} (h:P.underlying t = some (.pointer e)) (hi:P.info? e = some i) (hz:i.size≠0) (hs:(sameAddr a b).run P w = .ok q w) :
  (Op.equal t (.pointer (some a)) (.pointer (some b))).run P w = .ok q w:=J7 9999 h hi hz hs
theorem yT {P:Program} {w:World} {t e:TypeId} {xo yo:Operand} {a b:Addr} {q:Bool} {i:TypeInfo} (h:P.underlying t = some (.pointer e)) (hi:P.info? e = some i) (hz:i.size≠0) (hs:(sameAddr a b).run P w = .ok q w) :
  (iX .neq t xo yo (.pointer (some a)) (.pointer (some b))).run P w = .ok (.bool (!q)) w:=by
 unfold iX
 have hg:(eqGuard .neq t xo yo (.pointer (some a)) (.pointer (some b))).run P w = .ok () w:=Ab (by simp) (by simp)
 simp [hg,Go.binOp,Hq h hi hz hs]
theorem J8 {P:Program} {w:World} {L:List aw} {Ty:TypeId→Option di} (hT:dy P Ty) {t e:TypeId} {i:di} {xo yo:Operand} {k1 k2:Nat} {v1 v2:List Value} (hk:ag Ty t = .ptr e) (hi:Ty e = some i) (hz:i.size≠0) (h:St w (aR k1 v1 :: aR k2 v2 :: L)) :
  (iX .neq t xo yo (.pointer (some ⟨k1,0,none⟩)) (.pointer (some ⟨k2,0,none⟩))).run P w = .ok (.bool true) w:=by
 obtain ⟨d,hd,hd'⟩:=cX hT hk (by simp)
 rw [Gl hd'] at hd
 obtain ⟨info,d2,ha⟩:=qd hT hi
 obtain ⟨e1,h1⟩:=iB.1 h
 obtain ⟨e2,h2⟩:=iB.1 h.swap
 have hne:(⟨k1,0,none⟩ : Addr)≠⟨k2,0,none⟩:=by
  intro e
  cases e
  obtain ⟨g1,g2,dd,s1,s2,⟨_,x1⟩,g3,g4,dd',s3,s4,⟨_,x2⟩,_⟩:=h
  rcases dd k1 with h | h
  ·rw [h] at x1; cases x1
  ·rw [s3 k1 _ x2] at h; cases h
 exact yT hd ha.inf (by rw [← ha.size]; exact hz) (run_sameAddr_other w hne h1.get h2.get)
theorem J9 {P:Program} {w:World} {Ty:TypeId→Option di} (hT:dy P Ty) {t e:TypeId} {i:di} {xo yo:Operand} {a:Addr} (hk:ag Ty t = .ptr e) (hi:Ty e = some i) (hz:i.size≠0) :
  (iX .neq t xo yo (.pointer (some a)) (.pointer (some a))).run P w = .ok (.bool false) w:=by
 obtain ⟨d,hd,hd'⟩:=cX hT hk (by simp)
 rw [Gl hd'] at hd
 obtain ⟨info,d2,ha⟩:=qd hT hi
 exact yT hd ha.inf (by rw [← ha.size]; exact hz) (run_sameAddr_same w a)
def dL (es ow:List (List Int)) (v:Nat) (x:Nat):Prop:=∃ u,bw.Rc (En es) v u∧(x:Int)∈ow.getD u []
structure Bt (es ow:List (List Int)) (v:Nat) (bs:List Bool):Prop where
 ln:bs.length = 1024
 fn:∀ x,bn bs x = true↔x < 1024∧dL es ow v x
theorem dL.mutual {es ow:List (List Int)} {v u x:Nat} (h:bw.Rc (En es) v u) (hx:dL es ow u x):dL es ow v x:=by
 obtain ⟨y,h1,h2⟩:=hx
 exact ⟨y,h.trans h1,h2⟩
theorem Bt.same {es ow:List (List Int)} {v u:Nat} {bs:List Bool} (h:Bt es ow v bs) (h1:bw.Rc (En es) v u) (h2:bw.Rc (En es) u v):Bt es ow u bs :=
 ⟨h.ln,fun x=>by rw [h.fn]; exact and_congr_right fun _=>⟨fun hx=>hx.mutual h2,fun hx=>hx.mutual h1⟩⟩
theorem dL.step {es ow:List (List Int)} {g:List Nat} {v:Nat} (hv:v∈g) (hg:∀ a∈g,∀ b∈g,bw.Rc (En es) a b) {x:Nat} :
  dL es ow v x↔(∃ n∈g,(x:Int)∈ow.getD n [])∨∃ n∈g,∃ m∈En es n,m∉g∧dL es ow m x:=by
 constructor
 ·rintro ⟨u,h1,h2⟩
  have key:∀ a b,bw.Rc (En es) a b→a∈g→(x:Int)∈ow.getD b []→(∃ n∈g,(x:Int)∈ow.getD n [])∨∃ n∈g,∃ m∈En es n,m∉g∧dL es ow m x:=by
   intro a b h
   induction h with
   | refl a=>intro ha hx; exact .inl ⟨a,ha,hx⟩
   | @step a m b hm hr ih =>
    intro ha hx
    by_cases hmg:m∈g
    ·exact ih hmg hx
    ·exact .inr ⟨a,ha,m,hm,hmg,b,hr,hx⟩
  exact key v u h1 hv h2
 ·rintro (⟨n,hn,hx⟩ | ⟨n,hn,m,hm,_,hx⟩)
  ·exact ⟨n,hg v hv n hn,hx⟩
  ·exact ((hg v hv n hn).trans (bw.Rc.one hm)) |> fun h=>hx.mutual h
end Go.V
namespace Go.V
def IL (l:List (Option Addr)):List Value:=l.map fun p=>Value.pointer p
theorem Oy (l:List (Option Addr)) (i:Nat) (p:Option Addr):(IL l).set i (.pointer p) = IL (l.set i p):=by simp [IL,Ta]
theorem Eb {l:List (Option Addr)} {i:Nat} {p:Option Addr} (h:l[i]? = some p):(IL l)[i]? = some (.pointer p):=by simp [IL,h]
def tP (p:Option Addr) (l:List (Option Addr)) (g:List Nat):List (Option Addr):=g.foldl (fun l m=>l.set m p) l
theorem Bu (p:Option Addr):∀ (g:List Nat) (l:List (Option Addr)),(tP p l g).length = l.length
 | [],_=>rfl
 | m :: g,l=>by show (tP p (l.set m p) g).length = _; rw [Bu p g]; simp
theorem J_ (p:Option Addr) (l:List (Option Addr)) (g:List Nat) (m:Nat):tP p l (g ++ [m]) = (tP p l g).set m p:=by simp [tP]
theorem FX (p:Option Addr):∀ (g:List Nat) (l:List (Option Addr)),(∀ m∈g,m < l.length)→∀ v,(tP p l g)[v]? = if v∈g then some p else l[v]?
 | [],l,_,v=>by simp [tP]
 | m :: g,l,h,v=>by
  have:=FX p g (l.set m p) (fun y hy=>by rw [SL]; exact h y (by simp [hy])) v
  show (tP p (l.set m p) g)[v]? = _
  rw [this]
  by_cases e:v∈g
  ·simp [e]
  ·have hm:=h m (by simp)
   by_cases e2:v = m
   ·subst e2; simp [e,hm]
   ·rw [Sr e,SR (TM e2),Sr (by simp [e,e2])]
end Go.V
namespace Go.V
theorem ME {L:List aw} {h:Hp} {A:aw} (i:Nat) (hl:aE L h) (e:sR L i = A:=by rfl) (hi:Nat.blt i (AG L) = true:=by rfl):∃ h1,sub h1 h∧A h1:=by
 have:=dG i (by simpa [jd] using hi) hl
 rwa [e] at this
structure Rh (es ow:List (List Int)) (N:Nat) (gs:List (List Nat)) (sets:List (Option Addr)) (ps:List Go.Proofs.YtngdohpikfcifaaGreatDoor.Ls) (gr:List (Nat × List Bool)):Prop where
 ls:sets.length = N
 lp:ps.length = N
 lg:gr.length = gs.length
 st:∀ (i:Nat) g b B,gs[i]? = some g→gr[i]? = some (b,B)→∀ v∈g,sets[v]? = some (some ⟨b,0,none⟩)∧Bt es ow v B∧∃ p,ps[v]? = some p∧p.2 = ee B
end Go.V
namespace Go.Proofs.YtngdohpikfcifaaGreatDoor
open Go.V
variable {w:World} {L:List aw} {a oa:Option Addr} {N c oc l ks bs ko bo ke kn:Nat} {es ow:List (List Int)} {h0:Hp}
def yx (gr:List (Nat × List Bool)):List aw:=gr.map fun p=>dK (some ⟨p.1,0,none⟩) p.2
def Ka (es ow:List (List Int)) (ks bs ko bo N:Nat) (gs:List (List Nat)):aw:=V.ex fun y:List (Option Addr) × List Ls × List (Nat × List Bool) =>
 aT [V.pu (Rh es ow N gs y.1 y.2.1 y.2.2),aR ks [.slice (some ⟨bs,0,none⟩) N N],aR bs (IL y.1),aR ko [.slice (some ⟨bo,0,none⟩) N N],aR bo (y.2.1.map Bp),aT (y.2.1.map yv),aT (yx y.2.2)]
theorem w_ {gs:List (List Nat)}:St w (Ka es ow ks bs ko bo N gs :: L)↔∃ (sets:List (Option Addr)) (ps:List Ls) (gr:List (Nat × List Bool)),Rh es ow N gs sets ps gr ∧
  St w (aR ks [.slice (some ⟨bs,0,none⟩) N N] :: aR bs (IL sets) :: aR ko [.slice (some ⟨bo,0,none⟩) N N] :: aR bo (ps.map Bp) :: aT (ps.map yv) :: aT (yx gr) :: L):=by
 unfold Ka
 rw [St.ex]
 constructor
 ·rintro ⟨⟨sets,ps,gr⟩,h⟩
  have h:=St.pu.1 (St.flat.1 h)
  exact ⟨sets,ps,gr,h.1,h.2⟩
 ·rintro ⟨sets,ps,gr,h1,h2⟩
  exact ⟨⟨sets,ps,gr⟩,St.flat.2 (St.pu.2 ⟨h1,h2⟩)⟩
theorem MF {k1 k2:Nat} {B1 B2:List Bool} {xo yo:Operand} (h:St w (dK (some ⟨k1,0,none⟩) B1 :: dK (some ⟨k2,0,none⟩) B2 :: L)) :
  (iX .neq lB xo yo (.pointer (some ⟨k1,0,none⟩)) (.pointer (some ⟨k2,0,none⟩))).run Tryz.prog w = .ok (.bool true) w:=by
 rcases gM h with ⟨e,_⟩ | ⟨b,a,c,ws,e,_,h⟩
 ·cases e
 ·cases e
  rcases gM (h.pick 3 [2,0,1]) with ⟨e,_⟩ | ⟨b',a',c',ws',e,_,h⟩
  ·cases e
  ·cases e
   exact J8 aK (rfl:ag Ty lB = .ptr _) rfl (by decide) (h.pick 4 [2,0,1,3])
structure Ri (es ow:List (List Int)) (h0:Hp) (ke kn N:Nat) (a oa:Option Addr) (c oc:Nat):Prop where
 ce:ax h0 ⟨ke,0,none⟩ [.slice a N c]
 cn:ax h0 ⟨kn,0,none⟩ [.slice oa N oc]
 re:aW h0 es a N
 rn:aW h0 ow oa N
 tab:gz h0
 bE:∀ x∈es,x.length * 8≤140737488355328
 bO:∀ x∈ow,x.length * 8≤140737488355328
 bN:N * 24≤140737488355328
 rO:∀ x∈ow,∀ y∈x,0≤y∧y < 1024
theorem Qf (hR:yw es) (C:Ri es ow h0 ke kn N a oa c oc):O7 uZ [.pointer (some (aM ks)),.pointer (some (aM kn)),.pointer (some (aM ke)),.pointer (some (aM ko))] es fun gs=>[Ka es ow ks bs ko bo N gs,has h0]:=by
 intro gs g F w o gc hG hlt h
 have hN:es.length = N:=C.re.1
 have hgN:∀ v∈g,v < N:=fun v hv=>by have:=hlt v (by simp [hv]); omega
 have hgl:g.length≤N:=(hG.len hlt).2 g (by simp) |> fun h=>by omega
 have hgm:∀ x∈g,∀ y∈g,bw.Rc (En es) x y:=(hG.2 gs g [] rfl).2.1
 have hge:∀ x∈g,∀ y∈En es x,y∈g∨y∈gs.flatten:=(hG.2 gs g [] rfl).2.2
 have hgd:∀ x∈g,x∉gs.flatten:=fun x hx=>(bw.yS hG.1 rfl hx).1
 have bN:=C.bN
 obtain ⟨sets,ps,gr,hF,h⟩:=w_.1 (h.pick 3 [1,0,2])
 refine rU _ _ _ _ _ _ _ w _ ((PE 1024 (xs:=[]) aW.nil (by decide)).mono ?_)
 rintro _ w1 ⟨b,rfl,h1⟩
 have h:=h1.vK h
 -- [0 set,1 ks,2 bs,3 ko,4 bo,5 lists,6 sets,7 group,8 has]
 refine ⟨_,rfl,fun z w'=>∃ i:Nat,z = i∧i≤g.length∧St w' (dK (some ⟨b,0,none⟩) (BV 1024 []) :: aR ks [.slice (some ⟨bs,0,none⟩) N N] :: aR bs (IL (tP (some ⟨b,0,none⟩) sets (g.take i))) :: aR ko [.slice (some ⟨bo,0,none⟩) N N] :: aR bo (ps.map Bp) :: aT (ps.map yv) :: aT (yx gr) :: own 1 o g.length gc (mC g) :: has h0 :: F),
  fun z _=>g.length - z.toNat,⟨0,rfl,Sv _,h⟩,?_⟩
 rintro _ z w2 ⟨i,rfl,hi,h⟩
 refine ae (fun h1=>?_) fun h1=>?_
 ·have h1:i < g.length:=by have:=Si h1; omega
  obtain ⟨v,hv⟩ : ∃ v,g[i]? = some v:=⟨g[i],Sm _⟩
  have hvN:=hgN v (Sl hv)
  obtain ⟨gad,hga,hgc⟩:=bH (h.pick 9 [7,0,1,2,3,4,5,6,8]) (gk hv)
  refine aq hga h1 ⟨_,hgc,_,_,_,(ai 1 h.l).cell0 (sub.refl _),aq rfl hvN ?_⟩
  rw [aO]
  refine bg (h.pick 9 [2,0,1,3,4,5,6,7,8]) (by simp [IL,Bu,hF.ls]; omega) fun w3 h=>⟨⟨by omega,by omega⟩,⟨i + 1,rfl,h1,?_⟩,bA h1⟩
  rw [Oy] at h
  rw [Su,hv,Ti,J_]
  exact h.pick 9 [1,2,0,3,4,5,6,7,8]
 have h1:i = g.length:=by have:=Sj h1; omega
 subst h1
 rw [SM] at h
 have hmax:∀ x:Nat,(BV 1024 []).length = 1024∧bn (BV 1024 []) x = false:=fun x=>⟨by unfold BV; rw [bC,List.length_replicate]; decide,by unfold BV; rw [fx]; simp [eG,sx]⟩
 have hsets:∀ v,(tP (some ⟨b,0,none⟩) sets g)[v]? = if v∈g then some (some (⟨b,0,none⟩ : Addr)) else sets[v]?:=FX _ g sets fun m hm=>by rw [hF.ls]; exact hgN m hm
 -- the numbers come together
 let Part:Nat→Nat→Prop:=fun i x=>(∃ n∈g.take i,(x:Int)∈ow.getD n [])∨∃ n∈g.take i,∃ m∈En es n,m∉g∧dL es ow m x
 refine ⟨fun z w'=>∃ (i:Nat) (B:List Bool),z = i∧i≤g.length∧B.length = 1024∧(∀ x,bn B x = true↔x < 1024∧Part i x)∧St w' (dK (some ⟨b,0,none⟩) B :: aR ks [.slice (some ⟨bs,0,none⟩) N N] :: aR bs (IL (tP (some ⟨b,0,none⟩) sets g)) :: aR ko [.slice (some ⟨bo,0,none⟩) N N] :: aR bo (ps.map Bp) :: aT (ps.map yv) :: aT (yx gr) :: own 1 o g.length gc (mC g) :: has h0 :: F),
  fun z _=>g.length - z.toNat,⟨0,_,rfl,Sv _,(hmax 0).1,fun x=>?_,h⟩,?_⟩
 ·rw [(hmax x).2]
  constructor
  ·intro h; cases h
  ·rintro ⟨_,⟨n,hn,_⟩ | ⟨n,hn,_⟩⟩ <;> simp at hn
 rintro _ z w4 ⟨i,B,rfl,hi,hBl,hBf,h⟩
 refine ae (fun h1=>?_) fun h1=>?_
 ·have h1:i < g.length:=by have:=Si h1; omega
  obtain ⟨n,hn⟩ : ∃ n,g[i]? = some n:=⟨g[i],Sm _⟩
  have hng:=Sl hn
  have hnN:=hgN n hng
  have s0:=aZ 8 h.l
  obtain ⟨gad,hga,hgc⟩:=bH (h.pick 9 [7,0,1,2,3,4,5,6,8]) (gk hn)
  obtain ⟨xo,oad,ov,hxo,hoa,horow,o4,l4,c4,rfl,hle4,hrd4⟩:=C.rn.get (i:=n) hnN
  rw [aH,show n * nI.n (List Int) = n from Tp n] at horow
  obtain ⟨xe,ead,ev,hxe,hea,herow,o6,l6,c6,rfl,hle6,hrd6⟩:=C.re.get (i:=n) hnN
  rw [aH,show n * nI.n (List Int) = n from Tp n] at herow
  have hlo:=hrd4.1
  have hle:=hrd6.1
  have hxoB:=C.bO xo (Sl hxo)
  have hxeB:=C.bE xe (Sl hxe)
  refine aq hga h1 ⟨_,hgc,_,_,_,C.cn.cell0 s0,aq hoa hnN ⟨o4,l4,c4,horow.cell0 s0,(Ld (xs:=xo) h (fun hh hl=>hrd4.mono (aZ 7 hl)) (by omega)).mono ?_⟩⟩
  rintro _ w5 ⟨rfl,h⟩
  have s0:=aZ 8 h.l
  refine ⟨_,rfl,_,_,_,C.ce.cell0 s0,aq hea hnN ⟨o6,l6,c6,herow.cell0 s0,?_⟩⟩
  have hen:=Ho hxe
  have how:ow.getD n [] = xo:=by rw [Sq,hxo]; rfl
  refine ⟨fun z w'=>∃ (j:Nat) (B' : List Bool),z = j∧j≤l6∧B'.length = 1024∧(∀ x,bn B' x = true↔x < 1024∧(Part i x∨(x:Int)∈xo∨∃ m∈(En es n).take j,m∉g∧dL es ow m x))∧St w' (dK (some ⟨b,0,none⟩) B' :: aR ks [.slice (some ⟨bs,0,none⟩) N N] :: aR bs (IL (tP (some ⟨b,0,none⟩) sets g)) :: aR ko [.slice (some ⟨bo,0,none⟩) N N] :: aR bo (ps.map Bp) :: aT (ps.map yv) :: aT (yx gr) :: own 1 o g.length gc (mC g) :: has h0 :: F),
   fun z _=>l6 - z.toNat,⟨0,_,rfl,Sv _,by rw [bC]; exact hBl,fun x=>?_,h⟩,?_⟩
  ·rw [fx,eG,hBl,Tk,hBf,SB,Sy,TC]
   constructor
   ·rintro (⟨p1,p2⟩ | ⟨p1,p2⟩)
    ·exact ⟨p1,.inl p2⟩
    ·exact ⟨p1,.inr (.inl p2)⟩
   ·rintro ⟨p1,p2 | p2 | ⟨m,hm,_⟩⟩
    ·exact .inl ⟨p1,p2⟩
    ·exact .inr ⟨p1,p2⟩
    ·simp at hm
  rintro _ z w6 ⟨j,B',rfl,hj,hBl',hBf',h⟩
  have s0:=aZ 8 h.l
  refine ae (fun h2=>?_) fun h2=>?_
  ·have h2:j < l6:=by have:=Si h2; omega
   obtain ⟨mI,hmI⟩ : ∃ mI,xe[j]? = some mI:=⟨xe[j]'(by omega),Sm _⟩
   obtain ⟨m,hmE,rfl⟩ : ∃ m:Nat,(En es n)[j]? = some m∧mI = (m:Int):=by
    refine ⟨mI.toNat,by rw [hen,Sn,hmI]; rfl,?_⟩
    have:=hR xe (Sl hxe) mI (Sl hmI)
    omega
   have hmN:m < N:=by have:=IK hR (Sl hmE); omega
   have htk:∀ {B'' : List Bool},(∀ x,bn B'' x = true↔bn B' x = true∨(x < 1024∧m∉g∧dL es ow m x))→∀ x,bn B'' x = true↔x < 1024∧(Part i x∨(x:Int)∈xo∨∃ m∈(En es n).take (j + 1),m∉g∧dL es ow m x):=by
    intro B'' hB x
    rw [hB,hBf',Su,hmE,Ti]
    constructor
    ·rintro (⟨p1,p2 | p2 | ⟨y,q1,q2⟩⟩ | ⟨p1,p2⟩)
     ·exact ⟨p1,.inl p2⟩
     ·exact ⟨p1,.inr (.inl p2)⟩
     ·exact ⟨p1,.inr (.inr ⟨y,TU _ q1,q2⟩)⟩
     ·exact ⟨p1,.inr (.inr ⟨m,by simp,p2⟩)⟩
    ·rintro ⟨p1,p2 | p2 | ⟨y,q1,q2⟩⟩
     ·exact .inl ⟨p1,.inl p2⟩
     ·exact .inl ⟨p1,.inr (.inl p2)⟩
     ·rcases Sp.1 q1 with q1 | q1
      ·exact .inl ⟨p1,.inr (.inr ⟨y,q1,q2⟩)⟩
      ·simp at q1; subst q1; exact .inr ⟨p1,q2⟩
   obtain ⟨ead2,hea2,hc2⟩:=hrd6.at hmI
   have rowS:=(ai 2 h.l)
   refine aq hea2 h2 ⟨(m:Int),hc2 w6 s0,_,_,_,(ai 1 h.l).cell0 (sub.refl _),aq rfl hmN ?_⟩
   by_cases hmg:m∈g
   ·have hsm:(tP (some ⟨b,0,none⟩) sets g)[m]? = some (some (⟨b,0,none⟩ : Addr)):=by rw [hsets,Sz hmg]
    refine ⟨some ⟨b,0,none⟩,rowS.cell (sub.refl _) (Eb hsm),⟨_,J9 aK (rfl:ag Ty lB = .ptr _) rfl (by decide),false,rfl,?_⟩⟩
    refine ⟨⟨by omega,by omega⟩,⟨j + 1,B',rfl,h2,hBl',htk fun x=>⟨.inl,fun h=>h.resolve_right fun h=>h.2.1 hmg⟩,h⟩,bA h2⟩
   ·have hmf:m∈gs.flatten:=(hge n hng m (Sl hmE)).resolve_left hmg
    obtain ⟨g2,hg2,hmg2⟩:=List.mem_flatten.1 hmf
    obtain ⟨k2,hk2⟩:=SP hg2
    obtain ⟨⟨b2,B2⟩,hb2⟩ : ∃ y,gr[k2]? = some y:=⟨gr[k2]'(by rw [hF.lg]; exact (Sk.1 hk2).1),Sm _⟩
    obtain ⟨f1,f2,_⟩:=hF.st k2 g2 b2 B2 hk2 hb2 m hmg2
    have hsm:(tP (some ⟨b,0,none⟩) sets g)[m]? = some (some (⟨b2,0,none⟩ : Addr)):=by rw [hsets,Sr hmg,f1]
    have hgr:(yx gr)[k2]? = some (dK (some ⟨b2,0,none⟩) B2):=by unfold yx; rw [Sn,hb2]; rfl
    have hcmp:=MF (xo:=Operand.tmp 52) (yo:=Operand.tmp 53) ((St.Ly (h.pick 9 [6,0,1,2,3,4,5,7,8]) hgr).pick 3 [0,2])
    refine ⟨some ⟨b2,0,none⟩,rowS.cell (sub.refl _) (Eb hsm),⟨_,hcmp,true,rfl,?_⟩⟩
    refine ⟨_,_,_,(ai 1 h.l).cell0 (sub.refl _),aq rfl hmN ⟨some ⟨b2,0,none⟩,rowS.cell (sub.refl _) (Eb hsm),ah h fun k15 w7 h=>?_⟩⟩
    have h:=h.pick 10 [1,0,2,3,4,5,6,7,8,9]
    refine (H7 (os:=[some ⟨b2,0,none⟩]) (vss:=[B2]) h (fun hh hl=>du rfl (.inr ⟨_,rfl,(show ax hh ⟨k15,0,none⟩ [.pointer (some ⟨b2,0,none⟩)] from ai 0 hl)⟩)) rfl (fun hh hl y q v hq hv=>?_) (fun hh hl=>gN.mono (aZ 8 hl) C.tab) (by simp)).mono ?_
    ·obtain ⟨h1,s1,ha⟩:=ME 6 hl (A:=aT (yx gr))
     obtain ⟨h3,s3,h4⟩:=qz (Sl hgr) ha
     cases y with
     | zero=>cases hq; cases hv; exact .inl ((Dp h4).mono (s3.trans s1))
     | succ y=>simp at hq
    rintro _ w8 ⟨rfl,h⟩
    refine ⟨_,rfl,⟨by omega,by omega⟩,⟨j + 1,cd B' [B2],rfl,h2,by rw [uv]; exact hBl',htk fun x=>?_,h.pick 10 [0,2,3,4,5,6,7,8,9]⟩,bA h2⟩
    show bn (cU B' (ee B2)) x = true↔_
    rw [dU,hBl',Tk,SB,Sy,f2.fn]
    constructor
    ·rintro (p | ⟨p1,_,p2⟩)
     ·exact .inl p
     ·exact .inr ⟨p1,hmg,p2⟩
    ·rintro (p | ⟨p1,_,p2⟩)
     ·exact .inl p
     ·exact .inr ⟨p1,p1,p2⟩
  ·have h2:j = l6:=by have:=Sj h2; omega
   subst h2
   refine ⟨⟨by omega,by omega⟩,⟨i + 1,B',rfl,h1,hBl',fun x=>?_,h⟩,bA h1⟩
   have hjl:(En es n).take j = En es n:=SD (by rw [hen,Ss]; omega)
   rw [hBf',hjl]
   refine and_congr_right fun _=>?_
   show _↔(∃ n∈g.take (i + 1),_)∨∃ n∈g.take (i + 1),_
   rw [Su,hn,Ti]
   constructor
   ·rintro ((⟨y,q1,q2⟩ | ⟨y,q1,q2⟩) | q | q)
    ·exact .inl ⟨y,TU _ q1,q2⟩
    ·exact .inr ⟨y,TU _ q1,q2⟩
    ·exact .inl ⟨n,by simp,by rw [how]; exact q⟩
    ·exact .inr ⟨n,by simp,q⟩
   ·rintro (⟨y,q1,q2⟩ | ⟨y,q1,q2⟩)
    ·rcases Sp.1 q1 with q1 | q1
     ·exact .inl (.inl ⟨y,q1,q2⟩)
     ·simp at q1; subst q1; exact .inr (.inl (by rw [how] at q2; exact q2))
    ·rcases Sp.1 q1 with q1 | q1
     ·exact .inl (.inr ⟨y,q1,q2⟩)
     ·simp at q1; subst q1; exact .inr (.inr q2)
 have h1:i = g.length:=by have:=Sj h1; omega
 subst h1
 have hSol:∀ v∈g,Bt es ow v B:=fun v hv=>⟨hBl,fun x=>by
  rw [hBf]
  refine and_congr_right fun _=>?_
  show (∃ n∈g.take g.length,_)∨(∃ n∈g.take g.length,_)↔_
  rw [SM,dL.step hv hgm]⟩
 refine (CI (h.mE) (gN.mono (aZ 8 h.l) C.tab)).mono ?_
 rintro _ w9 ⟨a5,c5,rfl,h5⟩
 have h:=h5.vK h
 have hml:(ee B).length = bm B:=vO B
 have hmb:bm B≤1024:=by have:=gj B; omega
 refine ⟨_,_,_,rfl,fun z w'=>∃ (i:Nat) (ps' : List Ls),z = i∧i≤g.length∧ps'.length = N∧(∀ v∈g.take i,∃ p,ps'[v]? = some p∧p.2 = ee B)∧(∀ v,v∉g→ps'[v]? = ps[v]?) ∧
   St w' (own 1 a5 (bm B) c5 (iv (ee B)) :: dK (some ⟨b,0,none⟩) B :: aR ks [.slice (some ⟨bs,0,none⟩) N N] :: aR bs (IL (tP (some ⟨b,0,none⟩) sets g)) :: aR ko [.slice (some ⟨bo,0,none⟩) N N] :: aR bo (ps'.map Bp) :: aT (ps'.map yv) :: aT (yx gr) :: own 1 o g.length gc (mC g) :: has h0 :: F),
  fun z _=>g.length - z.toNat,⟨0,ps,rfl,Sv _,hF.lp,fun v hv=>by simp at hv,fun _ _=>rfl,h⟩,?_⟩
 rintro _ z w10 ⟨i,ps',rfl,hi,hpl,hp1,hp2,h⟩
 refine ae (fun h1=>?_) fun h1=>?_
 ·have h1:i < g.length:=by have:=Si h1; omega
  obtain ⟨v,hv⟩ : ∃ v,g[i]? = some v:=⟨g[i],Sm _⟩
  have hvN:=hgN v (Sl hv)
  obtain ⟨gad,hga,hgc⟩:=bH (h.pick 10 [8,0,1,2,3,4,5,6,7,9]) (gk hv)
  refine aq hga h1 ⟨_,hgc,fun w11 hd=>?_⟩
  have h:=h.eq (aD hd)
  have rko:=ai 4 h.l
  refine ⟨fun u=>Gr w11 u,Gr.refl _,_,_,_,fun u hu=>rko.cell0 hu,(FW (xs:=ee B) (b8 hml (gB 0 h.l)) (by omega) (by omega)).mono ?_⟩
  rintro _ w13 ⟨o13,c13,rfl,h13⟩
  have g13:Gr w11 w13:=h13.aX
  have h:=h13.vK h
  refine ⟨_,_,_,rfl,g13,aq rfl hvN ?_⟩
  rw [aO]
  refine bg (h.pick 11 [6,0,1,2,3,4,5,7,8,9,10]) (by simp; omega) fun w14 h=>⟨⟨by omega,by omega⟩,⟨i + 1,ps'.set v ((o13,c13),ee B),rfl,h1,by rw [SL]; exact hpl,fun u hu=>?_,fun u hu=>?_,?_⟩,bA h1⟩
  ·by_cases e:u = v
   ·subst e; exact ⟨_,by rw [SY (by omega)],rfl⟩
   ·rw [Su,hv,Ti] at hu
    rcases Sp.1 hu with hu | hu
    ·obtain ⟨p,q1,q2⟩:=hp1 u hu
     exact ⟨p,by rw [SR (TM e)]; exact q1,q2⟩
    ·simp at hu; exact absurd hu e
  ·have e:u≠v:=fun e=>hu (e ▸ Sl hv)
   rw [SR (TM e)]; exact hp2 u hu
  ·have h:=St.Lx (A:=own 1 o13 (ee B).length c13 (iv (ee B))) (M:=ps'.map yv) (h.pick 11 [1,7,0,2,3,4,5,6,8,9,10]) (n:=v) (by simp; omega)
   have e1:(ps'.map Bp).set v (.slice o13 (ee B).length c13) = (ps'.set v ((o13,c13),ee B)).map Bp:=by rw [Ta]; rfl
   have e2:(ps'.map yv).set v (own 1 o13 (ee B).length c13 (iv (ee B))) = (ps'.set v ((o13,c13),ee B)).map yv:=by rw [Ta]; rfl
   rw [e1,e2] at h
   exact h.pick 10 [2,3,4,5,6,1,0,7,8,9]
 have h1:i = g.length:=by have:=Sj h1; omega
 subst h1
 rw [SM] at hp1
 refine ⟨rfl,?_⟩
 show St w10 (Ka es ow ks bs ko bo N (gs ++ [g]) :: has h0 :: F)
 refine w_.2 ⟨tP (some ⟨b,0,none⟩) sets g,ps',gr ++ [(b,B)],⟨by rw [Bu]; exact hF.ls,hpl,by simp [hF.lg],fun i g' b' B' hi1 hi2 v hv=>?_⟩,?_⟩
 ·by_cases e:i < gs.length
  ·rw [Sw e] at hi1
   rw [Sw (by rw [hF.lg]; exact e)] at hi2
   have hvf:v∈gs.flatten:=List.mem_flatten.2 ⟨g',Sl hi1,hv⟩
   have hvg:v∉g:=fun h=>hgd v h hvf
   obtain ⟨q1,q2,q3⟩:=hF.st i g' b' B' hi1 hi2 v hv
   exact ⟨by rw [hsets,Sr hvg]; exact q1,q2,by rw [hp2 v hvg]; exact q3⟩
  ·have hil:=(Sk.1 hi1).1
   simp at hil
   have e:i = gs.length:=by omega
   subst e
   rw [SC (SF _),Tx] at hi1
   rw [SC (by rw [hF.lg]; exact SF _),hF.lg,Tx] at hi2
   cases hi1; cases hi2
   exact ⟨by rw [hsets,Sz hv],hSol v hv,hp1 v hv⟩
 ·have e1:yx (gr ++ [(b,B)]) = yx gr ++ [dK (some ⟨b,0,none⟩) B]:=by simp [yx]
  rw [e1]
  exact (St.snoc (h.pick 10 [1,7,2,3,4,5,6,9])).pick 7 [1,2,3,4,5,0,6]
end Go.Proofs.YtngdohpikfcifaaGreatDoor
namespace Go.V
def Kb (l:List Int):Bool:=!l.any fun x=>decide (x < 0) || decide (1024≤x)
theorem FY {l:List Int}:Kb l = true↔∀ x∈l,0≤x∧x < 1024:=by
 unfold Kb
 rw [Tt,List.any_eq_false]
 refine forall_congr' fun x=>forall_congr' fun hx=>?_
 simp
def yU (es ow:List (List Int)):Bool:=gq es && ow.length == es.length && ow.all Kb
end Go.V
namespace Go.Proofs.YtngdohpikfcifaaGreatDoor
open Go.V
variable {w:World} {L:List aw} {a oa:Option Addr} {N M c oc l:Nat} {es ow:List (List Int)}
def Bv (es ow:List (List Int)) (ps:List Ls):Prop:=ps.length = es.length∧∀ v,v < es.length→∃ B p,Bt es ow v B∧ps[v]? = some p∧p.2 = ee B
theorem Oz (hr:aW (hp w) es a N) (ho:aW (hp w) ow oa M) (ht:gz (hp w)) (hB:∀ l∈es,l.length * 8≤140737488355328) (hO:∀ l∈ow,l.length * 8≤140737488355328) (hb:N * 24≤140737488355328) (hM:M * 24≤140737488355328) :
  aC Tryz.prog zF [.slice a N c,.slice oa M oc] w fun v w'=>(yU es ow = false∧v = .tuple (Array.mk [.slice none 0 0,.int .i64 1])∧Gr w w') ∨
   (yU es ow = true∧∃ (bo:Nat) (ps:List Ls),Bv es ow ps∧v = .tuple (Array.mk [.slice (some ⟨bo,0,none⟩) N N,.int .i64 0])∧St w' (own 1 (some ⟨bo,0,none⟩) N N (ps.map Bp) :: aT (ps.map yv) :: all w)):=by
 have hN:=hr.1
 have hMl:=ho.1
 refine wV _ _ _ _ _ _ w _ ?_
 refine ah (St.all w) fun ke w1 h=>ah h fun kn w2 h=>?_
 have g2:Gr w w2:=h.tail.aX
 refine ⟨fun b w'=>b = !(gq es && M == N)∧Gr w2 w',⟨_,_,_,(ai 1 h.l).cell0 (sub.refl _),(Ox (hr.mono g2) (by omega) fun x hx=>by have:=hB x hx; omega).mono ?_⟩,?_⟩
 ·rintro _ w3 ⟨rfl,g3⟩
  have h:=h.gr g3
  refine ⟨_,rfl,ae (fun h1=>?_) fun h1=>?_⟩
  ·have h1:gq es = false:=by simpa using h1
   exact ⟨by rw [h1]; rfl,g3⟩
  ·have h1:gq es = true:=by simpa using h1
   refine ⟨_,_,_,(ai 0 h.l).cell0 (sub.refl _),_,_,_,(ai 1 h.l).cell0 (sub.refl _),?_,g3⟩
   rw [h1,TS]
   by_cases e:M = N
   ·subst e; simp
   ·have:((M:Int) != (N:Int)) = true:=by simp; omega
    rw [this]; simp [e]
 rintro _ b2 w4 ⟨rfl,g4⟩
 refine ae (fun h1=>?_) fun h1=>?_
 ·refine .inl ⟨?_,rfl,g2.trans g4⟩
  have h1:(gq es && M == N) = false:=by cases hq:(gq es && M == N) with
   | false=>rfl
   | true=>rw [hq] at h1; cases h1
  unfold yU
  rw [hMl,hN,h1]; rfl
 have h1:(gq es && M == N) = true:=by cases hq:(gq es && M == N) with
  | true=>rfl
  | false=>rw [hq] at h1; cases h1
 obtain ⟨h2,h3⟩:=Bool.and_eq_true_iff.1 h1
 have h3:M = N:=by simpa using h3
 subst h3
 have h:=h.gr g4
 have hre:=hr.mono (g2.trans g4)
 have hro:=ho.mono (g2.trans g4)
 refine ⟨_,_,_,(ai 0 h.l).cell0 (sub.refl _),fun z w'=>∃ i:Nat,z = i∧i≤M∧(∀ x∈ow.take i,Kb x = true)∧hp w' = hp w4,fun z _=>M - z.toNat,⟨0,rfl,Sv _,fun x hx=>by simp at hx,rfl⟩,?_⟩
 rintro _ z w5 ⟨i,rfl,hi,hme,e5⟩
 refine ae (fun h4=>?_) fun h4=>?_
 ·have h4:i < M:=by have:=Si h4; omega
  obtain ⟨x,ad,vs,hx,had,hrow,o,l1,c1,rfl,hle,hrd⟩:=hro.get h4
  rw [aH,show i * nI.n (List Int) = i from Tp i] at hrow
  have hxB:=hO x (Sl hx)
  have hxl:=hrd.1
  refine aq had h4 ⟨o,l1,c1,hrow.cell0 (Gr.of_eq e5),(O8 (p:=fun x=>decide (x < 0) || decide (1024≤x)) (d:=uY) (e:=[]) rfl (by rw [e5]; exact hrd) (by omega) ?_).mono ?_⟩
  ·intro y hy u hu
   refine rQ _ u _ (ae (fun h=>?_) fun h=>?_)
   ·exact ⟨by rw [show decide (y < 0) = true from h]; rfl,hu⟩
   ·exact ⟨by rw [show decide (y < 0) = false from h,Bool.false_or],hu⟩
  rintro _ w6 ⟨rfl,e6⟩
  refine ⟨_,rfl,ae (fun h5=>?_) fun h5=>?_⟩
  ·refine .inl ⟨?_,rfl,(g2.trans g4).trans (Gr.of_eq (e6.trans e5))⟩
   unfold yU
   rw [Bool.and_eq_false_iff]
   right
   rw [List.all_eq_false]
   exact ⟨x,Sl hx,by unfold Kb; rw [h5]; decide⟩
  ·refine ⟨⟨by omega,by omega⟩,⟨i + 1,rfl,h4,fun y hy=>?_,e6.trans e5⟩,bA h4⟩
   rw [Su,hx] at hy
   rcases Sp.1 hy with hy | hy
   ·exact hme y hy
   ·simp at hy; subst hy; unfold Kb; rw [h5]; rfl
 have h4:i = M:=by have:=Sj h4; omega
 subst h4
 rw [SD (by omega)] at hme
 have h:=h.eq e5
 have hok:yU es ow = true:=by
  unfold yU
  rw [h2,hMl,hN]
  simp
  exact hme
 refine ⟨_,_,_,(ai 1 h.l).cell0 (sub.refl _),⟨by omega,rfl,by omega⟩,?_⟩
 -- from here on what there is stays as it is
 have hall:=St.all w5
 refine ah hall fun bs w7 h7=>ah h7 fun ks w8 h8=>bg h8 (by simp) fun w9 h9=>?_
 have c1:∀ {u:World} {v:List Value} {L' : List aw} {b:Nat},Gr w5 u→u.cell? (aM ke) = some (.slice a i c):=fun g=>(ai 1 h.l).cell0 g
 refine ⟨_,_,_,c1 (v:=[]) (L':=[]) (b:=0) h9.tail.tail.has,⟨by omega,rfl,by omega⟩,ah h9 fun bo w10 h10=>ah h10 fun ko w11 h11=>bg h11 (by simp) fun w12 h12=>?_⟩
 refine ⟨_,_,_,c1 (v:=[]) (L':=[]) (b:=0) h12.tail.tail.tail.tail.has,?_⟩
 have hre5:aW (hp w5) es a i:=by rw [e5]; exact hre
 have hro5:aW (hp w5) ow oa i:=by rw [e5]; exact hro
 have C:Ri es ow (hp w5) ke kn i a oa c oc:=⟨ai 1 h.l,ai 0 h.l,hre5,hro5,by rw [e5]; exact gN.mono (g2.trans g4) ht,hB,hO,hb,fun x hx=>FY.1 (hme x hx)⟩
 have hR:=u9.1 h2
 have hst:St w12 ([Ka es ow ks bs ko bo i [],has (hp w5)] ++ []):=by
  have q1:gG (Int.toNat (i:Int)) [vP none] = IL (List.replicate i none):=by rw [dB]; simp [IL]
  have q2:gG (Int.toNat (i:Int)) [vS none 0 0] = (List.replicate i (((none,0),[]):Ls)).map Bp:=by rw [dB]; simp [Bp]
  rw [q1,q2] at h12
  have h13:=(St.flat (M:=yx [])).2 (v_ (A:=yv ((none,0),[])) (fun w L h=>aB 1 h) i h12)
  have q3:List.replicate i (yv ((none,0),[])) = (List.replicate i (((none,0),[]):Ls)).map yv:=by simp
  rw [q3] at h13
  exact w_.2 ⟨_,_,[],⟨by simp,by simp,rfl,fun k g b B hk=>by simp at hk⟩,h13.pick 7 [4,5,2,3,1,0,6]⟩
 refine (Qe (Q:=fun gs=>[Ka es ow ks bs ko bo i gs,has (hp w5)]) (L:=[]) rfl (Qf hR C) (fun gs hh hs=>hre5.mono (aZ 1 hs)) hR hB hb hst).mono ?_
 rintro _ w13 ⟨rfl,gs,hG,hall2,h⟩
 obtain ⟨sets,ps,gr,hF,h⟩:=w_.1 h
 refine ⟨rfl,_,_,_,(ai 2 h.l).cell0 (sub.refl _),.inr ⟨hok,bo,ps,⟨by rw [hF.lp,hN],fun v hv=>?_⟩,rfl,?_⟩⟩
 ·have hvf:=(hall2 v).2 (by omega)
  obtain ⟨g,hg,hvg⟩:=List.mem_flatten.1 hvf
  obtain ⟨k,hk⟩:=SP hg
  obtain ⟨⟨b,B⟩,hb2⟩ : ∃ y,gr[k]? = some y:=⟨gr[k]'(by rw [hF.lg]; exact (Sk.1 hk).1),Sm _⟩
  obtain ⟨_,q2,p,q3,q4⟩:=hF.st k g b B hk hb2 v hvg
  exact ⟨B,p,q2,q3,q4⟩
 ·have h:=h.pick 7 [3,4,6]
  have h:=eX (sz:=1) (l:=i) (c:=i) (cs:=[]) (by rw [S6]; exact h) (by simp [hF.lp]) (by simp [hF.lp]) (SF _)
  have g5:Gr w w5:=(g2.trans g4).trans (Gr.of_eq e5)
  exact ((h.pick 3 [2,0,1]).head (B:=has (hp w)) fun hh hs=>sub.trans g5 hs).pick 3 [1,2,0]
end Go.Proofs.YtngdohpikfcifaaGreatDoor
namespace Go.V
open Go.Proofs.YtngdohpikfcifaaGreatDoor
theorem Bt.one {es ow:List (List Int)} {v:Nat} {B B' : List Bool} (h:Bt es ow v B) (h' : Bt es ow v B'):B = B' :=
 kP (by rw [h.ln,h'.ln]) fun k=>by
  have:=(h.fn k).trans (h'.fn k).symm
  cases h1:bn B k <;> cases h2:bn B' k <;> simp_all
theorem Bv.one {es ow:List (List Int)} {ps ps' : List Ls} (h:Bv es ow ps) (h' : Bv es ow ps'):ps.map (·.2) = ps'.map (·.2):=by
 apply Tb
 intro v
 by_cases hv:v < es.length
 ·obtain ⟨B,p,q1,q2,q3⟩:=h.2 v hv
  obtain ⟨B',p',r1,r2,r3⟩:=h'.2 v hv
  rw [Sn,Sn,q2,r2]
  simp only [Tf]
  rw [q3,r3,q1.one r1]
 ·rw [SH (by rw [Ss,h.1]; omega),SH (by rw [Ss,h'.1]; omega)]
end Go.V
namespace Go.V
open Go.Proofs.YtngdohpikfcifaaGreatDoor
section
variable {es ow:List (List Int)}
open Classical in
noncomputable def rX (es ow:List (List Int)) (v:Nat):List Int:=bQ 1024 fun x=>decide (dL es ow v x)
noncomputable def u_ (es ow:List (List Int)):List (List Int):=(List.range es.length).map (rX es ow)
theorem xa:(u_ es ow).length = es.length:=by unfold u_; simp
theorem FZ {v:Nat} (h:v < es.length):(u_ es ow)[v]? = some (rX es ow v):=by unfold u_; simp [h]
theorem Bw {v:Nat} {z:Int}:z∈rX es ow v↔∃ x:Nat,z = x∧x < 1024∧dL es ow v x:=by
 unfold rX; rw [gn]; simp
theorem yV {v:Nat}:dp (rX es ow v):=mU _ _
theorem Hr {v:Nat}:(rX es ow v).length≤1024:=fp _ _
theorem dL.iff {v x:Nat}:dL es ow v x↔(x:Int)∈ow.getD v []∨∃ m∈En es v,dL es ow m x:=by
 constructor
 ·rintro ⟨u,h,hx⟩
  cases h with
  | refl=>exact .inl hx
  | step h1 h2=>exact .inr ⟨_,h1,_,h2,hx⟩
 ·rintro (h | ⟨m,h1,u,h2,hx⟩)
  ·exact ⟨v,.refl v,h⟩
  ·exact ⟨u,.step h1 h2,hx⟩
theorem dL.least {Q:Nat→Nat→Prop} (h1:∀ v x:Nat,(x:Int)∈ow.getD v []→Q v x) (h2:∀ v m x:Nat,m∈En es v→Q m x→Q v x) {v x:Nat} (h:dL es ow v x):Q v x:=by
 obtain ⟨u,h,hx⟩:=h
 induction h with
 | refl a=>exact h1 a x hx
 | step ha hb ih=>exact h2 _ _ _ ha (ih hx)
theorem IM (B:List Bool):ee B = bQ B.length (bn B):=by
 unfold ee bQ
 rfl
theorem va {n:Nat} {f f' : Nat→Bool} (h:∀ k,k < n→f k = f' k):bQ n f = bQ n f':=by
 unfold bQ
 rw [List.filter_congr fun k hk=>h k (SO.1 hk)]
open Classical in
theorem Bt.row {v:Nat} {B:List Bool} (h:Bt es ow v B):ee B = rX es ow v:=by
 rw [IM,h.ln]
 unfold rX
 refine va fun k hk=>?_
 have:=h.fn k
 cases hb:bn B k with
 | true=>rw [hb] at this; exact (S2 (this.1 rfl).2).symm
 | false=>rw [hb] at this; exact (TD fun hh=>by have:=this.2 ⟨hk,hh⟩; cases this).symm
theorem Bv.rows {ps:List Ls} (h:Bv es ow ps):ps.map (·.2) = u_ es ow:=by
 apply Tb
 intro v
 by_cases hv:v < es.length
 ·obtain ⟨B,p,q1,q2,q3⟩:=h.2 v hv
  rw [Sn,q2,FZ hv]
  simp only [Tf]
  rw [q3,q1.row]
 ·rw [SH (by rw [Ss,h.1]; omega),SH (by rw [xa]; omega)]
theorem MG {rs:List (List Int)} (hl:rs.length = es.length) (h:∀ (v:Nat) row,rs[v]? = some row→dp row∧∀ z,z∈row↔∃ x:Nat,z = x∧x < 1024∧dL es ow v x):rs = u_ es ow:=by
 apply Tb
 intro v
 by_cases hv:v < es.length
 ·have hr:rs[v]? = some (rs[v]'(by omega)):=Sm _
  obtain ⟨h1,h2⟩:=h v _ hr
  rw [hr,FZ hv,sL h1 yV fun z=>(h2 z).trans Bw.symm]
 ·rw [SH (by omega),SH (by rw [xa]; omega)]
end
section
variable {g:af} {nn nn' : List Bool} {ss ss' : List SQ}
def xb (g:af) (ss:List SQ):List (List Int):=(aU g ss).map (cS g ss)
noncomputable def Kc (g:af) (nn:List Bool) (ss:List SQ):List (List Int):=u_ (ry g nn ss) (xb g ss)
noncomputable def Hs (g:af) (nn:List Bool) (ss:List SQ):List (List Int):=u_ (tA g nn ss) (Kc g nn ss)
theorem IP (h:bf ss = bf ss'):xb g ss = xb g ss':=by
 unfold xb; rw [nW h]; exact TJ fun t _=>L8 h t
theorem Ht (h:bf ss = bf ss'):Kc g nn ss = Kc g nn ss':=by unfold Kc; rw [IF h,IP h]
theorem Hu (h:bf ss = bf ss'):Hs g nn ss = Hs g nn ss':=by unfold Hs; rw [IG h,Ht h]
theorem Bx:(ry g nn ss).length = (aU g ss).length:=by unfold ry; simp
theorem Bz:(tA g nn ss).length = (aU g ss).length:=by unfold tA; simp
theorem MH:(xb g ss).length = (aU g ss).length:=by unfold xb; simp
theorem IQ:(Kc g nn ss).length = (aU g ss).length:=by unfold Kc; rw [xa,Bx]
theorem IU:(Hs g nn ss).length = (aU g ss).length:=by unfold Hs; rw [xa,Bz]
structure yW where
 st:Int
 prod:Int
 tm:List Int
deriving DecidableEq
instance:Inhabited yW:=⟨⟨0,0,[]⟩⟩
open Classical in
noncomputable def rY (g:af) (fs:List (List Int)) (b:kT):yW:=⟨b.st,b.prod,bQ g.T fun x=>decide (∃ t∈b.tr,(x:Int)∈fs.getD t.toNat [])⟩
noncomputable def lS (g:af) (nn:List Bool) (ss:List SQ):List yW:=(nY g ss).map (rY g (Hs g nn ss))
theorem Ke (h:bf ss = bf ss'):lS g nn ss = lS g nn ss':=by unfold lS; rw [IH h,Hu h]
end
end Go.V
namespace Go.V
open Go.Proofs.YtngdohpikfcifaaGreatDoor
section
variable {g:af} {nn:List Bool} {ss:List SQ}
theorem Rj (hc:av g):∃ nn,pM g nn:=by
 refine ⟨(List.range g.N).map fun i=>@decide (uP g ((g.T + i:Nat):Int)) (Classical.propDecidable _),by simp,fun i=>?_⟩
 unfold bn
 rw [Sq,Sn]
 by_cases hi:i < g.N
 ·rw [TA hi]
  simp
 ·rw [SH (by simp; omega)]
  simp only [Option.map_none,Option.getD_none,T4,false_iff]
  intro h
  have:((g.T + i:Nat):Int) < g.T + g.N:=by
   cases hs:((g.T + i:Nat):Int) with
   | ofNat n =>
    rw [hs] at h
    generalize hz:(Int.ofNat n) = z at h
    cases h with
    | mk p hp _ =>
     have:=(P0 (.inr hc)).1 p hp |>.1
     omega
   | negSucc n=>omega
  omega
structure zI (F:af→List Bool→List SQ→List (List Int)):Prop where
 es:∀ {g nn ss ss'},bf ss = bf ss'→F g nn ss = F g nn ss'
 ln:∀ {g nn ss},(F g nn ss).length = (aU g ss).length
def fq (F:af→List Bool→List SQ→List (List Int)) (g:af) (w:World) (v:Value) (w' : World):Prop:=∃ (ss:List SQ) (ask int f:Int) (nn:List Bool) (o:Option Addr) (c:Nat) (ds:List (Lq Int)),v = .tuple #[.slice o ds.length c,.int .i64 f]∧vf g ss ask int f∧(f = 0→pM g nn)∧ds.map (·.2) = F g nn ss∧St w' (own 1 o ds.length c (ds.map bF) :: aT (ds.map (bX 1 iv)) :: all w)
theorem zI.nil {F:af→List Bool→List SQ→List (List Int)} (h:zI F):F g nn [] = []:=by
 have:=h.ln (g:=g) (nn:=nn) (ss:=[])
 exact SV (by rw [this]; simp [aU,j6])
theorem Qg:zI fun g _ ss=>xb g ss:=⟨fun h=>IP h,MH⟩
theorem Qh:zI ry:=⟨fun h=>IF h,Bx⟩
theorem Qi:zI tA:=⟨fun h=>IG h,Bz⟩
theorem IV:zI Kc:=⟨fun h=>Ht h,IQ⟩
theorem IW:zI Hs:=⟨fun h=>Hu h,IU⟩
theorem vf.nil {a i f:Int} (h:vf g ss a i f) (hf:f≠0):ss = []:=by
 rcases h with ⟨_,e,_⟩ | ⟨_,_,e,_⟩ | ⟨_,_,_,_,e⟩ <;> first | exact e | exact absurd e hf
theorem IX (hc:av g) (hA:bG g ss) {l:List Int} (hl:l∈xb g ss):l.length≤66∧dp l∧∀ z∈l,0≤z∧z < g.T:=by
 obtain ⟨t,ht,rfl⟩:=SG.1 hl
 obtain ⟨hT,hN,_⟩:=hc.eD
 obtain ⟨i,q,k,e,hi,hq,he,hge,rfl⟩:=dw ht
 obtain ⟨_,_,j,r,hj,hj1,hr,hrk,_⟩:=fl hc hA hq he
 rw [wE (j:=j) (q:=r) (by rw [← hj]; exact jM hA hq he) hr,Oi hc hA hr]
 refine ⟨?_,mU _ _,fun z hz=>?_⟩
 ·have:=fp g.T (PZ g ss ⟨(i:Int),e.sym⟩ j)
  unfold bQ at this
  omega
 ·obtain ⟨n,rfl,h1,_⟩:=gn.1 (show z∈bQ g.T (PZ g ss ⟨(i:Int),e.sym⟩ j) from hz)
  omega
theorem sM {n:Nat} {f:Nat→Nat→Bool}:gq ((List.range n).map fun i=>bQ n (f i)) = true:=by
 rw [u9]
 intro l hl x hx
 obtain ⟨i,_,rfl⟩:=SG.1 hl
 obtain ⟨k,rfl,h1,_⟩:=gn.1 hx
 simp; omega
theorem xc {es ow:List (List Int)} {l:List Int} (h:l∈u_ es ow):l.length≤1024∧dp l∧∀ z∈l,0≤z∧z < 1024:=by
 unfold u_ at h
 obtain ⟨v,_,rfl⟩:=SG.1 h
 refine ⟨Hr,yV,fun z hz=>?_⟩
 obtain ⟨x,rfl,h1,_⟩:=Bw.1 hz
 omega
end
end Go.V
namespace Go.Proofs.YtngdohpikfcifaaGreatDoor
open Go.V
variable {w:World} {L:List aw} {g:af} {x:GA}
theorem BA {f1 f2:FuncId} {E O:af→List Bool→List SQ→List (List Int)} (hE:zI E) (hO:zI O) (hf1:Fn f1 = true) (hf2:Fn f2 = true) (hg:gR (hp w) g x) (ht:gz (hp w))
  (C1:∀ u,Gr w u→aC Tryz.prog f1 [.agg ⟨x.cells⟩] u (fq O g u)) (C2:∀ u,Gr w u→aC Tryz.prog f2 [.agg ⟨x.cells⟩] u (fq E g u))
  (hOb:∀ {nn ss},av g→bG g ss→∀ l∈O g nn ss,l.length≤33280∧∀ z∈l,0≤z∧z < 1024) (hEb:∀ {nn ss},av g→bG g ss→gq (E g nn ss) = true∧∀ l∈E g nn ss,l.length≤33280) :
  aC Tryz.prog oh [.agg #[.func (.func f1) #[] #[],.func (.func f2) #[] #[]],.agg ⟨x.cells⟩] w (fq (fun g nn ss=>u_ (E g nn ss) (O g nn ss)) g w):=by
 refine lQ _ _ _ _ _ _ _ _ _ _ _ _ _ _ _ _ _ w _ (ah (St.all w) fun k1 w1 h=>?_)
 have g01:Gr w w1:=h.aX
 have r1:ax (hp w1) (aM k1) _:=ai 0 h.l
 clear h
 refine de (hg.mono g01) fun k2 w2 g12 hg2 B=>?_
 have g02:Gr w w2:=g01.trans g12
 refine ⟨_,_,r1.cell g12 (j:=0) rfl,_,_,_,_,_,_,_,_,_,_,_,_,_,B.row (sub.refl _),bR.2 ⟨hf1,(C1 w2 g02).mono ?_⟩⟩
 rintro _ w3 ⟨ss,ask,int,f,nn,o,c,ds,rfl,hR,hn,hds,h⟩
 have g23:Gr w2 w3:=aZ 2 h.l
 have g03:=g02.trans g23
 refine ⟨_,_,_,_,rfl,ae (fun h1=>?_) fun h1=>?_⟩
 ·have h1:f≠0:=by simpa using h1
  have hz:=hR.nil h1
  subst hz
  refine ⟨[],ask,int,f,nn,none,0,[],rfl,hR,hn,?_,aB 1 ((St.flat (M:=[])).2 (St.here g03))⟩
  show [] = u_ (E g nn []) (O g nn [])
  rw [hE.nil,hO.nil]; rfl
 have h1:f = 0:=by simpa using h1
 subst h1
 obtain ⟨hc,hA⟩:=hR.Fz rfl
 have hnn:=hn rfl
 have rO:=wR h
 rw [hds] at rO
 have hdl:ds.length = (aU g ss).length:=by have:=congrArg List.length hds; rw [Ss,hO.ln] at this; exact this
 have hnl:=fL hc hA
 clear h
 refine ⟨_,_,r1.cell (g12.trans g23) (j:=1) rfl,_,_,_,_,_,_,_,_,_,_,_,_,_,B.row g23,bR.2 ⟨hf2,(C2 w3 g03).mono ?_⟩⟩
 rintro _ w4 ⟨ss2,ask2,int2,f2',nn2,o2,c2,ds2,rfl,hR2,hn2,hds2,h⟩
 have g34:Gr w3 w4:=aZ 2 h.l
 have g04:=g03.trans g34
 obtain ⟨ef,hes⟩ : f2' = 0∧bf ss = bf ss2:=by
  obtain ⟨e1,e2,_⟩:=hR.one hR2
  exact ⟨by omega,e2⟩
 subst ef
 have en:=(hn2 rfl).inj hnn
 subst en
 rw [← hE.es hes] at hds2
 have rE2:=wR h
 rw [hds2] at rE2
 have hdl2:ds2.length = (aU g ss).length:=by have:=congrArg List.length hds2; rw [Ss,hE.ln] at this; exact this
 clear h
 obtain ⟨q1,q2⟩:=hEb (nn:=nn2) hc hA
 have q3:=hOb (nn:=nn2) hc hA
 refine ⟨_,_,_,_,rfl,ae (fun h1=>by simp at h1) fun _=>?_⟩
 refine (Oz rE2 (rO.mono g34) (gN.mono g04 ht) (fun l hl=>by have:=q2 l hl; omega) (fun l hl=>by have:=(q3 l hl).1; omega) (by omega) (by omega)).mono ?_
 have hok:yU (E g nn2 ss) (O g nn2 ss) = true:=by
  unfold yU
  rw [q1,hO.ln,hE.ln,TS]
  simp only [beq_self_eq_true,TS,TG]
  exact fun l hl=>FY.2 (q3 l hl).2
 rintro _ w5 (⟨h1,_⟩ | ⟨_,bo,ps,hps,rfl,h⟩)
 ·rw [hok] at h1; cases h1
 have hpl:ps.length = ds2.length:=by rw [hps.1,hE.ln,hdl2]
 refine ⟨_,_,_,_,rfl,ss,ask,int,0,nn2,some ⟨bo,0,none⟩,ds2.length,ps,by rw [hpl],hR,hn,Bv.rows hps,?_⟩
 rw [hpl]
 exact St.JA h (cE g04)
end Go.Proofs.YtngdohpikfcifaaGreatDoor
namespace Go.Proofs.YtngdohpikfcifaaGreatDoor
open Go.V
variable {w:World} {L:List aw} {g:af} {x:GA}
theorem yX:aC Tryz.prog yn [] w fun v w'=>∃ k:Nat,v = .slice (some (aM k)) 2 2∧St w' (aR k [.func (.func jN) #[] #[],.func (.func jS) #[] #[],.func (.func rM) #[] #[],.func (.func gp) #[] #[]] :: all w) :=
 uX w _ (ah (St.all w) fun k1 w1 h=>⟨k1,rfl,h⟩)
theorem MI (hg:gR (hp w) g x) (hb:iM g):aC Tryz.prog jN [.agg ⟨x.cells⟩] w (fq (fun g _ ss=>xb g ss) g w):=by
 refine (G6 hg hb).mono ?_
 rintro _ w1 ⟨ss,ask,int,f,o,c,ds,rfl,hR,hds,h⟩
 by_cases hf:f = 0
 ·obtain ⟨nn,hn⟩:=Rj (hR.Fz hf).1
  exact ⟨ss,ask,int,f,nn,o,c,ds,rfl,hR,fun _=>hn,hds,h⟩
 ·exact ⟨ss,ask,int,f,[],o,c,ds,rfl,hR,fun h=>absurd h hf,hds,h⟩
theorem OA (hg:gR (hp w) g x) (hb:iM g) (ht:gz (hp w)):aC Tryz.prog jS [.agg ⟨x.cells⟩] w (fq ry g w):=Oq hg hb ht
theorem Hv (hg:gR (hp w) g x) (hb:iM g) (ht:gz (hp w)):aC Tryz.prog gp [.agg ⟨x.cells⟩] w (fq tA g w):=Hk hg hb ht
theorem yy (hg:gR (hp w) g x) (hb:iM g) (ht:gz (hp w)):aC Tryz.prog rM [.agg ⟨x.cells⟩] w (fq Kc g w):=by
 refine yk _ _ _ _ _ _ _ _ _ _ _ _ _ w _ (de hg fun k1 w1 gw hg1 B=>?_)
 intro w2 hd
 have g12:Gr w1 w2:=Gr.of_eq (aD hd)
 refine ⟨fun u=>Gr w1 u,g12,_,_,_,_,_,_,_,_,_,_,_,_,_,fun u g=>B.row g,yX.mono ?_⟩
 rintro _ w3 ⟨k,rfl,h⟩
 have g23:Gr w2 w3:=aZ 1 h.l
 have g13:=g12.trans g23
 have r:ax (hp w3) (aM k) _:=ai 0 h.l
 clear h
 have gw3:Gr w w3:=sub.trans gw g13
 refine ⟨_,_,_,rfl,fun u=>Gr w3 u,Gr.refl _,fun u g=>g13.trans g,ay (i:=0) rfl (by decide) ⟨_,_,_,_,fun u g=>(r.part 0 2).at g rfl,?_⟩⟩
 refine (BA Qh Qg rfl rfl (hg1.mono g13) (gN.mono gw3 ht) (fun u g=>MI (hg1.mono (g13.trans g)) hb) (fun u g=>OA (hg1.mono (g13.trans g)) hb (gN.mono (sub.trans gw3 g) ht)) (fun hc hA l hl=>?_) fun hc hA=>⟨sM,fun l hl=>?_⟩).mono ?_
 ·obtain ⟨h1,_,h2⟩:=IX hc hA hl
  obtain ⟨hT,_⟩:=hc.eD
  exact ⟨by omega,fun z hz=>by have:=h2 z hz; omega⟩
 ·unfold ry at hl
  obtain ⟨j,_,rfl⟩:=SG.1 hl
  exact SK (fp _ _) (fL hc hA)
 ·rintro _ w4 ⟨ss,ask,int,f,nn,o,c,ds,rfl,hR,hn,hds,h⟩
  exact ⟨_,_,_,_,rfl,aZ 2 h.l,ss,ask,int,f,nn,o,c,ds,rfl,hR,hn,hds,St.JA h (cE gw3)⟩
theorem rZ (hg:gR (hp w) g x) (hb:iM g) (ht:gz (hp w)):aC Tryz.prog ym [.agg ⟨x.cells⟩] w (fq Hs g w):=by
 refine uV _ _ _ _ _ _ _ _ _ _ _ _ _ w _ (de hg fun k1 w1 gw hg1 B=>?_)
 intro w2 hd
 have g12:Gr w1 w2:=Gr.of_eq (aD hd)
 refine ⟨fun u=>Gr w1 u,g12,_,_,_,_,_,_,_,_,_,_,_,_,_,fun u g=>B.row g,yX.mono ?_⟩
 rintro _ w3 ⟨k,rfl,h⟩
 have g23:Gr w2 w3:=aZ 1 h.l
 have g13:=g12.trans g23
 have r:ax (hp w3) (aM k) _:=ai 0 h.l
 clear h
 have gw3:Gr w w3:=sub.trans gw g13
 refine ⟨_,_,_,rfl,fun u=>Gr w3 u,Gr.refl _,fun u g=>g13.trans g,ay (i:=1) rfl (by decide) ⟨_,_,_,_,fun u g=>(r.part 1 2).at g rfl,?_⟩⟩
 refine (BA Qi IV rfl rfl (hg1.mono g13) (gN.mono gw3 ht) (fun u g=>yy (hg1.mono (g13.trans g)) hb (gN.mono (sub.trans gw3 g) ht)) (fun u g=>Hv (hg1.mono (g13.trans g)) hb (gN.mono (sub.trans gw3 g) ht)) (fun hc hA l hl=>?_) fun hc hA=>⟨sM,fun l hl=>?_⟩).mono ?_
 ·obtain ⟨h1,_,h2⟩:=xc hl
  exact ⟨by omega,h2⟩
 ·unfold tA at hl
  obtain ⟨j,_,rfl⟩:=SG.1 hl
  exact SK (fp _ _) (fL hc hA)
 ·rintro _ w4 ⟨ss,ask,int,f,nn,o,c,ds,rfl,hR,hn,hds,h⟩
  exact ⟨_,_,_,_,rfl,aZ 2 h.l,ss,ask,int,f,nn,o,c,ds,rfl,hR,hn,hds,St.JA h (cE gw3)⟩
end Go.Proofs.YtngdohpikfcifaaGreatDoor
namespace Go.V
open Go.Proofs.YtngdohpikfcifaaGreatDoor
section
variable {g:af} {nn:List Bool} {ss:List SQ}
theorem IY {b:kT} (h:b∈nY g ss):∃ q m:Nat,q < ss.length∧m < g.prods.length∧b = ⟨(q:Int),(m:Int),bQ (aU g ss).length (fR g ss q m)⟩∧bQ (aU g ss).length (fR g ss q m)≠[]:=by
 unfold nY at h
 obtain ⟨q,hq,h⟩:=T2.1 h
 unfold iw at h
 obtain ⟨m,hm,h⟩:=T2.1 h
 unfold x_ at h
 split at h
 ·simp at h
 ·rename_i hne
  rw [SE] at h
  exact ⟨q,m,SO.1 hq,SO.1 hm,h,hne⟩
theorem Qj {b:kT} (h:b∈nY g ss) {t:Int} (ht:t∈b.tr):∃ j:Nat,t = j∧j < (aU g ss).length:=by
 obtain ⟨q,m,_,_,rfl,_⟩:=IY h
 obtain ⟨j,rfl,h1,_⟩:=gn.1 ht
 exact ⟨j,rfl,h1⟩
theorem OB (hc:av g) (hA:bG g ss):(nY g ss).length≤24832∧∀ b∈nY g ss,b.tr.length≤33280:=by
 refine ⟨?_,fun b hb=>?_⟩
 ·have h1:=wQ g ss ss.length
  have h256:=hA.dn.2.1
  obtain ⟨sT,sN,sP,_⟩:=hc.eD
  have h2:ss.length * g.prods.length≤256 * 97:=Nat.mul_le_mul h256 sP
  show (D9 g ss ss.length).length≤_
  omega
 ·obtain ⟨q,m,_,_,rfl,_⟩:=IY hb
  exact SK (fp _ _) (fL hc hA)
def OC (b:F9):yW:=⟨b.1.1,b.1.2,b.2.2⟩
def OD (g:af) (fs:List (List Int)) (tr:List Int) (B:List Bool):Prop:=B.length = g.T∧∀ y,bn B y = true↔y < g.T∧∃ t∈tr,(y:Int)∈fs.getD t.toNat []
theorem OD.nil (hT:g.T≤1024) (fs:List (List Int)):OD g fs [] (BV (g.T:Int) []):=by
 have e:F7 (g.T:Int) = g.T:=Nv hT
 refine ⟨by rw [NA,e],fun y=>?_⟩
 unfold BV
 rw [fx]; unfold eG
 rw [sx]; simp
theorem OD.snoc {fs:List (List Int)} {tr row:List Int} {t:Int} {B:List Bool} (h:OD g fs tr B) (hr:fs.getD t.toNat [] = row):OD g fs (tr ++ [t]) (cU B row):=by
 refine ⟨by rw [bC]; exact h.1,fun y=>?_⟩
 rw [fx]; unfold eG
 rw [Tk,SB,Sy,h.2,h.1,TC]
 constructor
 ·rintro (⟨h1,t',h2,h3⟩ | ⟨h1,h2⟩)
  ·exact ⟨h1,t',by simp [h2],h3⟩
  ·exact ⟨h1,t,by simp,by rw [hr]; exact h2⟩
 ·rintro ⟨h1,t',h2,h3⟩
  rcases Sp.1 h2 with h2 | h2
  ·exact .inl ⟨h1,t',h2,h3⟩
  ·rw [SE] at h2
   subst h2
   exact .inr ⟨h1,by rw [← hr]; exact h3⟩
open Classical in
theorem OD.row {fs:List (List Int)} {b:kT} {B:List Bool} (h:OD g fs b.tr B):rY g fs b = ⟨b.st,b.prod,ee B⟩:=by
 unfold rY
 rw [IM,h.1]
 congr 1
 refine va fun k hk=>?_
 have:=h.2 k
 cases hb:bn B k with
 | true=>rw [hb] at this; exact S2 (this.1 rfl).2
 | false=>rw [hb] at this; exact TD fun hh=>by have:=this.2 ⟨hk,hh⟩; cases this
theorem Hw:(lS g nn ss).length = (nY g ss).length:=by unfold lS; simp
end
end Go.V
namespace Go.Proofs.YtngdohpikfcifaaGreatDoor
open Go.V
variable {w:World} {L:List aw} {g:af} {x:GA}
theorem Qk (hg:gR (hp w) g x) (hb:iM g) (ht:gz (hp w)):aC Tryz.prog FT [.agg ⟨x.cells⟩] w fun v w'=>∃ (ss:List SQ) (ask int f:Int) (nn:List Bool) (o:Option Addr) (c:Nat) (ds:List F9),v = .tuple #[.slice o ds.length c,.int .i64 f]∧vf g ss ask int f∧(f = 0→pM g nn)∧ds.map OC = lS g nn ss∧St w' (own 3 o ds.length c (Cc ds) :: aT (BH ds) :: all w):=by
 refine Ce _ _ _ _ _ _ _ _ _ _ _ _ _ w _ (de hg fun k1 w1 gw hg1 B=>?_)
 have zero:∀ {ss:List SQ} {ask int f:Int} {w' : World},vf g ss ask int f→f≠0→Gr w w'→∃ (ss:List SQ) (ask int f' : Int) (nn:List Bool) (o:Option Addr) (c:Nat) (ds:List F9),(.tuple #[.slice none 0 0,.int .i64 f] : Value) = .tuple #[.slice o ds.length c,.int .i64 f']∧vf g ss ask int f'∧(f' = 0→pM g nn)∧ds.map OC = lS g nn ss∧St w' (own 3 o ds.length c (Cc ds) :: aT (BH ds) :: all w):=fun {ss ask int f w'} hR h1 hw=>by
  have hz:=hR.nil h1
  subst hz
  exact ⟨[],ask,int,f,[],none,0,[],rfl,hR,fun h=>absurd h h1,rfl,aB 3 ((St.flat (M:=[])).2 (St.here hw))⟩
 refine ⟨_,_,_,_,_,_,_,_,_,_,_,_,_,B.row (sub.refl _),(rZ hg1 hb (gN.mono gw ht)).mono ?_⟩
 rintro _ w2 ⟨ss,ask,int,f,nn,o,c,fs,rfl,hR,hn,hfs,h⟩
 have g12:Gr w1 w2:=aZ 2 h.l
 refine ⟨_,_,_,_,rfl,ae (fun h1=>zero hR (by simpa using h1) (gw.trans g12)) fun h1=>?_⟩
 have h1:f = 0:=by simpa using h1
 subst h1
 obtain ⟨hc,hA⟩:=hR.Fz rfl
 have hnn:=hn rfl
 have rF:=wR h
 rw [hfs] at rF
 have hfl:fs.length = (aU g ss).length:=by have:=congrArg List.length hfs; rw [Ss,IU] at this; exact this
 rw [hfl] at rF ⊢
 have hnl:=fL hc hA
 clear h hfs
 refine ⟨_,_,_,_,_,_,_,_,_,_,_,_,_,B.row g12,(Hl (hg1.mono g12) hb (gN.mono (gw.trans g12) ht)).mono ?_⟩
 rintro _ w3 ⟨ss2,ask2,int2,f2,o2,c2,ds2,rfl,hR2,hds2,h⟩
 have g23:Gr w2 w3:=aZ 2 h.l
 obtain ⟨_,hes,_,_,ef,_⟩:=hR.one hR2
 subst ef
 rw [← IH hes] at hds2
 have rB:=R0 h
 rw [hds2] at rB
 have hdl:ds2.length = (nY g ss).length:=by have:=congrArg List.length hds2; rw [Ss] at this; exact this
 rw [hdl] at rB ⊢
 clear h hds2
 obtain ⟨hbl,htl⟩:=OB hc hA
 obtain ⟨sT,_⟩:=hc.eD
 have g13:=g12.trans g23
 have gw3:Gr w w3:=gw.trans g13
 have rF:=rF.mono g23
 have tl:=hg.t.1
 refine ⟨_,_,_,_,rfl,ae (fun h1=>by simp at h1) fun _=>?_⟩
 refine ⟨fun o n c z w'=>∃ (i:Nat) (bs:List F9),z = i∧i≤(nY g ss).length∧n = bs.length∧bs.map OC = ((nY g ss).take i).map (rY g (Hs g nn ss))∧St w' (own 3 o n c (Cc bs) :: aT (BH bs) :: all w3),fun _ _ _ z _=>(nY g ss).length - z.toNat,
  ⟨0,[],rfl,Sv _,rfl,rfl,aB 3 ((St.flat (M:=[])).2 (St.all w3))⟩,?_⟩
 rintro _ o4 _ c4 _ w4 ⟨i,bs,rfl,hi,rfl,hbs,h⟩
 have s34:sub (hp w3) (hp w4):=aZ 2 h.l
 have hbsl:bs.length = i:=by have:=congrArg List.length hbs; rw [Ss,Ss,SN] at this; omega
 refine ae (fun h1=>?_) fun h1=>?_
 rotate_left
 ·have h1:i = (nY g ss).length:=by have:=Sj h1; omega
  rw [h1,SM] at hbs
  refine fN _ _ _ w4 _ (fk (dJ h) ⟨_,_,_,rfl,ss,ask,int,0,nn,_,_,bs,rfl,hR,hn,hbs,?_⟩)
  have h:=fj h
  exact St.JA h (cE gw3)
 have h1:i < (nY g ss).length:=by have:=Si h1; omega
 obtain ⟨b,ad,ta,tc,hb1,rfl,rb,rt⟩:=Mu rB h1
 have hbm:=Sl hb1
 have htb:=htl b hbm
 refine ay rfl h1 ⟨_,_,_,_,_,rb.at s34 rfl,ah h fun kb w5 h=>bh h rfl (by simp [aS]) fun w6 h=>?_⟩
 have s36:sub (hp w3) (hp w6):=aZ 3 h.l
 refine ⟨_,_,_,B.c0 (sub.trans g13 s36),?_⟩
 rw [← tl]
 refine (PE (xs:=[]) (l:=0) (a:=none) (g.T:Int) aW.nil (by omega)).mono ?_
 rintro _ w7 ⟨kp,rfl,h7⟩
 have h:=h7.vK h
 clear h7
 refine ⟨_,rfl,_,_,_,(ai 1 h.l).cell (sub.refl _) (j:=2) rfl,fun z w'=>∃ (k:Nat) (Bs:List Bool),z = k∧k≤b.tr.length∧OD g (Hs g nn ss) (b.tr.take k) Bs∧St w' (dK (some ⟨kp,0,none⟩) Bs :: aR kb [.int .i64 b.st,.int .i64 b.prod,.slice ta b.tr.length tc] :: own 3 o4 bs.length c4 (Cc bs) :: aT (BH bs) :: all w3),fun z _=>b.tr.length - z.toNat,
  ⟨0,_,rfl,Sv _,OD.nil (by omega) _,h⟩,?_⟩
 clear h
 rintro _ _ w8 ⟨k,Bs,rfl,hk,hB,h⟩
 have s38:sub (hp w3) (hp w8):=aZ 4 h.l
 refine ae (fun h2=>?_) fun h2=>?_
 ·have h2:k < b.tr.length:=by have:=Si h2; omega
  obtain ⟨t,tad,ht1,hta,ht2⟩:=rt.bL h2
  obtain ⟨j,rfl,hj⟩:=Qj hbm (Sl ht1)
  obtain ⟨row,rad,ra,rc,hr1,rfl,hr2,hr3⟩:=jU rF hj
  have hrl:=(xc (es:=tA g nn ss) (ow:=Kc g nn ss) (Sl hr1)).1
  refine aq hta h2 ⟨_,ht2 _ s38,aq rfl hj ⟨_,_,_,hr2 _ s38,(Ld h (fun hh hl=>hr3.mono (aZ 3 hl)) (by omega)).mono ?_⟩⟩
  rintro _ w9 ⟨rfl,h⟩
  refine ⟨_,rfl,⟨by omega,by omega⟩,⟨k + 1,_,by simp,h2,?_,h⟩,bA h2⟩
  rw [aV ht1]
  exact hB.snoc (by rw [SJ,Sq,hr1]; rfl)
 have h2:k = b.tr.length:=by have:=Sj h2; omega
 rw [h2,SM] at hB
 intro w10 hd
 have h:=h.eq (aD hd)
 have rk:ax (hp w10) (aM kb) _:=ai 1 h.l
 have hset:mE (hp w10) (some ⟨kp,0,none⟩) Bs:=by
  obtain ⟨g1,g2,_,s1,_,ha,_⟩:=h
  exact (Dp ha).mono s1
 refine ⟨fun u=>ax (hp u) (aM kb) [.int .i64 b.st,.int .i64 b.prod,.slice ta b.tr.length tc],rk,_,fun u r=>r.cell0 (sub.refl _),_,fun u r=>r.cell (sub.refl _) (j:=1) rfl,(CI hset (gN.mono (sub.trans gw3 (aZ 4 h.l)) ht)).mono ?_⟩
 rintro _ w13 ⟨a',c',rfl,h13⟩
 have h:=h13.vK h
 clear h13
 refine ⟨_,_,_,rfl,ai 2 h.l,ah h fun kn w14 h=>⟨ai 3 h.l,?_⟩⟩
 refine (aQ (us:=Cc bs) aK (rfl:ag Ty _ = .slice _) (rfl:ag Ty _ = .slice _) rfl rfl rfl (h.pick 6 [0,4,1,2,3,5]) rfl (by simp [aS]) (by show (bs.length + 1) * 40≤_; omega) (by omega)).mono ?_
 rintro _ w15 ⟨o',c5,rfl,h⟩
 refine ⟨_,_,_,rfl,ai 4 h.l,⟨by omega,by omega⟩,⟨i + 1,bs ++ [((b.st,b.prod),((a',c'),ee Bs))],by simp,h1,by simp,?_,?_⟩,bA h1⟩
 ·rw [SU,hbs,Su,hb1,SU]
  show _ ++ [(⟨b.st,b.prod,ee Bs⟩ : yW)] = _ ++ [rY g (Hs g nn ss) b]
  rw [hB.row]
 ·have e1:Cc (bs ++ [((b.st,b.prod),((a',c'),ee Bs))]) = Cc bs ++ [.int .i64 b.st,.int .i64 b.prod,.slice a' (bm Bs) c']:=by
   rw [IE]
   unfold Cc Re bF
   simp [vO]
  have e2:BH (bs ++ [((b.st,b.prod),((a',c'),ee Bs))]) = BH bs ++ [own 1 a' (bm Bs) c' (iv (ee Bs))]:=by
   unfold BH bX
   simp [vO]
  rw [e1,e2]
  have h:=St.snoc (h.pick 6 [2,5,0,1,3,4])
  exact h.pick 6 [1,0,5]
end Go.Proofs.YtngdohpikfcifaaGreatDoor
namespace Go.Proofs.YtngdohpikfcifaaGreatDoor
open Go.V
abbrev lT:FuncId:=3
def jV:bj:={ rngs:=[],loops:=[(6,[(9,(.one (.int .i64)))]),(15,[(16,(.one (.int .i64)))]),(18,[(17,(.one (.int .i64)))]),(22,[(18,(.one (.int .i64)))])],joins:=[(13,[(68,(.one .bool))])],blocks:=[] }
def kK (a:Option Addr) (b c:Nat) (d:Option Addr) (e f:Nat) (g:Option Addr) (i j:Nat) (k:Int) (l:Option Addr) (m n:Nat) (w:World) (R:Value→WP):Prop :=  new w (oC [vS a b c,vS d e f,vS g i j,iI k,vS l m n] 27) fun k1 w1=>au Proofs.Tryz.prog Ev 7 [] w1 fun v1 w2=>∃ b1,v1 = vB b1∧∃ o1 k2 k3 o2 k4 k5 o3 k6 k7 n1 o4 k8 k9,V.rowAt w2 (aM k1) 0 5 = some [vS o1 k2 k3,vS o2 k4 k5,vS o3 k6 k7,iI n1,vS o4 k8 k9]∧au Proofs.Tryz.prog Ev 8 [vA (Array.mk [vS o1 k2 k3,vS o2 k4 k5,vS o3 k6 k7,iI n1,vS o4 k8 k9])] w2 fun v2 w3=>∃ o5 k10 k11 o6 k12 k13 o7 k14 k15 n2 o8 k16 k17,v2 = vA (Array.mk [vS o5 k10 k11,vS o6 k12 k13,vS o7 k14 k15,iI n2,vS o8 k16 k17])∧new w3 (oC [vS none 0 0,vS none 0 0,vS none 0 0,iI 0,vS none 0 0] 27) fun k18 w4=>iA w4 (aM k18) [vS o5 k10 k11,vS o6 k12 k13,vS o7 k14 k15,iI n2,vS o8 k16 k17] fun w5=>∃ o9 k19 k20 o10 k21 k22 o11 k23 k24 n3 o12 k25 k26,V.rowAt w5 (aM k18) 0 5 = some [vS o9 k19 k20,vS o10 k21 k22,vS o11 k23 k24,iI n3,vS o12 k25 k26]∧au Proofs.Tryz.prog Ev 9 [vA (Array.mk [vS o9 k19 k20,vS o10 k21 k22,vS o11 k23 k24,iI n3,vS o12 k25 k26])] w5 fun v3 w6=>∃ o13 k27 k28 n4,v3 = vT (Array.mk [vS o13 k27 k28,iI n4])∧∃ o14 k29 k30 o15 k31 k32 o16 k33 k34 n5 o17 k35 k36,V.rowAt w6 (aM k18) 0 5 = some [vS o14 k29 k30,vS o15 k31 k32,vS o16 k33 k34,iI n5,vS o17 k35 k36]∧au Proofs.Tryz.prog Ev 10 [vA (Array.mk [vS o14 k29 k30,vS o15 k31 k32,vS o16 k33 k34,iI n5,vS o17 k35 k36])] w6 fun v4 w7=>∃ o18 k37 k38 n6,v4 = vT (Array.mk [vS o18 k37 k38,iI n6])∧∃ (x1:lP [(9,aI)]),∃ (x2:lN [(9,aI)]),x1 0 w7∧∀ (I1:Nat→Value) (n7:Int) (w8:World),x1 n7 w8→br (decide (n7 < 2)) (∃ o19 k39 k40 o20 k41 k42 o21 k43 k44 n8 o22 k45 k46,V.rowAt w8 (aM k1) 0 5 = some [vS o19 k39 k40,vS o20 k41 k42,vS o21 k43 k44,iI n8,vS o22 k45 k46]∧au Proofs.Tryz.prog Ev 11 [vA (Array.mk [vS o19 k39 k40,vS o20 k41 k42,vS o21 k43 k44,iI n8,vS o22 k45 k46])] w8 fun v5 w9=>∃ o23 k47 k48 n9,v5 = vT (Array.mk [vS o23 k47 k48,iI n9])∧∃ o24 k49 k50 o25 k51 k52 o26 k53 k54 n10 o27 k55 k56,V.rowAt w9 (aM k1) 0 5 = some [vS o24 k49 k50,vS o25 k51 k52,vS o26 k53 k54,iI n10,vS o27 k55 k56]∧au Proofs.Tryz.prog Ev 12 [vA (Array.mk [vS o24 k49 k50,vS o25 k51 k52,vS o26 k53 k54,iI n10,vS o27 k55 k56])] w9 fun v6 w10=>∃ o28 k57 k58 n11,v6 = vT (Array.mk [vS o28 k57 k58,iI n11])∧au Proofs.Tryz.prog Ev 13 [vS o23 k47 k48,vS o13 k27 k28] w10 fun v7 w11=>∃ b2,v7 = vB b2∧au Proofs.Tryz.prog Ev 13 [vS o28 k57 k58,vS o18 k37 k38] w11 fun v8 w12=>∃ b3,v8 = vB b3∧∃ (x3:lP [(68,yL)]),br (!b2) (x3 true w12) (br (!b3) (x3 true w12) (br (n4 != n9) (x3 true w12) (x3 (n6 != n11) w12)))∧∀ (I2:Nat→Value) (b4:Bool) (w13:World),x3 b4 w13→br b4 (R (vB false) w13) (∃ (x4:lP [(16,aI)]),∃ (x5:lN [(16,aI)]),x4 0 w13∧∀ (I3:Nat→Value) (n12:Int) (w14:World),x4 n12 w14→br (decide (n12 < (↑k47:Int))) (∃ (x6:lP [(17,aI)]),∃ (x7:lN [(17,aI)]),x6 0 w14∧∀ (I4:Nat→Value) (n13:Int) (w15:World),x6 n13 w15→idx o23 k47 n12 1 fun a1=>∃ o29 k59 k60,World.cell? w15 a1 = some (vS o29 k59 k60)∧br (decide (n13 < (↑k59:Int))) (idx o23 k47 n12 1 fun a2=>∃ o30 k61 k62,World.cell? w15 a2 = some (vS o30 k61 k62)∧idx o30 k61 n13 1 fun a3=>st1 w15 a3 (iI (-9)) fun w16=>aG (n13 + 1)∧x6 (n13 + 1) w16∧x7 (n13 + 1) w16 < x7 n13 w15) (∃ (x8:lP [(18,aI)]),∃ (x9:lN [(18,aI)]),x8 0 w15∧∀ (I5:Nat→Value) (n14:Int) (w17:World),x8 n14 w17→idx o28 k57 n12 1 fun a4=>∃ o31 k63 k64,World.cell? w17 a4 = some (vS o31 k63 k64)∧br (decide (n14 < (↑k63:Int))) (idx o28 k57 n12 1 fun a5=>∃ o32 k65 k66,World.cell? w17 a5 = some (vS o32 k65 k66)∧idx o32 k65 n14 1 fun a6=>st1 w17 a6 (iI (-9)) fun w18=>aG (n14 + 1)∧x8 (n14 + 1) w18∧x9 (n14 + 1) w18 < x9 n14 w17) (idx o23 k47 n12 1 fun a7=>∃ o33 k67 k68,World.cell? w17 a7 = some (vS o33 k67 k68)∧new w17 (oC [iI (-8)] 3) fun k69 w19=>az Proofs.Tryz.prog (f_ 24 (Array.mk [vS o33 k67 k68,vS (some (aM k69)) 1 1])) w19 fun v9 w20=>∃ o34 k70 k71,v9 = vS o34 k70 k71∧idx o23 k47 n12 1 fun a8=>st1 w20 a8 (vS o34 k70 k71) fun w21=>idx o28 k57 n12 1 fun a9=>∃ o35 k72 k73,World.cell? w21 a9 = some (vS o35 k72 k73)∧new w21 (oC [iI (-8)] 3) fun k74 w22=>az Proofs.Tryz.prog (f_ 24 (Array.mk [vS o35 k72 k73,vS (some (aM k74)) 1 1])) w22 fun v10 w23=>∃ o36 k75 k76,v10 = vS o36 k75 k76∧idx o28 k57 n12 1 fun a10=>st1 w23 a10 (vS o36 k75 k76) fun w24=>aG (n12 + 1)∧x4 (n12 + 1) w24∧x5 (n12 + 1) w24 < x5 n12 w14))) (aG (n7 + 1)∧x1 (n7 + 1) w14∧x2 (n7 + 1) w14 < x2 n7 w8))) (∃ o37 k77 k78 o38 k79 k80 o39 k81 k82 n15 o40 k83 k84,V.rowAt w8 (aM k1) 0 5 = some [vS o37 k77 k78,vS o38 k79 k80,vS o39 k81 k82,iI n15,vS o40 k83 k84]∧∃ o41 k85 k86 o42 k87 k88 o43 k89 k90 n16 o44 k91 k92,V.rowAt w8 (aM k18) 0 5 = some [vS o41 k85 k86,vS o42 k87 k88,vS o43 k89 k90,iI n16,vS o44 k91 k92]∧au Proofs.Tryz.prog Ev 14 [vA (Array.mk [vS o37 k77 k78,vS o38 k79 k80,vS o39 k81 k82,iI n15,vS o40 k83 k84]),vA (Array.mk [vS o41 k85 k86,vS o42 k87 k88,vS o43 k89 k90,iI n16,vS o44 k91 k92])] w8 fun v11 w25=>∃ b5,v11 = vB b5∧br b1 (R (vB b5) w25) (R (vB false) w25))
theorem jW (a:Option Addr) (b c:Nat) (d:Option Addr) (e f:Nat) (g:Option Addr) (i j:Nat) (k:Int) (l:Option Addr) (m n:Nat) (w:World) (R:Value→WP) (h:kK a b c d e f g i j k l m n w R):aC Tryz.prog 3 [(.agg #[(.slice a b c),(.slice d e f),(.slice g i j),(.int .i64 k),(.slice l m n)])] w R:=rv Tryz.func3 jV (by kernel_rfl) h

abbrev r_:FuncId:=7
def ot:bj:={ rngs:=[],loops:=[],joins:=[],blocks:=[] }
def pV  (w:World) (R:Value→WP):Prop :=  au Proofs.Tryz.prog Ev 31 [] w fun v1 w1=>∃ o1 k1 k2 o2 k3 k4 o3 k5 k6 n1 o4 k7 k8,v1 = vA (Array.mk [vS o1 k1 k2,vS o2 k3 k4,vS o3 k5 k6,iI n1,vS o4 k7 k8])∧new w1 (oC [vS none 0 0,vS none 0 0,vS none 0 0,iI 0,vS none 0 0] 27) fun k9 w2=>iA w2 (aM k9) [vS o1 k1 k2,vS o2 k3 k4,vS o3 k5 k6,iI n1,vS o4 k7 k8] fun w3=>∃ o5 k10 k11 o6 k12 k13 o7 k14 k15 n2 o8 k16 k17,V.rowAt w3 (aM k9) 0 5 = some [vS o5 k10 k11,vS o6 k12 k13,vS o7 k14 k15,iI n2,vS o8 k16 k17]∧au Proofs.Tryz.prog Ev 11 [vA (Array.mk [vS o5 k10 k11,vS o6 k12 k13,vS o7 k14 k15,iI n2,vS o8 k16 k17])] w3 fun v2 w4=>∃ o9 k18 k19 n3,v2 = vT (Array.mk [vS o9 k18 k19,iI n3])∧∃ o10 k20 k21 o11 k22 k23 o12 k24 k25 n4 o13 k26 k27,V.rowAt w4 (aM k9) 0 5 = some [vS o10 k20 k21,vS o11 k22 k23,vS o12 k24 k25,iI n4,vS o13 k26 k27]∧au Proofs.Tryz.prog Ev 12 [vA (Array.mk [vS o10 k20 k21,vS o11 k22 k23,vS o12 k24 k25,iI n4,vS o13 k26 k27])] w4 fun v3 w5=>∃ o14 k28 k29 n5,v3 = vT (Array.mk [vS o14 k28 k29,iI n5])∧∃ o15 k30 k31 o16 k32 k33 o17 k34 k35 n6 o18 k36 k37,V.rowAt w5 (aM k9) 0 5 = some [vS o15 k30 k31,vS o16 k32 k33,vS o17 k34 k35,iI n6,vS o18 k36 k37]∧au Proofs.Tryz.prog Ev 19 [vA (Array.mk [vS o15 k30 k31,vS o16 k32 k33,vS o17 k34 k35,iI n6,vS o18 k36 k37])] w5 fun v4 w6=>∃ o19 k38 k39 n7,v4 = vT (Array.mk [vS o19 k38 k39,iI n7])∧br (n3 == 0) (br (n5 == 0) (br (n7 == 0) (br ((↑k18:Int) == 5) (idx o9 k18 2 1 fun a1=>∃ o20 k40 k41,World.cell? w6 a1 = some (vS o20 k40 k41)∧br ((↑k40:Int) == 1) (idx o9 k18 2 1 fun a2=>∃ o21 k42 k43,World.cell? w6 a2 = some (vS o21 k42 k43)∧idx o21 k42 0 1 fun a3=>∃ n8,World.cell? w6 a3 = some (iI n8)∧br (n8 == 2) (br ((↑k28:Int) == 5) (idx o14 k28 4 1 fun a4=>∃ o22 k44 k45,World.cell? w6 a4 = some (vS o22 k44 k45)∧br ((↑k44:Int) == 2) (br ((↑k38:Int) == 6) (idx o19 k38 1 3 fun a5=>∃ o23 k46 k47,World.cell? w6 (Addr.add a5 2) = some (vS o23 k46 k47)∧R (vB ((↑k46:Int) == 2)) w6) (R (vB false) w6)) (R (vB false) w6)) (R (vB false) w6)) (R (vB false) w6)) (R (vB false) w6)) (R (vB false) w6)) (R (vB false) w6)) (R (vB false) w6)) (R (vB false) w6)
theorem ou  (w:World) (R:Value→WP) (h:pV  w R):aC Tryz.prog 7 [] w R:=rv Tryz.func7 ot (by kernel_rfl) h

abbrev sd:FuncId:=31
def ox:bj:={ rngs:=[],loops:=[],joins:=[],blocks:=[] }
def pW  (w:World) (R:Value→WP):Prop :=  new w (oC [vS none 0 0,vS none 0 0,vS none 0 0,iI 0,vS none 0 0] 27) fun k1 w1=>new w1 (oC [Value.string (ByteArray.mk (Array.mk [])),iI 0,Value.string (ByteArray.mk (Array.mk [120])),iI 0,Value.string (ByteArray.mk (Array.mk [121])),iI 0] 92) fun k2 w2=>new w2 (oC [Value.string (ByteArray.mk (Array.mk [])),Value.string (ByteArray.mk (Array.mk [115])),Value.string (ByteArray.mk (Array.mk [97])),Value.string (ByteArray.mk (Array.mk [98]))] 9) fun k3 w3=>new w3 (oC [iI 4] 3) fun k4 w4=>new w4 (oC [iI 5,iI 4,iI 6] 3) fun k5 w5=>new w5 (oC [iI 1] 3) fun k6 w6=>new w6 (oC [iI 2] 3) fun k7 w7=>new w7 (oC [iI 3,vS (some (aM k4)) 1 1,iI 0,iI 4,vS (some (aM k5)) 3 3,iI 0,iI 4,vS (some (aM k6)) 1 1,iI 0,iI 5,vS none 0 0,iI 0,iI 6,vS none 0 0,iI 0,iI 6,vS (some (aM k7)) 1 1,iI 0] 55) fun k8 w8=>iA w8 (aM k1) [vS (some (aM k2)) 3 3,vS (some (aM k3)) 4 4,vS none 0 0,iI 4,vS (some (aM k8)) 6 6] fun w9=>∃ o1 k9 k10 o2 k11 k12 o3 k13 k14 n1 o4 k15 k16,V.rowAt w9 (aM k1) 0 5 = some [vS o1 k9 k10,vS o2 k11 k12,vS o3 k13 k14,iI n1,vS o4 k15 k16]∧R (vG [vS o1 k9 k10,vS o2 k11 k12,vS o3 k13 k14,iI n1,vS o4 k15 k16]) w9
theorem oy  (w:World) (R:Value→WP) (h:pW  w R):aC Tryz.prog 31 [] w R:=rv Tryz.func31 ox (by kernel_rfl) h

end Go.Proofs.YtngdohpikfcifaaGreatDoor
