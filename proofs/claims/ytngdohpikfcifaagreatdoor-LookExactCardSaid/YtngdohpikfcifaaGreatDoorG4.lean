/- Texts of this claim, one behind the other. -/
import Derived.Test.YtngdohpikfcifaaGreatDoorG3
import Derived.Test.YtngdohpikfcifaaGreatDoorG1
import Derived.Laws.StructEq
import Derived.Test.YtngdohpikfcifaaGreatDoorG2
set_option linter.unusedVariables false
set_option linter.unusedSectionVars false
set_option maxRecDepth 100000
set_option maxHeartbeats 16000000
namespace Go.V
section
variable {g:af} {I ls:List aj} {bs:List Bool} {i:Nat} {x y:aj}
theorem av.left (h:av g) {p:aJ} (hp:p∈g.prods):(g.T:Int)≤p.left:=by
 obtain ⟨_,h1,h2,p0,hp0,hl,_⟩:=h
 obtain ⟨n,hn⟩:=SP hp
 cases n with
 | zero=>rw [hp0] at hn; cases hn; omega
 | succ n =>
  have hm:p∈g.prods.drop 1:=by
   refine Sl (i:=n) ?_
   rw [S8,Nat.add_comm]; exact hn
  have:=((h2.2.2.1 p hm).1).1
  omega
theorem N9 (hc:av g) (hf:mL g x) (h0:0≤dO g x):1≤dO g x∧dO g x < g.T + g.N:=by
 obtain ⟨p,hp,_,h3⟩:=GU hf rfl h0
 exact hc.sym (Sl hp) (Sl h3)
structure uH (g:af) (I:List aj) (bs:List Bool) (i:Nat) (ls:List aj):Prop where
 nd:ls.Nodup
 sb:∀ x∈I,x∈ls
 ok:∀ x∈ls,zq g I x
 ln:bs.length = g.T + g.N
 bt:∀ s:Nat,bs[s]? = some true→∀ k∈A4 g s,CO k∈ls
 dn:∀ (j:Nat) y,j < i→ls[j]? = some y→(g.T:Int)≤dO g y→bs[(dO g y).toNat]? = some true
theorem uH.start:uH g I (List.replicate (g.T + g.N) false) 0 (lay I) :=
 ⟨(ew I).nodup,fun x hx=>dN.2 hx,fun x hx=>.base (dN.1 hx),by simp,fun s hs=>by rw [Tc] at hs; split at hs <;> simp at hs,fun j y hj=>by omega⟩
theorem Ft (h1:ls.Nodup) (h2:∀ x∈ls,zq g I x):ls.length≤I.length + g.prods.length:=by
 have:=gQ (m:=I ++ (List.range g.prods.length).map CO) h1 fun x hx=>by
  rw [Sp]
  rcases (h2 x hx).or with h | ⟨i,hi,rfl⟩
  ·exact .inl h
  ·exact .inr (SG.2 ⟨i,SO.2 hi,rfl⟩)
 simpa using this
theorem uH.len (h:uH g I bs i ls):ls.length≤I.length + g.prods.length:=Ft h.nd h.ok
theorem uH.skip (h:uH g I bs i ls) (hy:ls[i]? = some y) (hs:dO g y < g.T∨bs[(dO g y).toNat]? = some true):uH g I bs (i + 1) ls :=
 ⟨h.nd,h.sb,h.ok,h.ln,h.bt,fun j z hj hz h0=>by
  by_cases e:j = i
  ·subst e; rw [hy] at hz; cases hz
   rcases hs with hs | hs
   ·omega
   ·exact hs
  ·exact h.dn j z (by omega) hz h0⟩
structure DR (g:af) (I:List aj) (s:Int) (ls:List aj) (j:Nat) (ms:List aj):Prop where
 nd:ms.Nodup
 pre:∃ ex,ms = ls ++ ex
 ok:∀ x∈ms,zq g I x
 al:∀ k∈JT g j s,CO k∈ms
theorem uH.inner (h:uH g I bs i ls) (s:Int):DR g I s ls 0 ls:=⟨h.nd,⟨[],by simp⟩,h.ok,fun k hk=>by simp [JT] at hk⟩
theorem uH.more {ms:List aj} (h:uH g I bs i ls) (hy:ls[i]? = some y) (h0:0≤dO g y) (hl:(dO g y).toNat < bs.length) (hJ:DR g I (dO g y) ls g.prods.length ms):uH g I (bs.set (dO g y).toNat true) (i + 1) ms:=by
 obtain ⟨ex,rfl⟩:=hJ.pre
 refine ⟨hJ.nd,fun x hx=>TU _ (h.sb x hx),hJ.ok,by rw [SL]; exact h.ln,fun s hs k hk=>?_,fun j z hj hz h1=>?_⟩
 ·by_cases e:(dO g y).toNat = s
  ·have e2:(s:Int) = dO g y:=by omega
   rw [e2] at hk
   exact hJ.al k hk
  ·rw [SR e] at hs
   exact TU _ (h.bt s hs k hk)
 ·have hjl:j < ls.length:=by have:=(Sk.1 hy).1; omega
  rw [Sw hjl] at hz
  by_cases e:(dO g y).toNat = (dO g z).toNat
  ·rw [← e,SY hl]
  ·rw [SR e]
   by_cases e2:j = i
   ·subst e2; rw [hy] at hz; cases hz; exact absurd rfl e
   ·exact h.dn j z (by omega) hz h1
theorem uH.fin (h:uH g I bs i ls) (hc:av g) (hi:i = ls.length):lay ls = cls g I:=by
 refine Ic (ew _) fun x=>?_
 rw [dN]
 refine ⟨h.ok x,fun hx=>?_⟩
 induction hx with
 | base hx=>exact h.sb _ hx
 | @step y k p _ h1 h2 h3 ih =>
  obtain ⟨j,hj⟩:=SP ih
  have hl:=hc.left (Sl h2)
  have:=h.dn j y (by have:=(Sk.1 hj).1; omega) hj (by omega)
  exact h.bt _ this k (nL.2 ⟨p,h2,by rw [h3]; omega⟩)
theorem DR.skip {s:Int} {j:Nat} {ms:List aj} {p:aJ} (h:DR g I s ls j ms) (hp:g.prods[j]? = some p) (hs:p.left≠s∨CO j∈ms):DR g I s ls (j + 1) ms :=
 ⟨h.nd,h.pre,h.ok,fun k hk=>by
  rw [qQ hp,Sp] at hk
  rcases hk with hk | hk
  ·exact h.al k hk
  ·split at hk
   ·rename_i e
    simp at hk; subst hk
    rcases hs with hs | hs
    ·exact absurd e.symm hs
    ·exact hs
   ·simp at hk⟩
theorem DR.put {s:Int} {j:Nat} {ms:List aj} {p:aJ} (h:DR g I s ls j ms) (hp:g.prods[j]? = some p) (hs:p.left = s) (hn:CO j∉ms) (hy:zq g I y) (ha:dO g y = s) (h0:0≤s):DR g I s ls (j + 1) (ms ++ [CO j]):=by
 obtain ⟨ex,rfl⟩:=h.pre
 refine ⟨?_,⟨ex ++ [CO j],by simp⟩,fun x hx=>?_,fun k hk=>?_⟩
 ·rw [SX]
  exact ⟨h.nd,by simp,fun a ha b hb e=>by simp at hb; subst hb; subst e; exact hn (by simpa using ha)⟩
 ·rw [Sp,SE] at hx
  rcases hx with hx | rfl
  ·exact h.ok x hx
  ·exact .step hy (by omega) hp (by omega)
 ·rw [qQ hp,Sp] at hk
  rcases hk with hk | hk
  ·exact TU _ (h.al k hk)
  ·split at hk
   ·simp at hk; subst hk; simp
   ·simp at hk
end
end Go.V
namespace Go.Proofs.YtngdohpikfcifaaGreatDoor
open Go.V
variable {w:World} {L:List aw} {g:af} {x:GA} {a a2:Option Addr} {l c l2 c2:Nat} {I J:List aj}
theorem JY (hg:gR (hp w) g x) (hb:iM g) (hc:av g) (hx:aW (hp w) I a l) (hf:A5 g I) (hl:l * 16≤140737488351232):aC Tryz.prog pF [.agg ⟨x.cells⟩,.slice a l c] w fun v w'=>∃ o c',v = .slice o (cls g I).length c'∧St w' (own 2 o (cls g I).length c' (tv (cls g I)) :: all w):=by
 have hll:=hx.1
 obtain ⟨hT,hN,hP,hP2,hT1,hN2⟩:=hc.eD
 refine mP _ _ _ _ _ _ _ _ _ _ _ _ _ _ _ _ w _ (de hg fun k1 w1 gw hg B=>?_)
 refine (G3 (hx.mono gw) (by omega)).mono ?_
 rintro _ w2 ⟨o1,c1,rfl,h⟩
 refine ⟨_,_,_,rfl,_,_,_,_,_,_,_,_,_,_,_,_,_,B.row h.aX,(jt (hg.mono h.aX) hb).mono ?_⟩
 rintro _ w3 ⟨rfl,g3⟩
 have h:=h.gr g3
 have en:((g.T:Int) + g.N) = ((g.T + g.N:Nat):Int):=by omega
 rw [en]
 refine ⟨_,rfl,⟨by omega,rfl,by omega⟩,?_⟩
 have e0:gG (Int.toNat ((g.T + g.N:Nat):Int)) [Value.bool false] = bv (List.replicate (g.T + g.N) false):=by rw [dB,SJ]; simp [bv]
 rw [e0,SJ]
 refine ah h fun k12 w4 h=>?_
 have hll2:=hll
 refine ⟨fun o n c' z w'=>∃ (i:Nat) (ls:List aj) (bs:List Bool),z = i∧n = ls.length∧i≤ls.length∧uH g I bs i ls∧St w' (own 2 o n c' (tv ls) :: aR k12 (bv bs) :: all w1),fun _ _ _ z _=>(l + g.prods.length) - z.toNat,
  ⟨0,lay I,_,rfl,rfl,Sv _,.start,h.pick 2 [1,0]⟩,?_⟩
 clear h
 rintro _ o _ c2 _ w5 ⟨i,ls,bs,rfl,rfl,hi,hD,h⟩
 have hlen:=hD.len
 rw [hll] at hlen
 have hfin:l + g.prods.length≤8796093022100:=by omega
 refine ae (fun h1=>?_) fun h1=>?_
 rotate_left
 ·have h1:i = ls.length:=by have:=Sj h1; omega
  have e:=hD.fin hc h1
  have hr:aW (hp w5) ls o ls.length:=b9 h
  refine (G3 hr (by omega)).mono ?_
  rintro _ w17 ⟨o7,c7,rfl,h7⟩
  rw [e] at h7 ⊢
  exact ⟨_,_,_,rfl,_,_,rfl,h7.vK (dY (cE gw) (aZ 2 h.l))⟩
 have h1:i < ls.length:=by have:=Si h1; omega
 obtain ⟨y,ad,hy,rfl,cy⟩:=b_ (b9 h) h1
 have hyo:=hD.ok y (Sl hy)
 have hyf:mL g y:=hyo.fit hf
 intro w6 hd
 have h:=h.eq (aD hd)
 have s6:sub (hp w1) (hp w6):=aZ 2 h.l
 refine ⟨fun u=>Gr w6 u,Gr.refl _,_,_,_,_,_,_,_,_,_,_,_,_,_,fun u s=>B.row (sub.trans s6 s),ay rfl h1 ⟨_,_,fun u s=>cy u (sub.trans (Gr.drawn hd) s),(Iq (hg.mono s6) hyf).mono ?_⟩⟩
 rintro _ w9 ⟨rfl,g9⟩
 have h:=h.gr g9
 have s9:sub (hp w1) (hp w9):=aZ 2 h.l
 have hTl:g.T = x.tl:=hg.t.1
 refine ⟨_,rfl,g9,_,_,_,B.c0 s9,ae (fun h2=>?_) fun h2=>?_⟩
 ·have h2:=Si h2
  exact ⟨⟨by omega,by omega⟩,⟨i + 1,ls,bs,by simp,rfl,h1,hD.skip hy (.inl (by omega)),h⟩,bA (TR h1 hlen)⟩
 have h2:(g.T:Int)≤dO g y:=by have:=Sj h2; omega
 obtain ⟨_,ha2⟩:=N9 hc hyf (by omega)
 obtain ⟨s,hs⟩ : ∃ s:Nat,dO g y = s:=⟨(dO g y).toNat,by omega⟩
 have hsl:s < bs.length:=by have:=hD.ln; omega
 rw [hs]
 have hb0:(bv bs)[s]? = some (.bool bs[s]):=by unfold bv; rw [Sn,Sm hsl]; rfl
 refine aq rfl (by have:=hD.ln; omega) ⟨_,(ai 1 h.l).cell (sub.refl _) (j:=s) hb0,ae (fun h3=>?_) fun h3=>?_⟩
 ·exact ⟨⟨by omega,by omega⟩,⟨i + 1,ls,bs,by simp,rfl,h1,hD.skip hy (.inr (by rw [hs,SJ,Sm hsl,h3])),h⟩,bA (TR h1 hlen)⟩
 refine aq rfl (by have:=hD.ln; omega) ?_
 rw [aO]
 refine bg (h.pick 2 [1,0]) (by rw [AE]; exact hsl) fun w10 h=>?_
 rw [NQ] at h
 have pl:=hg.p.1
 refine ⟨fun o n c' z w'=>∃ (j:Nat) (ms:List aj),z = j∧n = ms.length∧j≤x.pl∧DR g I s ls j ms∧St w' (own 2 o n c' (tv ms) :: aR k12 (bv (bs.set s true)) :: all w1),fun _ _ _ z _=>x.pl - z.toNat,
  ⟨0,ls,rfl,rfl,Sv _,hD.inner s,h.pick 2 [1,0]⟩,?_⟩
 clear h cy
 rintro _ o _ c4 _ w11 ⟨j,ms,rfl,rfl,hj,hJ,h⟩
 have hml:=Ft hJ.nd hJ.ok
 rw [hll] at hml
 have s11:sub (hp w1) (hp w11):=aZ 2 h.l
 refine ⟨_,_,_,B.c4 s11,ae (fun h4=>?_) fun h4=>?_⟩
 rotate_left
 ·have h4:j = g.prods.length:=by have:=Sj h4; omega
  rw [h4] at hJ
  have hD2:=hD.more hy (by omega) (by rw [hs]; exact hsl) (by rw [hs]; exact hJ)
  rw [hs,SJ] at hD2
  obtain ⟨ex,hex⟩:=hJ.pre
  refine ⟨⟨by omega,by omega⟩,⟨i + 1,ms,_,by simp,rfl,?_,hD2,h⟩,bA (TR h1 hlen)⟩
  rw [hex,Sx]; exact Nat.le_add_right_of_le h1
 have h4:j < x.pl:=by have:=Si h4; omega
 refine ah h fun k29 w12 h=>bh h rfl (by simp [aS]) fun w13 h=>?_
 obtain ⟨p,pad,vs,hp1,hpa,hp2,ra,rl,rc,rfl,hrc,hp3⟩:=hg.p.get h4
 have s13:sub (hp w1) (hp w13):=aZ 3 h.l
 have hj1:aG ((j:Int) + 1):=⟨by omega,by omega⟩
 refine ⟨_,_,_,B.c4 s13,ay hpa h4 ⟨_,hp2.cell0 s13,ae (fun h5=>?_) fun h5=>?_⟩⟩
 ·have h5:p.left≠s:=bne_iff_ne.1 h5
  exact ⟨hj1,⟨j + 1,ms,by simp,rfl,h4,hJ.skip hp1 (.inl h5),h.pick 4 [1,2,3]⟩,bA h4⟩
 have h5:p.left = s:=bne_eq_false_iff_eq.1 h5
 refine ⟨_,_,(ai 0 h.l).at (sub.refl _) rfl,(Q8 (y:=CO j) (b9 (h.pick 2 [1])) (by omega)).mono ?_⟩
 rintro _ w14 ⟨rfl,g14⟩
 have h:=h.gr g14
 refine ⟨_,rfl,ae (fun h6=>?_) fun h6=>?_⟩
 rotate_left
 ·have h6:CO j∈ms:=by simpa using h6
  exact ⟨hj1,⟨j + 1,ms,by simp,rfl,h4,hJ.skip hp1 (.inr h6),h.pick 4 [1,2,3]⟩,bA h4⟩
 have h6:CO j∉ms:=by simpa using h6
 have hJ2:=hJ.put hp1 h5 h6 hyo hs (S_ _)
 have z1:(ms.length + 1) * 16≤140737488355328∧ms.length < 9223372036854775807:=by omega
 refine ⟨_,_,(ai 0 h.l).at (sub.refl _) rfl,ah h fun k32 w15 h=>?_⟩
 refine (aQ (us:=tv ms) aK (rfl:ag Ty _ = .slice _) (rfl:ag Ty _ = .slice _) rfl rfl rfl (h.pick 3 [0,2]) rfl (by simp [aS]) z1.1 z1.2).mono ?_
 rintro _ w16 ⟨o15,c15,rfl,h⟩
 have e:tv (ms ++ [CO j]) = tv ms ++ [.int .i64 (j:Int),.int .i64 0]:=by rw [lE]; rfl
 refine ⟨_,_,_,rfl,hj1,⟨j + 1,ms ++ [CO j],by simp,by simp,h4,hJ2,?_⟩,bA h4⟩
 rw [e]
 exact h.pick 4 [0,2,3]
theorem PY {s:Int} (hg:gR (hp w) g x) (hb:iM g) (hx:aW (hp w) I a l) (hf:A5 g I) (hl:l≤8796093022100):aC Tryz.prog tq [.agg ⟨x.cells⟩,.int .i64 s,.slice a l c] w fun v w'=>∃ o c',v = .slice o (lay (dt g I s)).length c'∧St w' (own 2 o (lay (dt g I s)).length c' (tv (lay (dt g I s))) :: all w):=by
 have hll:=hx.1
 obtain ⟨_,_,_,_,_,_,hbr⟩:=id hb
 refine pH _ _ _ _ _ _ _ _ _ _ _ _ _ _ _ _ _ w _ (de hg fun k1 w1 gw hg B=>?_)
 have hx:=hx.mono gw
 refine ⟨fun o n c' z w'=>∃ j:Nat,z = j∧j≤l∧n = (dt g (I.take j) s).length∧St w' (own 2 o n c' (tv (dt g (I.take j) s)) :: all w1),fun _ _ _ z _=>l - z.toNat,⟨0,rfl,Sv _,rfl,aB 2 (St.all w1)⟩,?_⟩
 rintro _ o _ c1 _ w2 ⟨j,rfl,hj,rfl,h⟩
 have hkl:(dt g (I.take j) s).length≤j:=by have:=sI g (I.take j) s; rw [SN] at this; omega
 refine ae (fun h1=>?_) fun h1=>?_
 rotate_left
 ·have h1:j = l:=by have:=Sj h1; omega
  rw [h1,SD (by omega)] at h hkl
  rw [h1,SD (by omega)]
  refine (G3 (b9 h) (by omega)).mono ?_
  rintro _ w12 ⟨o7,c7,rfl,h7⟩
  exact ⟨_,_,_,rfl,_,_,rfl,h7.vK (dY (cE gw) (aZ 1 h.l))⟩
 have h1:j < l:=by have:=Si h1; omega
 obtain ⟨y,ad,hy,rfl,cy⟩:=b_ hx h1
 have row:ax (hp w1) (ad.add (dP j 2)) (cg y):=by
  obtain ⟨ad',vs,e,r,e2⟩:=hx.2 j y hy
  cases e; rw [show vs = cg y from e2] at r; exact r
 have hyf:=hf y (Sl hy)
 have hyd:0≤y.dot∧y.dot≤17592186043904:=by
  obtain ⟨_,h2,p,hp,h3⟩:=hyf
  have:=hbr p (Sl hp); omega
 have hk1:dt g (I.take (j + 1)) s = if s = dO g y then dt g (I.take j) s ++ [⟨y.prod,y.dot + 1⟩] else dt g (I.take j) s:=by
  rw [Su,hy,Ti,A7]
 have hj1:aG ((j:Int) + 1):=⟨by omega,by omega⟩
 have z1:((dt g (I.take j) s).length + 1) * 16≤140737488355328∧(dt g (I.take j) s).length < 9223372036854775807:=⟨SK (TT 16 (Nat.succ_le_succ hkl)) (by omega),Nat.lt_of_le_of_lt hkl (by omega)⟩
 generalize dt g (I.take j) s = K at h hk1 z1 hkl
 intro w3 hd
 have h:=h.eq (aD hd)
 have s3:sub (hp w1) (hp w3):=aZ 1 h.l
 refine ⟨fun u=>sub (hp w1) (hp u),s3,_,_,_,_,_,_,_,_,_,_,_,_,_,fun u s=>B.row s,ay rfl h1 ⟨_,_,fun u s=>cy u s,(Iq (hg.mono s3) hyf).mono ?_⟩⟩
 rintro _ w6 ⟨rfl,g6⟩
 have h:=h.gr g6
 refine ⟨_,rfl,aZ 1 h.l,ae (fun h2=>?_) fun h2=>?_⟩
 ·have h2:s = dO g y:=(beq_iff_eq.1 h2).symm
  rw [Sz h2] at hk1
  intro w7 hd7
  have h:=h.eq (aD hd7)
  refine ⟨fun u=>sub (hp w1) (hp u),aZ 1 h.l,ay rfl h1 ⟨_,fun u s=>row.cell0 s,ay rfl h1 ⟨_,fun u s=>row.cell s (j:=1) rfl,⟨by omega,by omega⟩,ah h fun k12 w10 h=>⟨aZ 2 h.l,?_⟩⟩⟩⟩
  refine (aQ (us:=tv K) aK (rfl:ag Ty _ = .slice _) (rfl:ag Ty _ = .slice _) rfl rfl rfl h rfl (by simp [aS]) z1.1 z1.2).mono ?_
  rintro _ w11 ⟨o6,c6,rfl,h⟩
  have e:tv (K ++ [⟨y.prod,y.dot + 1⟩]) = tv K ++ [.int .i64 y.prod,.int .i64 (y.dot + 1)]:=by rw [lE]; rfl
  refine ⟨_,_,_,rfl,aZ 2 h.l,hj1,⟨j + 1,by simp,h1,by rw [hk1]; simp,?_⟩,bA h1⟩
  rw [hk1,e]
  exact h.pick 3 [0,2]
 ·have h2:s≠dO g y:=fun e=>by rw [e] at h2; simp at h2
  rw [Sr h2] at hk1
  exact ⟨hj1,⟨j + 1,by simp,h1,by rw [hk1],by rw [hk1]; exact h⟩,bA h1⟩
theorem N_ (hf:A5 g I):A5 g (cls g I):=fun x hx=>(sC.1 hx).fit hf
end Go.Proofs.YtngdohpikfcifaaGreatDoor
namespace Go.V
def xS (h:Hp) (ss:List SQ) (o:Option Addr):Prop:=∀ (i:Nat) q,ss[i]? = some q→∃ ad,o = some ad∧ax h (ad.add (dP i 2)) (N1 q)∧aW h q.1.2 q.1.1.1 q.1.2.length∧aW h q.2.2 q.2.1.1 q.2.2.length
theorem xS.mono {h h' : Hp} {ss:List SQ} {o:Option Addr} (s:sub h h') (r:xS h ss o):xS h' ss o:=fun i q hq=>by
 obtain ⟨ad,h1,h2,h3,h4⟩:=r i q hq
 exact ⟨ad,h1,h2.mono s,h3.mono s,h4.mono s⟩
theorem Oa {h:Hp} {xs:List aL} {a:Option Addr} {l:Nat} (hl:xs.length = l) (r:gN a (F8 xs) h):aW h xs a l:=by
 refine ⟨hl,fun i x hx=>?_⟩
 rcases r with e | ⟨ad,rfl,hc⟩
 ·have h1:=congrArg List.length e
  rw [N0,T6] at h1
  have:=(Sk.1 hx).1; omega
 ·exact ⟨ad,LR x,rfl,dr (n:=2) (fun _=>rfl) xs ad hc i x hx,rfl⟩
theorem iq {h:Hp} {xs:List aL} {a:Option Addr} {l:Nat} (r:aW h xs a l) {i:Nat} (hi:i < l):∃ x ad,xs[i]? = some x∧a = some ad∧ax h (ad.add (dP i 2)) (LR x):=by
 obtain ⟨x,ad,vs,hx,ha,hr,e⟩:=r.get hi
 rw [show vs = LR x from e] at hr
 exact ⟨x,ad,hx,ha,hr⟩
theorem wx {h:Hp} {L:List aw} {ss:List SQ} {o:Option Addr} {n c:Nat} (hs:aE (own 2 o n c (tZ ss) :: aT (xO ss) :: aT (t_ ss) :: L) h):xS h ss o:=fun i q hq=>by
 obtain ⟨ad,e,r⟩:=xP (gB 0 hs) hq
 obtain ⟨h1,s1,a1⟩:=zR (bq hs) (DP hq)
 obtain ⟨h2,s2,a2⟩:=zR (bq (bq hs)) (Io hq)
 exact ⟨ad,e,r,(DQ a1).mono s1,(Oa rfl (bV a2)).mono s2⟩
def dv (g:af) (K:cf) (s:Nat):List Nat:=(List.range s).filter fun s=>decide (aF g K s≠[])
section
variable {g:af} {K:cf} {ss:List SQ} {asked:Int} {i s:Nat} {es:List aL}
theorem ir:dv g K (s + 1) = dv g K s ++ if aF g K (s:Int)≠[] then [s] else []:=by
 unfold dv
 rw [TX,Th]
 congr 1
 by_cases h:aF g K (s:Int)≠[]
 ·simp [h]
 ·simp [h]
theorem Ba:∀ (s n:Nat),s≤n→∃ t,dv g K n = dv g K s ++ t
  | s, 0, h => ⟨[], by have : s = 0 := by omega
                       subst this; simp⟩
  | s,n + 1,h=>by
    by_cases e:s = n + 1
    · subst e; exact ⟨[],by simp⟩
    · obtain ⟨t,ht⟩:=Ba s n (by omega)
      exact ⟨t ++ if aF g K (n:Int)≠[] then [n] else [],by rw [ir,ht,SI]⟩
theorem Fu (h:s≤g.T + g.N):dv g K s = (bp g K).take (dv g K s).length:=by
 obtain ⟨t,ht⟩:=Ba (g:=g) (K:=K) s _ h
 rw [show bp g K = dv g K (g.T + g.N) from rfl,ht,List.take_left' rfl]
theorem LY (hc:av g) (hf:∀ x∈K,mL g x):aF g K 0 = []:=by
 refine Tl fun h=>?_
 have:=qS (s:=0) hc hf (Int.le_refl _) h
 omega
structure JZ (g:af) (ss:List SQ) (asked:Int) (i:Nat):Prop where
 ks:bB ss = (ct g i).1
 es:bf ss = (ct g i).2 ++ List.replicate (ss.length - i) []
 lt:∀ j,j < i→j < (ct g j).1.length
 le:ss.length≤256
 ask:asked = 1 + (wv (ct g i).2:Int)
structure wy (g:af) (K:cf) (ss:List SQ) (asked:Int) (i s:Nat) (es:List aL):Prop where
 ks:bB ss = (ju g K (dv g K s) ((ct g i).1,[])).1
 ed:es = (ju g K (dv g K s) ((ct g i).1,[])).2
 eL:bf ss = (ct g i).2 ++ es :: List.replicate (ss.length - i - 1) []
 le:ss.length≤256
 ask:asked = 1 + (wv (ct g i).2:Int) + es.length
theorem JZ.start {b:Option Addr} {d:Nat}:JZ g [(((b,d),[⟨0,0⟩]),((none,0),[]))] 1 0:=⟨rfl,rfl,fun j hj=>by omega,by simp,rfl⟩
theorem JZ.inner (h:JZ g ss asked i) (hi:i < ss.length) (h0:aF g K 0 = []):wy g K ss asked i 1 []:=by
 have e:dv g K 1 = []:=by rw [show (1:Nat) = 0 + 1 from rfl,ir]; simp [h0,dv]
 refine ⟨by rw [e]; exact h.ks,by rw [e]; rfl,?_,h.le,by rw [h.ask]; simp⟩
 rw [h.es,show ss.length - i = (ss.length - i - 1) + 1 by omega,T0]; simp
theorem wy.skip (h:wy g K ss asked i s es) (hk:aF g K (s:Int) = []):wy g K ss asked i (s + 1) es:=by
 have e:dv g K (s + 1) = dv g K s:=by rw [ir]; simp [hk]
 exact ⟨by rw [e]; exact h.ks,by rw [e]; exact h.ed,h.eL,h.le,h.ask⟩
theorem Ob (ss:List SQ) (b:Option Addr) (d:Nat) (K:cf):bf (dW ss b d K) = bf ss ++ List.replicate ((dW ss b d K).length - ss.length) []:=by
 unfold dW
 split
 ·simp
 ·simp [bf]
theorem wy.next (h:wy g K ss asked i s es) (hk:aF g K (s:Int)≠[]) (hi:i < ss.length) (hes:(ct g i).2.length = i) {b:Option Addr} {d:Nat} (hle:(dW ss b d (aF g K s)).length≤256) {q:SQ} (hq:(dW ss b d (aF g K s))[i]? = some q) (E:Lq aL)
  (hE:E.2 = es ++ [⟨(s:Int),(((bB ss).idxOf (aF g K s):Nat):Int)⟩]):wy g K ((dW ss b d (aF g K s)).set i (q.1,E)) (asked + 1) i (s + 1) E.2:=by
 have e:dv g K (s + 1) = dv g K s ++ [s]:=by rw [ir,Sz hk]
 have hs:=xR hq E
 have hnl:=A_ ss b d (aF g K s)
 refine ⟨?_,?_,?_,by rw [SL]; exact hle,by rw [h.ask,hE]; simp; omega⟩
 ·rw [hs.1,zS,e,wj,h.ks]
 ·rw [hE,e,wj,h.ed,h.ks]
 ·rw [hs.2.2.1,Ob,h.eL,SL,SI,T3 _ _ (by omega),hes,Tx,List.cons_append,List.set_cons_zero,List.replicate_append_replicate]
  congr 3
  omega
theorem wy.done (h:wy g K ss asked i (g.T + g.N) es) (hb:∀ j,j < i→j < (ct g j).1.length) (hK:(ct g i).1[i]? = some K):JZ g ss asked (i + 1):=by
 have hb1:=dD hK
 refine ⟨by rw [hb1]; exact h.ks,?_,fun j hj=>?_,h.le,?_⟩
 ·rw [hb1,h.eL,h.ed,SI]; rfl
 ·by_cases e2:j = i
  ·subst e2; exact (Sk.1 hK).1
  ·exact hb j (by omega)
 ·rw [hb1,xQ,h.ask,h.ed]
  show _ = 1 + ((wv (ct g i).2 + (ju g K (bp g K) ((ct g i).1,[])).2.length:Nat):Int)
  rw [show bp g K = dv g K (g.T + g.N) from rfl]
  omega
theorem wy.len (h:wy g K ss asked i s es) (hs:s≤g.T + g.N):es.length≤s:=by
 rw [h.ed,il]
 have:=Tj (fun s=>decide (aF g K (s:Nat)≠[])) (List.range s)
 rw [Ts] at this
 simpa [dv] using this
theorem wy.get (h:wy g K ss asked i s es) (hes:(ct g i).2.length = i) {q:SQ} (hq:ss[i]? = some q):q.2.2 = es:=by
 have h1:(bf ss)[i]? = some q.2.2:=by unfold bf; rw [Sn,hq]; rfl
 rw [h.eL,SC (by omega),hes,Tx] at h1
 simpa using h1.symm
end
end Go.V
namespace Go.Proofs.YtngdohpikfcifaaGreatDoor
open Go.V
variable {w:World} {L:List aw} {g:af} {x:GA} {a a2:Option Addr} {l c l2 c2:Nat} {I J:List aj}
theorem Oc {ss:List SQ} {o:Option Addr} (hs:xS (hp w) ss o) (hx:aW (hp w) I a l) (hn:ss.length≤300) (hk:∀ q∈ss,q.1.2.length≤4611686018427387904):aC Tryz.prog qW [.slice o ss.length c,.slice a l c2] w fun v w'=>v = .int .i64 (if I∈bB ss then (((bB ss).idxOf I:Nat):Int) else -1)∧hp w' = hp w:=by
 refine nS _ _ _ _ _ _ w _ ⟨fun z w'=>∃ j:Nat,z = j∧j≤ss.length∧I∉(bB ss).take j∧hp w' = hp w,fun z _=>ss.length - z.toNat,⟨0,rfl,Sv _,by simp,rfl⟩,?_⟩
 rintro _ _ w1 ⟨j,rfl,hj,hni,e1⟩
 refine ae (fun h1=>?_) fun h1=>?_
 rotate_left
 ·have h1:j = ss.length:=by have:=Sj h1; omega
  rw [h1,SD (by rw [dh]; exact SF _)] at hni
  exact ⟨by rw [Sr hni],e1⟩
 have h1:j < ss.length:=by have:=Si h1; omega
 have hq:ss[j]? = some ss[j]:=Sm h1
 obtain ⟨ad,rfl,r,rk,_⟩:=hs j _ hq
 have hkj:(bB ss)[j]? = some (ss[j]).1.2:=by unfold bB; rw [Sn,hq]; rfl
 refine ay rfl h1 ⟨_,_,_,r.cell0 (uu e1),(Fs (by rw [e1]; exact rk) (by rw [e1]; exact hx) (hk _ (Sl hq))).mono ?_⟩
 rintro _ w2 ⟨rfl,e2⟩
 refine ⟨_,rfl,ae (fun h2=>?_) fun h2=>?_⟩
 ·have h2:(ss[j]).1.2 = I:=Si h2
  rw [h2] at hkj
  have hm:=Sl hkj
  rw [Sz hm]
  have hjl:j < (bB ss).length:=(Sk.1 hkj).1
  have:(bB ss).idxOf I = j:=by
   refine Nat.le_antisymm (TH fun hlt=>?_) (TH fun hlt=>hni ?_)
   ·have e3:(bB ss).idxOf I≤j:=by
     have e4:bB ss = (bB ss).take j ++ I :: (bB ss).drop (j + 1):=by
      rw [← (Sk.1 hkj).2,← Tz hjl,S5]
     rw [e4,List.idxOf_append,Sr hni]
     simp; omega
    omega
   ·have:=List.getElem_idxOf (TY hm)
    refine Sl (i:=(bB ss).idxOf I) ?_
    rw [TE,Sz hlt,Sm (TY hm),this]
  rw [this]
  exact ⟨rfl,e2.trans e1⟩
 ·have h2:(ss[j]).1.2≠I:=Sj h2
  exact ⟨⟨by omega,by omega⟩,⟨j + 1,by simp,h1,by rw [Su,hkj,Sp]; simp [hni,TM h2],e2.trans e1⟩,bA h1⟩
theorem LZ {kt c i:Nat} {s t:Int} {o:Option Addr} {rest:List Value} {ss:List SQ} {q:SQ} {X:World→Prop} (h:St w (aR kt (.slice o ss.length c :: rest) :: own 2 o ss.length c (tZ ss) :: aT (t_ ss) :: L)) (hq:ss[i]? = some q) (hsz:q.2.2.length≤1000)
  (hX:∀ (w' : World) (E:Lq aL),E.2 = q.2.2 ++ [⟨s,t⟩]→St w' (aR kt (.slice o ss.length c :: rest) :: own 2 o ss.length c (tZ (ss.set i (q.1,E))) :: aT (t_ (ss.set i (q.1,E))) :: L)→X w') :
  ∀ w1,drawn w w1→∃ C:World→Prop,C w1∧∃ o1 k1 k2,(∀ u,C u→u.cell? (aM kt) = some (vS o1 k1 k2))∧∃ o2 k3 k4,(∀ u,C u→u.cell? (aM kt) = some (vS o2 k3 k4))∧idx o2 k3 (i:Int) 2 fun a2=>∃ o3 k5 k6,(∀ u,C u→u.cell? (Addr.add a2 1) = some (vS o3 k5 k6)) ∧
   new w1 (oC [.int .i64 s,.int .i64 t] EX) fun k7 w2=>C w2∧az Tryz.prog (f_ BZ (Array.mk [vS o3 k5 k6,vS (some (aM k7)) 1 1])) w2 fun v w3=>∃ o4 k8 k9,v = vS o4 k8 k9∧C w3∧idx o1 k1 (i:Int) 2 fun a3=>st1 w3 (Addr.add a3 1) (vS o4 k8 k9) X:=by
 intro w1 hd
 have h:=h.eq (aD hd)
 have hil:=(Sk.1 hq).1
 obtain ⟨ad,rfl,_⟩:=xP (gB 1 h.l) hq
 have cA:∀ {u:World} {L' : List aw},St u (aR kt (.slice (some ad) ss.length c :: rest) :: L')→u.cell? (aM kt) = some (vS (some ad) ss.length c):=fun h=>(ai 0 h.l).cell0 (sub.refl _)
 have cB:∀ {u:World} {L' : List aw},St u (own 2 (some ad) ss.length c (tZ ss) :: L')→u.cell? ((ad.add (dP i 2)).add 1) = some (bF q.2):=fun h=>by
  obtain ⟨ad',e,r⟩:=xP (gB 0 h.l) hq
  cases e
  exact r.cell (sub.refl _) (j:=1) rfl
 refine ⟨fun u=>u.cell? (aM kt) = some (vS (some ad) ss.length c)∧u.cell? ((ad.add (dP i 2)).add 1) = some (bF q.2),⟨cA h,cB (h.pick 2 [1])⟩,_,_,_,fun u hu=>hu.1,_,_,_,fun u hu=>hu.1,ay rfl hil ⟨_,_,_,fun u hu=>hu.2,?_⟩⟩
 have h:=St.Ly (h.pick 3 [2,0,1]) (Io hq)
 refine ah h fun k7 w2 h=>⟨⟨cA (h.pick 4 [3]),cB (h.pick 5 [4])⟩,?_⟩
 have z1:(q.2.2.length + 1) * 16≤140737488355328∧q.2.2.length < 9223372036854775807:=by omega
 refine (aQ (us:=F8 q.2.2) aK (rfl:ag Ty _ = .slice _) (rfl:ag Ty _ = .slice _) rfl rfl rfl h rfl (by simp [aS]) z1.1 z1.2).mono ?_
 rintro _ w3 ⟨o4,c4,rfl,h⟩
 refine ⟨_,_,_,rfl,⟨cA (h.pick 4 [3]),cB (h.pick 5 [4])⟩,ay rfl hil ?_⟩
 rw [add_add,aH]
 refine gh (h.pick 5 [4,0,2,3]) rfl (by rw [DO]; omega) fun w4 h=>?_
 have e1:=Ip hq ((o4,c4),q.2.2 ++ [⟨s,t⟩])
 have e2:=xR hq ((o4,c4),q.2.2 ++ [⟨s,t⟩])
 have e3:(q.2.2 ++ [(⟨s,t⟩ : aL)]).length = q.2.2.length + 1:=by simp
 have e4:F8 (q.2.2 ++ [⟨s,t⟩]) = F8 q.2.2 ++ [.int .i64 s,.int .i64 t]:=by unfold F8; rw [Tv]; rfl
 refine hX w4 ((o4,c4),q.2.2 ++ [⟨s,t⟩]) rfl ?_
 rw [← e1,e2.2.2.2]
 have h:=St.PR (M:=t_ ss) (n:=i) (by unfold t_; rw [Ss]; exact hil) (h.pick 4 [1,2,0,3])
 unfold bX bF
 rw [e3,e4]
 exact h.pick 3 [2,1,0]
end Go.Proofs.YtngdohpikfcifaaGreatDoor
namespace Go.Proofs.YtngdohpikfcifaaGreatDoor
open Go.V
variable {w:World} {L:List aw} {g:af} {x:GA}
theorem Od (hg:gR (hp w) g x) (hb:iM g):aC Tryz.prog im [.agg ⟨x.cells⟩] w fun v w' =>
  (¬av g∧v = .tuple #[.agg #[.slice none 0 0,.int .i64 0,.int .i64 0],.int .i64 1]∧Gr w w') ∨
  (av g∧NU g∧v = .tuple #[.agg #[.slice none 0 0,.int .i64 0,.int .i64 0],.int .i64 11]∧Gr w w') ∨
  (av g∧∃ (o:Option Addr) (c:Nat) (ss:List SQ),bG g ss∧v = .tuple #[.agg #[.slice o ss.length c,.int .i64 (1 + (wv (bf ss):Int)),.int .i64 (ss.length:Int)],.int .i64 0] ∧
   St w' (own 2 o ss.length c (tZ ss) :: aT (xO ss) :: aT (t_ ss) :: all w)):=by
 refine nP _ _ _ _ _ _ _ _ _ _ _ _ _ w _ (de hg fun k1 w1 gw hg B=>?_)
 refine ah (St.all w1) fun k2 w2 h=>?_
 refine ⟨_,_,_,_,_,_,_,_,_,_,_,_,_,B.row h.aX,(Lt (hg.mono h.aX) hb).mono ?_⟩
 rintro _ w3 ⟨⟨rb,rfl,hrb⟩,g3⟩
 have h:=h.gr g3
 refine ⟨_,rfl,ae (fun h1=>?_) fun h1=>?_⟩
 ·have hn:¬av g:=fun hc=>by rw [hrb.2 hc] at h1; simp at h1
  exact bh h rfl (by simp [aS]) fun w4 h=>⟨_,_,_,_,_,(ai 0 h.l).at (sub.refl _) rfl,.inl ⟨hn,rfl,gw.trans h.aX⟩⟩
 have hc:av g:=hrb.1 (by simpa using h1)
 obtain ⟨hT,hN,hP,hP2,hT1,hN2⟩:=hc.eD
 refine ah h fun kt w5 h=>bh h rfl (by simp [aS]) fun w6 h=>⟨_,_,_,(ai 0 h.l).cell0 (sub.refl _),ah h fun k16 w7 h=>ah h fun k17 w8 h=>?_⟩
 refine (aQ (us:=[]) aK (rfl:ag Ty _ = .slice _) (rfl:ag Ty _ = .slice _) rfl rfl rfl ((aB 2 h).pick 2 [1,0]) rfl (by simp [aS]) (by decide) (by decide)).mono ?_
 rintro _ w9 ⟨o7,c7,rfl,h⟩
 refine ⟨_,_,_,rfl,bg (h.pick 4 [3,0,2]) (by simp) fun w10 h=>?_⟩
 have h:St w10 (aR kt [.slice o7 1 c7,.int .i64 1,.int .i64 1] :: own 2 o7 1 c7 [.slice (some (aM k16)) 1 1,.slice none 0 0] :: aR k16 [.int .i64 0,.int .i64 0] :: aR k2 z3 :: all w1):=h
 have h:St w10 (own 2 (some (aM k16)) 1 1 (tv [⟨0,0⟩]) :: aR kt [.slice o7 1 c7,.int .i64 1,.int .i64 1] :: own 2 o7 1 c7 [.slice (some (aM k16)) 1 1,.slice none 0 0] :: aR k2 z3 :: all w1):=eX (cs:=[]) (h.pick 3 [2,0,1]) rfl rfl (SF _)
 have h:=St.snoc (M:=[]) (((St.flat (M:=[])).2 h).pick 2 [1,0])
 have h:=St.snoc (M:=[]) ((aB 2 ((St.flat (M:=[])).2 h)).pick 2 [0,1])
 refine ⟨fun z w'=>∃ (i:Nat) (ss:List SQ) (o:Option Addr) (c:Nat) (asked:Int),z = i∧i≤ss.length∧JZ g ss asked i∧St w' (aR kt [.slice o ss.length c,.int .i64 asked,.int .i64 (ss.length:Int)] :: own 2 o ss.length c (tZ ss) :: aT (xO ss) :: aT (t_ ss) :: aR k2 z3 :: all w1),fun z _=>300 - z.toNat,
  ⟨0,[(((some (aM k16),1),[⟨0,0⟩]),((none,0),[]))],o7,c7,1,rfl,Sv _,.start,h.pick 5 [2,3,1,0,4]⟩,?_⟩
 clear h
 rintro _ _ w11 ⟨i,ss,o,c,asked,rfl,hi,hB,h⟩
 have hlen:ss.length≤256:=hB.le
 refine ⟨_,_,_,(ai 0 h.l).cell0 (sub.refl _),ae (fun h1=>?_) fun h1=>?_⟩
 rotate_left
 ·have h1:i = ss.length:=by have:=Sj h1; omega
  subst h1
  have hkl:=dh ss
  have hes:=hB.es
  rw [Tx,List.replicate_zero,S6] at hes
  have hA:bG g ss:=⟨⟨by rw [← hB.ks,hkl],hlen,hB.lt⟩,hB.ks,hes⟩
  have r0:ax (hp w11) (aM kt) [.slice o ss.length c,.int .i64 asked,.int .i64 (ss.length:Int)]:=ai 0 h.l
  refine ⟨_,_,_,_,_,r0.at (sub.refl _) rfl,bh (h.pick 6 [4,1,2,3,5]) rfl (by simp [aS]) fun w32 h=>⟨_,_,_,_,_,(ai 0 h.l).at (sub.refl _) rfl,.inr (.inr ⟨hc,o,c,ss,hA,?_,?_⟩)⟩⟩
  ·rw [hes,← hB.ask]
  ·exact St.on (N:=[_,_,_]) (h.pick 5 [1,2,3,4]) (cE gw)
 have h1:i < ss.length:=by have:=Si h1; omega
 obtain ⟨q,hq⟩ : ∃ q,ss[i]? = some q:=⟨_,Sm h1⟩
 obtain ⟨K,hKq⟩ : ∃ K,K = q.1.2:=⟨_,rfl⟩
 have hK:(ct g i).1[i]? = some K:=by rw [← hB.ks]; unfold bB; rw [Sn,hq,hKq]; rfl
 have hI:=jf (g:=g) (by omega) i
 have hKm:=Sl hK
 have hKf:=hI.fit K hKm
 have hKd:∀ x∈K,x.dot≤i:=hI.dots i K hK
 have hKl:=wu hP (hI.QJ K hKm) hKf fun x hx=>by have:=hKd x hx; omega
 have htot:=zT (g:=g) i
 have htot2:wv (ct g i).2≤33280:=SK htot (Nat.mul_le_mul (show i≤256 by omega) (show g.T + g.N≤130 by omega))
 have hes:=DE (g:=g) i (by rw [← hB.ks,dh]; omega)
 have hkap:∀ q∈ss,q.1.2.length≤29100:=fun q hq=>by
  obtain ⟨j,hj⟩:=SP hq
  have e:(ct g i).1[j]? = some q.1.2:=by rw [← hB.ks]; unfold bB; rw [Sn,hj]; rfl
  have hm:=Sl e
  have hjl:=(Sk.1 hj).1
  exact wu hP (hI.QJ _ hm) (hI.fit _ hm) fun x hx=>by have:=hI.dots j _ e x hx; omega
 have hql:q.1.2.length = K.length:=by rw [hKq]
 have hz16:q.1.2.length * 16≤140737488351232:=by rw [hql]; omega
 intro w12 hd
 have h:=h.eq (aD hd)
 have s12:sub (hp w1) (hp w12):=aZ 5 h.l
 have rt:ax (hp w12) (aM kt) [.slice o ss.length c,.int .i64 asked,.int .i64 (ss.length:Int)]:=ai 0 h.l
 obtain ⟨ad,rfl,rs,rk0,_⟩:=wx (h.pick 4 [1,2,3]).l i q hq
 have rk:aW (hp w12) K q.1.1.1 q.1.2.length:=by rw [hKq]; exact rk0
 clear rk0
 refine ⟨fun u=>Gr w12 u,Gr.refl _,_,_,_,_,_,_,_,_,_,_,_,_,_,fun u s=>B.row (sub.trans s12 s),_,_,_,fun u s=>rt.cell0 s,ay rfl h1 ⟨_,_,_,fun u s=>rs.cell0 s,(JY (hg.mono s12) hb hc rk hKf hz16).mono ?_⟩⟩
 rintro _ w16 ⟨oc,cc,rfl,h16⟩
 have h:=h16.vK h.l
 have hcl:=DN g K
 refine ⟨_,_,_,rfl,h16.aX,fun z w'=>∃ (s:Nat) (ss' : List SQ) (es:List aL) (o' : Option Addr) (c' : Nat) (asked' : Int),z = s∧1≤s∧s≤g.T + g.N∧wy g K ss' asked' i s es∧ss.length≤ss'.length∧(∀ q∈ss',q.1.2.length≤29300) ∧
   St w' (aR kt [.slice o' ss'.length c',.int .i64 asked',.int .i64 (ss'.length:Int)] :: own 2 o' ss'.length c' (tZ ss') :: aT (xO ss') :: aT (t_ ss') :: own 2 oc (cls g K).length cc (tv (cls g K)) :: aR k2 z3 :: all w1),fun z _=>200 - z.toNat,
  ⟨1,ss,[],some ad,c,asked,rfl,SF _,by omega,hB.inner h1 (LY hc hKf),SF _,fun q hq=>SK (hkap q hq) (by omega),h.pick 5 [1,2,3,4,0]⟩,?_⟩
 clear h h16 rs rk rt hq hKq hql
 rintro _ _ w17 ⟨s,ss',es,o',c',asked',rfl,hs1,hs2,hL,hle,hkap,h⟩
 have hle2:ss'.length≤256:=hL.le
 have hesl:=hL.len hs2
 have s17:sub (hp w1) (hp w17):=aZ 6 h.l
 refine ⟨_,_,_,_,_,_,_,_,_,_,_,_,_,B.row s17,(jt (hg.mono s17) hb).mono ?_⟩
 rintro _ w18 ⟨rfl,g18⟩
 have h:=h.gr g18
 refine ⟨_,rfl,ae (fun h2=>?_) fun h2=>?_⟩
 rotate_left
 ·have h2:s = g.T + g.N:=by have:=Sj h2; omega
  rw [h2] at hL
  exact ⟨⟨by omega,by omega⟩,⟨i + 1,ss',o',c',asked',by simp,by omega,hL.done hB.lt hK,h.pick 6 [0,1,2,3,5]⟩,by dsimp only; omega⟩
 have h2:s < g.T + g.N:=by have:=Si h2; omega
 have s18:sub (hp w1) (hp w18):=aZ 6 h.l
 have hsI:aG ((s:Int) + 1):=⟨by omega,by omega⟩
 have hms:200 - ((s:Int) + 1).toNat < 200 - (s:Int).toNat:=by omega
 have hKk:∀ x∈aF g K (s:Int),mL g x:=AZ hKf (S_ _)
 have hkl2:(aF g K (s:Int)).length≤(cls g K).length:=sI g _ _
 have hkl3:(aF g K (s:Int)).length≤29300:=SK hkl2 (SK hcl (by omega))
 have hcf:A5 g (cls g K):=N_ hKf
 refine ⟨_,_,_,_,_,_,_,_,_,_,_,_,_,B.row s18,(PY (s:=(s:Int)) (hg.mono s18) hb (b9 (h.pick 5 [4])) hcf (SK hcl (by omega))).mono ?_⟩
 rintro _ w19 ⟨o24,c24,rfl,h19⟩
 have h:=h19.vK h.l
 have elk:lay (dt g (cls g K) (s:Int)) = aF g K (s:Int):=mK AX
 rw [elk] at h ⊢
 clear h19
 refine ⟨_,_,_,rfl,ae (fun h3=>?_) fun h3=>?_⟩
 ·have h3:aF g K (s:Int) = []:=by
   have:=eq_of_beq h3
   exact SV (by omega)
  exact ⟨hsI,⟨s + 1,ss',es,o',c',asked',by simp,by omega,h2,hL.skip h3,hle,hkap,h.pick 8 [1,2,3,4,5,6,7]⟩,hms⟩
 have h3:aF g K (s:Int)≠[]:=fun e=>by rw [e] at h3; simp at h3
 have hask:=hL.ask
 refine ⟨_,(ai 1 h.l).cell (sub.refl _) (j:=1) rfl,⟨by omega,by omega⟩,?_⟩
 rw [aO]
 refine bg (h.pick 2 [1,0]) (by simp) fun w20 h=>?_
 have h:St w20 (aR kt [.slice o' ss'.length c',.int .i64 (asked' + 1),.int .i64 (ss'.length:Int)] :: own 2 o24 (aF g K (s:Int)).length c24 (tv (aF g K (s:Int))) :: own 2 o' ss'.length c' (tZ ss') :: aT (xO ss') :: aT (t_ ss') :: own 2 oc (cls g K).length cc (tv (cls g K)) :: aR k2 z3 :: all w1):=h
 refine ⟨_,_,_,(ai 0 h.l).cell0 (sub.refl _),(Oc (c:=c') (c2:=c24) (wx (h.pick 5 [2,3,4]).l) (b9 (h.pick 2 [1])) (by omega) fun q hq=>SK (hkap q hq) (by decide)).mono ?_⟩
 rintro _ w21 ⟨rfl,e21⟩
 have h:=h.eq e21
 have hnl:=A_ ss' o24 c24 (aF g K (s:Int))
 obtain ⟨q,hq⟩ : ∃ q,ss'[i]? = some q:=⟨_,Sm (by omega)⟩
 have hqe:=hL.get hes hq
 refine ⟨_,rfl,ae (fun h4=>?_) fun h4=>?_⟩
 rotate_left
 ·have hm:aF g K (s:Int)∈bB ss':=Tl fun hn=>by rw [Sr hn] at h4; exact absurd (Sj h4) (by decide)
  have hnS:dW ss' o24 c24 (aF g K (s:Int)) = ss':=by unfold dW; rw [Sz hm]
  rw [Sz hm]
  refine LZ (h.pick 5 [0,2,4,3]) hq (by rw [hqe]; omega) fun w40 E hE h=>?_
  have hn:=hL.next (b:=o24) (d:=c24) (q:=q) h3 (by omega) hes (by rw [hnS]; exact hle2) (by rw [hnS]; exact hq) E (by rw [hE,hqe])
  rw [hnS] at hn
  have e2:=xR hq E
  refine ⟨hsI,⟨s + 1,ss'.set i (q.1,E),E.2,o',c',asked' + 1,by simp,by omega,h2,hn,by rw [SL]; exact hle,fun r hr=>?_,?_⟩,hms⟩
  ·rcases List.mem_or_eq_of_mem_set hr with hr | rfl
   ·exact hkap r hr
   ·exact hkap q (Sl hq)
  ·rw [SL,e2.2.1]
   exact h.pick 4 [0,1,3,2]
 have hm:aF g K (s:Int)∉bB ss':=fun hm=>by
  rw [Sz hm] at h4
  have:=Si h4; omega
 have hnS:dW ss' o24 c24 (aF g K (s:Int)) = ss' ++ [(((o24,c24),aF g K (s:Int)),((none,0),[]))]:=by unfold dW; rw [Sr hm]
 refine ⟨_,_,_,(ai 0 h.l).cell0 (sub.refl _),ae (fun h5=>?_) fun h5=>?_⟩
 ·have h5:256≤ss'.length:=by have:=Si h5; omega
  refine bh (h.pick 8 [6,7]) rfl (by simp [aS]) fun w22 h=>⟨_,_,_,_,_,(ai 0 h.l).at (sub.refl _) rfl,.inr (.inl ⟨hc,⟨i,K,(dv g K (s + 1)).length,hK,fun j hj=>?_,?_⟩,rfl,sub.trans gw (aZ 1 h.l)⟩)⟩
  ·by_cases e:j = i
   ·subst e; exact (Sk.1 hK).1
   ·exact hB.lt j (by omega)
  ·rw [← Fu (g:=g) (K:=K) (s:=s + 1) h2,ir,Sz h3,wj,← hL.ks]
   show 256 < (oM _ _).length
   unfold oM
   rw [Sr hm,Sx,dh]; simp; omega
 have h5:ss'.length < 256:=by have:=Sj h5; omega
 refine ⟨_,(ai 0 h.l).cell (sub.refl _) (j:=2) rfl,⟨by omega,by omega⟩,?_⟩
 rw [aO]
 refine bg h (by simp) fun w23 h=>⟨_,_,_,(ai 0 h.l).cell0 (sub.refl _),ah h fun k62 w24 h=>?_⟩
 have z1:(ss'.length + 1) * 48≤140737488355328∧ss'.length < 9223372036854775807:=by omega
 refine (aQ (us:=tZ ss') aK (rfl:ag Ty _ = .slice _) (rfl:ag Ty _ = .slice _) rfl rfl rfl (h.pick 4 [0,3,1,2]) rfl (by simp [aS]) z1.1 z1.2).mono ?_
 rintro _ w25 ⟨o29,c29,rfl,h⟩
 refine ⟨_,_,_,rfl,bg (h.pick 4 [2,0,3]) (by simp) fun w26 h=>?_⟩
 have h:St w26 (aR kt [.slice o29 (ss'.length + 1) c29,.int .i64 (asked' + 1),.int .i64 ((ss'.length:Int) + 1)] :: own 2 o29 (ss'.length + 1) c29 (tZ ss' ++ [.slice o24 (aF g K (s:Int)).length c24,.slice none 0 0]) :: own 2 o24 (aF g K (s:Int)).length c24 (tv (aF g K (s:Int))) :: aT (xO ss') :: aT (t_ ss') :: own 2 oc (cls g K).length cc (tv (cls g K)) :: aR k2 z3 :: all w1):=h
 have h:=St.snoc (h.pick 4 [2,3,0,1])
 have h:=St.snoc ((aB 2 h).pick 5 [0,4,1,2,3])
 have h:St w26 (aT (t_ ss' ++ [own 2 none 0 0 []]) :: aT (xO ss' ++ [own 2 o24 (aF g K (s:Int)).length c24 (tv (aF g K (s:Int)))]) :: aR kt [.slice o29 (ss'.length + 1) c29,.int .i64 (asked' + 1),.int .i64 ((ss'.length:Int) + 1)] :: own 2 o29 (ss'.length + 1) c29 (tZ ss' ++ [.slice o24 (aF g K (s:Int)).length c24,.slice none 0 0]) :: own 2 oc (cls g K).length cc (tv (cls g K)) :: aR k2 z3 :: all w1):=h
 have e3:tZ (ss' ++ [(((o24,c24),aF g K (s:Int)),((none,0),[]))]) = tZ ss' ++ [.slice o24 (aF g K (s:Int)).length c24,.slice none 0 0]:=by rw [Fl]; rfl
 have e4:xO (ss' ++ [(((o24,c24),aF g K (s:Int)),((none,0),[]))]) = xO ss' ++ [own 2 o24 (aF g K (s:Int)).length c24 (tv (aF g K (s:Int)))]:=by simp [xO,bX]
 have e5:t_ (ss' ++ [(((o24,c24),aF g K (s:Int)),((none,0),[]))]) = t_ ss' ++ [own 2 none 0 0 []]:=by simp [t_,bX,F8]
 have e6:(ss' ++ [(((o24,c24),aF g K (s:Int)),(((none,0),[]):Lq aL))]).length = ss'.length + 1:=by simp
 have e7:((ss'.length:Int) + 1) = ((ss'.length + 1:Nat):Int):=by omega
 have eix:((bB ss').idxOf (aF g K (s:Int)):Nat) = ss'.length:=by rw [List.idxOf_eq_length hm,dh]
 rw [← e3,← e4,← e5,e7,← e6] at h
 obtain ⟨q2,hq2⟩ : ∃ q2,(dW ss' o24 c24 (aF g K (s:Int)))[i]? = some q2:=⟨_,Sm (by omega)⟩
 have hq3:=hq2
 rw [hnS] at hq3
 have e8:q2 = q:=by rw [Sw (by omega),hq] at hq3; exact (Option.some.inj hq3).symm
 subst e8
 refine LZ (t:=(ss'.length:Int)) (h.pick 4 [2,3,0,1]) hq3 (by rw [hqe]; omega) fun w40 E hE h=>?_
 have hn:=hL.next (b:=o24) (d:=c24) (q:=q2) h3 (by omega) hes (by rw [hnS,e6]; omega) hq2 E (by rw [hE,hqe,eix])
 rw [hnS] at hn
 have e2:=xR hq3 E
 refine ⟨hsI,⟨s + 1,_,E.2,o29,c29,asked' + 1,by simp,by omega,h2,hn,by rw [SL,e6]; omega,fun r hr=>?_,?_⟩,hms⟩
 ·rcases List.mem_or_eq_of_mem_set hr with hr | rfl
  ·rcases Sp.1 hr with hr | hr
   ·exact hkap r hr
   ·rw [SE] at hr; subst hr; exact hkl3
  ·exact hkap q2 (Sl hq)
 ·rw [SL,e2.2.1]
  exact h.pick 4 [0,1,3,2]
end Go.Proofs.YtngdohpikfcifaaGreatDoor

namespace Go.V
theorem Fv {α : Type} [nI α] {h:Hp} {xs:List α} {b:Nat} {vs:List Value} (r:ax h ⟨b,0,none⟩ vs) (hx:∀ (i:Nat) x,xs[i]? = some x→rd h x ((vs.drop (i * nI.n α)).take (nI.n α))):aW h xs (some ⟨b,0,none⟩) xs.length :=
 ⟨rfl,fun i x hi=>by
  refine ⟨_,_,rfl,fun j v hj=>?_,hx i x hi⟩
  rw [TE] at hj
  split at hj
  ·rw [S8] at hj
   rw [add_add,aH]
   exact r _ v hj
  ·cases hj⟩
end Go.V
namespace Go.V
def vf (g:af) (ss:List SQ) (ask int f:Int):Prop :=
 (¬av g∧ss = []∧ask = 0∧int = 0∧f = 1)∨(av g∧NU g∧ss = []∧ask = 0∧int = 0∧f = 11)∨(av g∧bG g ss∧ask = 1 + (wv (bf ss):Int)∧int = (ss.length:Int)∧f = 0)
theorem vf.one {g:af} {ss ss' : List SQ} {a i f a' i' f' : Int} (h:vf g ss a i f) (h' : vf g ss' a' i' f'):bB ss = bB ss'∧bf ss = bf ss'∧a = a'∧i = i'∧f = f'∧ss.length = ss'.length:=by
 rcases h with ⟨h1,rfl,rfl,rfl,rfl⟩ | ⟨h1,hb,rfl,rfl,rfl,rfl⟩ | ⟨h1,hA,rfl,rfl,rfl⟩
 ·rcases h' with ⟨h2,rfl,rfl,rfl,rfl⟩ | ⟨h2,_⟩ | ⟨h2,_⟩
  ·exact ⟨rfl,rfl,rfl,rfl,rfl,rfl⟩
  ·exact absurd h2 h1
  ·exact absurd h2 h1
 ·rcases h' with ⟨h2,_⟩ | ⟨h2,_,rfl,rfl,rfl,rfl⟩ | ⟨h2,hA,_⟩
  ·exact absurd h1 h2
  ·exact ⟨rfl,rfl,rfl,rfl,rfl,rfl⟩
  ·exact (A0 hA.dn hb).elim
 ·rcases h' with ⟨h2,_⟩ | ⟨h2,hb,_⟩ | ⟨h2,hA',rfl,rfl,rfl⟩
  ·exact absurd h1 h2
  ·exact (A0 hA.dn hb).elim
  ·have e:=E_ hA.dn hA'.dn
   have e2:bf ss = bf ss':=by rw [hA.es,hA'.es,e]
   refine ⟨by rw [hA.ks,hA'.ks,e],e2,by rw [e2],by rw [e],rfl,e⟩
theorem bG.wz {g:af} {ss:List SQ} (hc:av g) (h:bG g ss):∀ q∈ss,q.1.2.length≤29100∧q.2.2.length≤130:=fun q hq=>by
 obtain ⟨hT,hN,hP,hP2,_,_⟩:=hc.eD
 have hI:=jf (g:=g) (by omega) ss.length
 obtain ⟨j,hj⟩:=SP hq
 have e:(ct g ss.length).1[j]? = some q.1.2:=by rw [← h.ks]; unfold bB; rw [Sn,hj]; rfl
 have e2:(ct g ss.length).2[j]? = some q.2.2:=by rw [← h.es]; unfold bf; rw [Sn,hj]; rfl
 have hm:=Sl e
 have hjl:=(Sk.1 hj).1
 have h256:=h.dn.2.1
 refine ⟨wu hP (hI.QJ _ hm) (hI.fit _ hm) fun x hx=>by have:=hI.dots j _ e x hx; omega,?_⟩
 have key:∀ i,∀ es∈(ct g i).2,es.length≤g.T + g.N:=by
  intro i
  induction i with
  | zero=>intro es hes; simp [ct] at hes
  | succ i ih =>
   intro es hes
   cases hi:(ct g i).1[i]? with
   | none=>rw [mM hi] at hes; exact ih es hes
   | some K =>
    rw [dD hi] at hes
    rcases Sp.1 hes with hes | hes
    ·exact ih es hes
    ·rw [SE] at hes
     subst hes
     rw [il]
     have:=Tj (fun s=>decide (aF g K (s:Nat)≠[])) (List.range (g.T + g.N))
     rw [Ts] at this
     simpa [bp] using this
 have:=key _ _ (Sl e2)
 omega
theorem vf.wz {g:af} {ss:List SQ} {a i f:Int} (h:vf g ss a i f):(∀ q∈ss,q.1.2.length≤29100∧q.2.2.length≤130)∧ss.length≤256:=by
 rcases h with ⟨_,rfl,_⟩ | ⟨_,_,rfl,_⟩ | ⟨hc,hA,_⟩
 ·exact ⟨fun q hq=>by simp at hq,by simp⟩
 ·exact ⟨fun q hq=>by simp at hq,by simp⟩
 ·exact ⟨hA.wz hc,hA.dn.2.1⟩
end Go.V
namespace Go.Proofs.YtngdohpikfcifaaGreatDoor
open Go.V
section
variable {w:World} {L:List aw} {g:af} {x:GA}
theorem Fw (hg:gR (hp w) g x) (hb:iM g):aC Tryz.prog yQ [.agg ⟨x.cells⟩] w fun v w'=>∃ (o:Option Addr) (c:Nat) (ss:List SQ) (ask int f:Int),v = .tuple #[.agg #[.slice o ss.length c,.int .i64 ask,.int .i64 int],.int .i64 f]∧vf g ss ask int f∧St w' (own 2 o ss.length c (tZ ss) :: aT (xO ss) :: aT (t_ ss) :: all w):=by
 refine (N5 hg hb).mono ?_
 have z:∀ {w' : World},Gr w w'→St w' (own 2 none 0 0 (tZ []) :: aT (xO []) :: aT (t_ []) :: all w):=fun gr=>aB 2 ((St.flat (M:=[])).2 ((St.flat (M:=[])).2 (St.here gr)))
 rintro _ w' (⟨hn,rfl,gr⟩ | ⟨hc,hbig,rfl,gr⟩ | ⟨hc,o,ss,hA,rfl,h⟩)
 ·exact ⟨none,0,[],0,0,1,rfl,.inl ⟨hn,rfl,rfl,rfl,rfl⟩,z gr⟩
 ·exact ⟨none,0,[],0,0,11,rfl,.inr (.inl ⟨hc,hbig,rfl,rfl,rfl,rfl⟩),z gr⟩
 ·exact ⟨o,_,ss,_,_,0,rfl,.inr (.inr ⟨hc,hA,rfl,rfl,rfl⟩),h⟩
theorem L0 (hg:gR (hp w) g x) (hb:iM g):aC Tryz.prog im [.agg ⟨x.cells⟩] w fun v w'=>∃ (o:Option Addr) (c:Nat) (ss:List SQ) (ask int f:Int),v = .tuple #[.agg #[.slice o ss.length c,.int .i64 ask,.int .i64 int],.int .i64 f]∧vf g ss ask int f∧St w' (own 2 o ss.length c (tZ ss) :: aT (xO ss) :: aT (t_ ss) :: all w):=by
 refine (Od hg hb).mono ?_
 have z:∀ {w' : World},Gr w w'→St w' (own 2 none 0 0 (tZ []) :: aT (xO []) :: aT (t_ []) :: all w):=fun gr=>aB 2 ((St.flat (M:=[])).2 ((St.flat (M:=[])).2 (St.here gr)))
 rintro _ w' (⟨hn,rfl,gr⟩ | ⟨hc,hbig,rfl,gr⟩ | ⟨hc,o,c,ss,hA,rfl,h⟩)
 ·exact ⟨none,0,[],0,0,1,rfl,.inl ⟨hn,rfl,rfl,rfl,rfl⟩,z gr⟩
 ·exact ⟨none,0,[],0,0,11,rfl,.inr (.inl ⟨hc,hbig,rfl,rfl,rfl,rfl⟩),z gr⟩
 ·exact ⟨o,_,ss,_,_,0,rfl,.inr (.inr ⟨hc,hA,rfl,rfl,rfl⟩),h⟩
end
end Go.Proofs.YtngdohpikfcifaaGreatDoor
namespace Go.Proofs.YtngdohpikfcifaaGreatDoor
open Go.V
section
variable {w:World} {L:List aw} {g:af} {x:GA}
def lens (ss:List SQ) (i:Nat):Prop:=∀ (j:Nat) q,i≤j→ss[j]? = some q→q.1.2.length≤29100∧q.2.2.length≤130
end
end Go.Proofs.YtngdohpikfcifaaGreatDoor
namespace Go.V
section
variable {g:af} {K:cf} {st:List cf} {n i j:Nat}
theorem Ir {k:cf}:(oM st k)[st.idxOf k]? = some k:=by
 unfold oM
 split
 ·rename_i h
  rw [Sm (TY h),List.getElem_idxOf]
 ·rename_i h
  rw [List.idxOf_eq_length h,SC (SF _),Tx]; rfl
theorem Bb:∀ (l:List Nat) (st:List cf) (es:List aL) (k s:Nat),l[k]? = some s→∃ to:Nat,(ju g K l (st,es)).2[es.length + k]? = some ⟨(s:Int),(to:Int)⟩∧(ju g K l (st,es)).1[to]? = some (aF g K (s:Int))
 | [],_,_,_,_,h=>by simp at h
 | a :: l,st,es,0,s,h=>by
  simp at h; subst h
  refine ⟨st.idxOf (aF g K (a:Int)),?_,?_⟩
  ·show (ju g K l (oM st (aF g K (a:Int)),es ++ [⟨(a:Int),_⟩])).2[es.length + 0]? = _
   have pre:∀ (l:List Nat) (st:List cf) (es:List aL) (k:Nat) e,es[k]? = some e→(ju g K l (st,es)).2[k]? = some e:=by
    intro l
    induction l with
    | nil=>exact fun st es k e h=>h
    | cons b l ih =>
     intro st es k e h
     exact ih _ _ k e (by rw [Sw (Sk.1 h).1]; exact h)
   exact pre l _ _ _ _ (by rw [Nat.add_zero,SC (SF _),Tx]; rfl)
  ·show (ju g K l (oM st (aF g K (a:Int)),es ++ [⟨(a:Int),_⟩])).1[_]? = _
   exact qH l _ _ _ _ Ir
 | a :: l,st,es,k + 1,s,h=>by
  obtain ⟨to,h1,h2⟩:=Bb l (oM st (aF g K (a:Int))) (es ++ [⟨(a:Int),((st.idxOf (aF g K (a:Int)):Nat):Int)⟩]) k s (by simpa using h)
  refine ⟨to,?_,h2⟩
  rw [Sx,T5] at h1
  rw [show es.length + (k + 1) = es.length + 1 + k by omega]
  exact h1
theorem J0 {i n:Nat} (h:i≤n) (j:Nat) (e:List aL) (he:(ct g i).2[j]? = some e):(ct g n).2[j]? = some e:=by
 induction h with
 | refl=>exact he
 | @step m _ ih =>
  cases hi:(ct g m).1[m]? with
  | none=>rw [mM hi]; exact ih
  | some K=>rw [dD hi,Sw (Sk.1 ih).1]; exact ih
theorem uI {ss:List SQ} (h:bG g ss) {i:Nat} {q:SQ} (hq:ss[i]? = some q):(ct g i).1[i]? = some q.1.2∧q.2.2 = (ju g q.1.2 (bp g q.1.2) ((ct g i).1,[])).2∧∀ (j:Nat) K,(ct g (i + 1)).1[j]? = some K→∃ r,ss[j]? = some r∧r.1.2 = K:=by
 have hil:=(Sk.1 hq).1
 have hlt:=h.dn.2.2 i hil
 have e1:(ct g ss.length).1[i]? = some q.1.2:=by rw [← h.ks]; unfold bB; rw [Sn,hq]; rfl
 obtain ⟨K,hK⟩ : ∃ K,(ct g i).1[i]? = some K:=⟨_,Sm hlt⟩
 have e2:=wm (Nat.le_of_lt hil) i K hK
 rw [e1] at e2
 cases e2
 refine ⟨hK,?_,fun j K' hj=>?_⟩
 ·have hb:=dD hK
  have hes:=DE (g:=g) i (by omega)
  have e3:(ct g (i + 1)).2[i]? = some (ju g q.1.2 (bp g q.1.2) ((ct g i).1,[])).2:=by
   rw [hb,SC (by omega),hes,Tx]; rfl
  have e4:=J0 hil i _ e3
  rw [← h.es] at e4
  unfold bf at e4
  rw [Sn,hq] at e4
  exact Option.some.inj e4
 ·have e5:=wm hil j K' hj
  rw [← h.ks] at e5
  unfold bB at e5
  rw [Sn] at e5
  cases hr:ss[j]? with
  | none=>rw [hr] at e5; cases e5
  | some r=>rw [hr] at e5; exact ⟨r,rfl,Option.some.inj e5⟩
theorem bG.pos {ss:List SQ} (h:bG g ss):0 < ss.length:=by
 refine Nat.pos_of_ne_zero fun h0=>?_
 have:=h.dn.1
 rw [h0] at this
 simp [ct] at this
end
end Go.V
namespace Go.V
section
variable {g:af} {K K' : cf} {s s' : Int} {ss:List SQ}
theorem Is:∀ (l:List Nat) (st:List cf) (es:List aL) (j:Nat) (L:cf),st.length≤j→(ju g K l (st,es)).1[j]? = some L→∃ k s:Nat,l[k]? = some s∧L = aF g K (s:Int)∧(ju g K l (st,es)).2[es.length + k]? = some ⟨(s:Int),(j:Int)⟩
 | [],st,es,j,L,hj,h=>by
  have:=(Sk.1 h).1
  have h2:(ju g K [] (st,es)).1.length = st.length:=rfl
  omega
 | a :: l,st,es,j,L,hj,h=>by
  by_cases hlt:(oM st (aF g K (a:Int))).length≤j
  ·obtain ⟨k,s,h1,h2,h3⟩:=Is l (oM st (aF g K (a:Int))) (es ++ [(⟨(a:Int),((st.idxOf (aF g K (a:Int)):Nat):Int)⟩ : aL)]) j L hlt h
   refine ⟨k + 1,s,by simpa using h1,h2,?_⟩
   rw [Sx,T5] at h3
   rw [show es.length + (k + 1) = es.length + 1 + k by omega]
   exact h3
  ·have hn:aF g K (a:Int)∉st:=fun hm=>by
    have:(oM st (aF g K (a:Int))).length = st.length:=by unfold oM; rw [Sz hm]
    omega
   have hlen:(oM st (aF g K (a:Int))).length = st.length + 1:=by unfold oM; rw [Sr hn]; simp
   have hjs:j = st.length:=by omega
   obtain ⟨to,h1,h2⟩:=Bb (g:=g) (K:=K) (a :: l) st es 0 a rfl
   have e:st.idxOf (aF g K (a:Int)) = st.length:=List.idxOf_eq_length hn
   have hj2:(oM st (aF g K (a:Int)))[j]? = some (aF g K (a:Int)):=by rw [hjs,← e]; exact Ir
   have hL:=qH l (oM st (aF g K (a:Int))) (es ++ [(⟨(a:Int),((st.idxOf (aF g K (a:Int)):Nat):Int)⟩ : aL)]) j _ hj2 (g:=g) (K:=K)
   have h:(ju g K l (oM st (aF g K (a:Int)),es ++ [(⟨(a:Int),((st.idxOf (aF g K (a:Int)):Nat):Int)⟩ : aL)])).1[j]? = some L:=h
   rw [hL] at h
   refine ⟨0,a,rfl,(Option.some.inj h).symm,?_⟩
   have pre:∀ (l:List Nat) (st:List cf) (es:List aL) (k:Nat) e,es[k]? = some e→(ju g K l (st,es)).2[k]? = some e:=by
    intro l
    induction l with
    | nil=>exact fun st es k e h=>h
    | cons b l ih =>
     intro st es k e h
     exact ih _ _ k e (by rw [Sw (Sk.1 h).1]; exact h)
   show (ju g K l (oM st (aF g K (a:Int)),es ++ [⟨(a:Int),_⟩])).2[es.length + 0]? = _
   exact pre l _ _ _ _ (by rw [Nat.add_zero,SC (SF _),Tx,hjs,e]; rfl)
theorem fl (hc:av g) (h:bG g ss) {i:Nat} {q:SQ} (hq:ss[i]? = some q) {m:Nat} {e:aL} (he:q.2.2[m]? = some e):1≤e.sym∧e.sym < g.T + g.N∧∃ (j:Nat) (r:SQ),e.to = j∧1≤j∧ss[j]? = some r∧r.1.2 = aF g q.1.2 e.sym∧aF g q.1.2 e.sym≠[]:=by
 obtain ⟨hK,hE,hto⟩:=uI h hq
 obtain ⟨_,_,_,hP2,_,_⟩:=hc.eD
 have hI:=jf (g:=g) (by omega) i
 have hKf:=hI.fit _ (Sl hK)
 have hml:m < (bp g q.1.2).length:=by
  have:=(Sk.1 he).1
  rw [hE,il] at this
  simpa using this
 obtain ⟨to,h1,h2⟩:=Bb (g:=g) (K:=q.1.2) (bp g q.1.2) (ct g i).1 [] m _ (Sm hml)
 rw [← hE] at h1
 have h1:q.2.2[m]? = some ⟨(((bp g q.1.2)[m] : Nat):Int),(to:Int)⟩:=by simpa using h1
 rw [he] at h1
 have h1:=Option.some.inj h1
 have hne:=sD (g:=g) (K:=q.1.2) _ (List.getElem_mem hml)
 obtain ⟨r,hr,hrK⟩:=hto to _ (by rw [dD hK]; exact h2)
 have hsy:=qS hc hKf (S_ _) hne
 rw [h1]
 refine ⟨hsy.1,hsy.2,to,r,rfl,Nat.pos_of_ne_zero fun h0=>?_,hr,hrK,hne⟩
 subst h0
 have e0:(ct g ss.length).1[0]? = some [⟨0,0⟩]:=wm (Sv _) 0 _ rfl
 rw [← h.ks] at e0
 unfold bB at e0
 rw [Sn,hr] at e0
 have e0:r.1.2 = [⟨0,0⟩]:=Option.some.inj e0
 rw [hrK] at e0
 have hm:(⟨0,0⟩ : aj)∈aF g q.1.2 (((bp g q.1.2)[m] : Nat):Int):=by rw [e0]; simp
 obtain ⟨y,hy,_,e⟩:=ik.1 hm
 injection e with _ e2
 have:=(hy.fit hKf).2.1
 omega
theorem L1 (hc:av g) (h:bG g ss) {j:Nat} (hj:1≤j) (hjl:j < ss.length):∃ (i:Nat) (q:SQ) (m:Nat) (e:aL),i < j∧ss[i]? = some q∧q.2.2[m]? = some e∧e.to = j:=by
 have key:∀ n,n≤ss.length→j < (ct g n).1.length→∃ (i:Nat) (K:cf),i < n∧(ct g i).1[i]? = some K∧(ct g i).1.length≤j∧j < (ct g (i + 1)).1.length:=by
  intro n
  induction n with
  | zero=>intro _ h2; have:(ct g 0).1.length = 1:=rfl; omega
  | succ n ih =>
   intro hn h2
   by_cases h3:j < (ct g n).1.length
   ·obtain ⟨i,K,h4,h5⟩:=ih (by omega) h3
    exact ⟨i,K,by omega,h5⟩
   ·exact ⟨n,_,Nat.lt_succ_self n,Sm (h.dn.2.2 n (by omega)),by omega,h2⟩
 obtain ⟨i,K,h1,h2,h3,h4⟩:=key ss.length (SF _) (by rw [h.dn.1]; exact hjl)
 have hil:i < ss.length:=h1
 obtain ⟨q,hq⟩ : ∃ q,ss[i]? = some q:=⟨_,Sm hil⟩
 obtain ⟨hK,hE,_⟩:=uI h hq
 rw [h2] at hK
 cases hK
 have hlt:=h.dn.2.2 i hil
 rw [dD h2] at h4
 obtain ⟨m,s,h5,h6,h7⟩:=Is (g:=g) (bp g q.1.2) (ct g i).1 [] j _ h3 (Sm h4)
 exact ⟨i,q,m,_,by omega,hq,by rw [hE]; simpa using h7,rfl⟩
noncomputable def Oe (g:af) (ss:List SQ) (j:Nat):Int:=Classical.epsilon fun s:Int=>∃ (r:SQ) (K:cf),ss[j]? = some r∧(∀ x∈K,mL g x)∧r.1.2 = aF g K s∧aF g K s≠[]∧1≤s
theorem bG.two (hc:av g) (h:bG g ss):2≤ss.length:=by
 have hp:=h.pos
 refine Tl fun hlt=>?_
 have h1:ss.length = 1:=by omega
 obtain ⟨q,hq⟩ : ∃ q,ss[0]? = some q:=⟨_,Sm hp⟩
 obtain ⟨hK,hE,_⟩:=uI h hq
 have e0:q.1.2 = [⟨0,0⟩]:=by
  have:(ct g 0).1[0]? = some [⟨0,0⟩]:=rfl
  rw [this] at hK
  exact (Option.some.inj hK).symm
 obtain ⟨_,h2,h3,p0,hp0,hl,hr,_⟩:=id hc
 obtain ⟨hT,hN,_,_,hT1,_⟩:=hc.eD
 have hgT:g.T = g.terms.length:=rfl
 have hst:=h3.2.2.2
 have ha:dO g ⟨0,0⟩ = g.start:=by rw [qF hp0,hr]; rfl
 have hne:aF g q.1.2 (((g.start).toNat:Nat):Int)≠[]:=by
  refine List.ne_nil_of_mem (a:=(⟨0,1⟩ : aj)) (ik.2 ⟨⟨0,0⟩,.base (by rw [e0]; simp),?_,rfl⟩)
  rw [ha]; omega
 have hm:(g.start).toNat∈bp g q.1.2:=S7.2 ⟨SO.2 (by omega),S2 hne⟩
 obtain ⟨k,hk⟩:=SP hm
 have hkl:k < q.2.2.length:=by
  rw [hE,il]
  have:=(Sk.1 hk).1
  simpa using this
 obtain ⟨_,_,j,r,_,hj,hr,_⟩:=fl hc h hq (Sm hkl)
 have:=(Sk.1 hr).1
 omega
structure wA (g:af) (ss:List SQ) (ins:List Bool) (bys:List Int) (todo:List Nat) (q0 k:Nat):Prop where
 li:ins.length = ss.length
 lb:bys.length = ss.length
 z:ins[0]? = some true
 td:∀ q∈todo,q < ss.length
 by' : ∀ (j:Nat) b,bys[j]? = some b→b = 0∨b = Oe g ss j
 bt:∀ j,ins[j]? = some true→1≤j→bys[j]? = some (Oe g ss j)
 cl:∀ (q:Nat) r,ins[q]? = some true→ss[q]? = some r→q∈todo∨(∀ (m:Nat) e,r.2.2[m]? = some e→(q = q0→m < k)→ins[e.to.toNat]? = some true)
theorem wA.all {ins:List Bool} {bys:List Int} {q0 k:Nat} (hc:av g) (hA:bG g ss) (h:wA g ss ins bys [] q0 k) (hk:q0 = ss.length):∀ j,j < ss.length→ins[j]? = some true:=by
 intro j
 induction j using Nat.strongRecOn with
 | ind j ih =>
  intro hj
  cases j with
  | zero=>exact h.z
  | succ j =>
   obtain ⟨i,q,m,e,hij,hq,he,hto⟩:=L1 hc hA (by omega) hj
   have hil:=(Sk.1 hq).1
   rcases h.cl i q (ih i hij hil) hq with hm | hm
   ·simp at hm
   ·have:=hm m e he (fun e=>by omega)
    rw [hto,SJ] at this
    exact this
theorem wA.pop {ins:List Bool} {bys:List Int} {q0 k q:Nat} {todo:List Nat} (h:wA g ss ins bys (q :: todo) q0 k) (hk:q0 = ss.length):wA g ss ins bys todo q 0 :=
 ⟨h.li,h.lb,h.z,fun x hx=>h.td x (by simp [hx]),h.by',h.bt,fun x r hx hr=>by
  rcases h.cl x r hx hr with hm | hm
  ·rcases SA.1 hm with rfl | hm
   ·exact .inr fun m e _ hlt=>absurd (hlt rfl) (by omega)
   ·exact .inl hm
  ·exact .inr fun m e he _=>hm m e he fun e2=>by have:=(Sk.1 hr).1; omega⟩
theorem wA.fin {ins:List Bool} {bys:List Int} {q0 k:Nat} {todo:List Nat} {r:SQ} (h:wA g ss ins bys todo q0 k) (hr:ss[q0]? = some r) (hk:r.2.2.length≤k):wA g ss ins bys todo ss.length 0 :=
 ⟨h.li,h.lb,h.z,h.td,h.by',h.bt,fun x r' hx hr'=>by
  rcases h.cl x r' hx hr' with hm | hm
  ·exact .inl hm
  ·refine .inr fun m e he _=>hm m e he fun e2=>?_
   subst e2
   rw [hr] at hr'; cases hr'
   have:=(Sk.1 he).1; omega⟩
theorem wA.step {ins:List Bool} {bys:List Int} {q0 k:Nat} {todo:List Nat} {r:SQ} (hc:av g) (hA:bG g ss) (h:wA g ss ins bys todo q0 k) (hr:ss[q0]? = some r) {e:aL} (he:r.2.2[k]? = some e) {j:Nat} (hj:e.to = j) (hjl:j < ss.length) (hsy:Oe g ss j = e.sym) :
  (ins[j]? = some true→wA g ss ins (bys.set j e.sym) todo q0 (k + 1))∧(ins[j]? = some false→wA g ss (ins.set j true) (bys.set j e.sym) (todo ++ [j]) q0 (k + 1)):=by
 have hby:∀ (i:Nat) b,(bys.set j e.sym)[i]? = some b→b = 0∨b = Oe g ss i:=fun i b hb=>by
  by_cases e2:j = i
  ·subst e2
   rw [SY (by rw [h.lb]; exact hjl)] at hb
   cases hb; exact .inr hsy.symm
  ·rw [SR e2] at hb; exact h.by' i b hb
 refine ⟨fun hin=>?_,fun hin=>?_⟩
 ·refine ⟨h.li,by rw [SL]; exact h.lb,h.z,h.td,hby,fun i hi h1=>?_,fun x r' hx hr'=>?_⟩
  ·by_cases e2:j = i
   ·subst e2; rw [SY (by rw [h.lb]; exact hjl),hsy]
   ·rw [SR e2]; exact h.bt i hi h1
  ·rcases h.cl x r' hx hr' with hm | hm
   ·exact .inl hm
   ·refine .inr fun m e' he' hlt=>?_
    by_cases e2:x = q0∧m = k
    ·obtain ⟨rfl,rfl⟩:=e2
     rw [hr] at hr'; cases hr'
     rw [he] at he'; cases he'
     rw [hj,SJ]; exact hin
    ·exact hm m e' he' fun e3=>by have:=hlt e3; rcases Nat.lt_or_ge m k with h5 | h5; exact h5; exact absurd ⟨e3,by omega⟩ e2
 ·have hge:∀ i,ins[i]? = some true→(ins.set j true)[i]? = some true:=fun i hi=>by
   by_cases e2:j = i
   ·subst e2; rw [hin] at hi; cases hi
   ·rw [SR e2]; exact hi
  refine ⟨by rw [SL]; exact h.li,by rw [SL]; exact h.lb,hge 0 h.z,fun x hx=>?_,hby,fun i hi h1=>?_,fun x r' hx hr'=>?_⟩
  ·rw [Sp,SE] at hx
   rcases hx with hx | rfl
   ·exact h.td x hx
   ·exact hjl
  ·by_cases e2:j = i
   ·subst e2; rw [SY (by rw [h.lb]; exact hjl),hsy]
   ·rw [SR e2] at hi ⊢; exact h.bt i hi h1
  ·by_cases e2:j = x
   ·subst e2; exact .inl (by simp)
   ·rw [SR e2] at hx
    rcases h.cl x r' hx hr' with hm | hm
    ·exact .inl (by simp [hm])
    ·refine .inr fun m e' he' hlt=>?_
     by_cases e3:x = q0∧m = k
     ·obtain ⟨rfl,rfl⟩:=e3
      rw [hr] at hr'; cases hr'
      rw [he] at he'; cases he'
      rw [hj,SJ,SY (by rw [h.li]; exact hjl)]
     ·exact hge _ (hm m e' he' fun e4=>by have:=hlt e4; rcases Nat.lt_or_ge m k with h5 | h5; exact h5; exact absurd ⟨e4,by omega⟩ e3)
theorem wA.start (hp:0 < ss.length):wA g ss ((List.replicate ss.length false).set 0 true) (List.replicate ss.length 0) [0] ss.length 0:=by
 have hi:∀ i,((List.replicate ss.length false).set 0 true)[i]? = some true→i = 0:=fun i h=>by
  by_cases e:0 = i
  ·exact e.symm
  ·rw [SR e,Tc] at h
   split at h <;> simp at h
 refine ⟨by simp,by simp,by rw [SY (by simpa using hp)],fun q hq=>by simp at hq; omega,fun j b hb=>?_,fun j hj h1=>by have:=hi j hj; omega,fun q r hq hr=>.inl (by rw [hi q hq]; simp)⟩
 rw [Tc] at hb
 split at hb
 ·cases hb; exact .inl rfl
 ·cases hb
end
end Go.V
namespace Go.V
class jL (κ : Type) extends MVal κ where
 a:κ→Int
 b:κ→Int
 val2:∀ k,toMVal.val k = .agg ⟨[.int .i64 (a k),.int .i64 (b k)]⟩
 ext:∀ k l,a k = a l→b k = b l→k = l
section
variable {P:Program} {κ : Type} [DecidableEq κ] [jL κ] {kt ti:TypeId} {f0 f1:Field}
structure RA (P:Program) (kt ti:TypeId) (f0 f1:Field):Prop where
 ht:P.underlying kt = some (.struct (P.fieldsOf kt))
 hf:P.fieldsOf kt = #[f0,f1]
 hi:P.underlying ti = some (.int .i64)
 ht0:f0.type = ti
 ht1:f1.type = ti
 n0 : f0.name ≠ "_"
 n1 : f1.name ≠ "_"
 o0:f0.offset = 0
 o1:f1.offset = 1
 sih:P.stoodInHeld kt = false
theorem L2 (T:RA P kt ti f0 f1) (w:World) (x y u v:Int):(Op.equal kt (.agg #[.int .i64 x,.int .i64 y]) (.agg #[.int .i64 u,.int .i64 v])).run P w = .ok (decide (x = u∧y = v)) w:=by
 have p0:∀ (v u:Value) (w:World),(part ti #[v,u] 0).run P w = .ok v w:=fun v u w=>by simp [part,c_ T.hi,dx,Kd.isAgg]
 have p1:∀ (v u:Value) (w:World),(part ti #[v,u] 1).run P w = .ok u w:=fun v u w=>by simp [part,c_ T.hi,dx,Kd.isAgg]
 have eqI:∀ n m d w,(Op.equalIn (d + 1) ti (.int .i64 n) (.int .i64 m)).run P w = .ok (n == m) w:=fun n m d w=>run_equalIn_int w d _ _ _ _ _ T.hi
 show (Op.equalIn (9998 + 1 + 1) kt _ _).run P w = _
 rw [run_equalIn_agg w (9998 + 1) kt _ _ T.ht T.sih,T.hf]
 have n0:=T.n0
 have n1:=T.n1
 have e:decide (x = u∧y = v) = (x == u && y == v):=by
  rw [S9]; simp
 rw [e]
 unfold Op.eqFields
 simp only [ne_eq,n0,not_false_eq_true,if_true,Sem.run_bind,T.ht0,T.o0,p0,Result.andThen_ok,eqI]
 cases hq:(x == u)
 ·simp
 ·unfold Op.eqFields
  simp only [ne_eq,n1,not_false_eq_true,if_true,Sem.run_bind,T.ht1,T.o1,p1,Result.andThen_ok,eqI,Bool.not_true,T4,if_false]
  cases hn:(y == v)
  ·simp
  ·unfold Op.eqFields; simp
theorem Fx (T:RA P kt ti f0 f1) (w:World) (k:κ):∀ (es:List MapEntry) (m:List (κ × Value)) (i:Nat),es.map (fun e=>(e.key,e.val)) = m.map (fun x=>(MVal.val x.1,x.2)) →
  ∃ r,(Instr.findAsking kt (MVal.val k) es i).run P w = .ok r w∧(r.map (·.2)) = assoc k m∧(∀ j v,r = some (j,v)→i≤j∧j < i + m.length∧(m[j - i]?).map (·.1) = some k∧∀ u,bx k u m = m.set (j - i) (k,u))∧(r = none→∀ u,bx k u m = m ++ [(k,u)])
 | [],[],i,_=>⟨none,rfl,rfl,fun j v h=>(by cases h),fun _ u=>rfl⟩
 | [],_ :: _,i,h=>by simp at h
 | _ :: _,[],i,h=>by simp at h
 | e :: es,(a,v) :: m,i,h=>by
  simp only [S0,List.cons.injEq,Prod.mk.injEq] at h
  obtain ⟨⟨h1,h2⟩,h3⟩:=h
  have he:(Op.equal kt (MVal.val k) e.key).run P w = .ok (decide (k = a)) w:=by
   rw [h1,jL.val2,jL.val2]
   have:=L2 T w (jL.a k) (jL.b k) (jL.a a) (jL.b a)
   have e2:decide (jL.a k = jL.a a∧jL.b k = jL.b a) = decide (k = a):=decide_eq_decide.2 ⟨fun ⟨h1,h2⟩=>jL.ext k a h1 h2,fun h=>by rw [h]; exact ⟨rfl,rfl⟩⟩
   rw [e2] at this
   exact this
  unfold Instr.findAsking
  simp only [Sem.run_bind,he,Result.andThen_ok]
  by_cases hk:k = a
  ·subst hk
   refine ⟨some (i,e.val),by simp,by simp [assoc,h2],fun j u hj=>?_,fun hn=>by cases hn⟩
   cases hj
   simp [bx]
  ·obtain ⟨r,q1,q2,q3,q4⟩:=Fx T w k es m (i + 1) h3
   refine ⟨r,by simp [hk,q1],by simp [assoc,hk,q2],fun j u hj=>?_,fun hn u=>by simp [bx,hk,q4 hn u]⟩
   obtain ⟨p1,p2,p3,p4⟩:=q3 j u hj
   have e1:j - i = (j - (i + 1)) + 1:=by omega
   refine ⟨by omega,by simp; omega,by rw [e1]; simpa using p3,fun u=>by rw [e1]; simp [bx,hk,p4 u]⟩
theorem uw.two (T:RA P kt ti f0 f1):uw P kt κ where
 check:=fun w em k=>by
  rw [jL.val2]
  have hd:=T.ht
  rw [T.hf] at hd
  have p0:∀ (v u:Value) (w:World),(part ti #[v,u] 0).run P w = .ok v w:=fun v u w=>by simp [part,c_ T.hi,dx,Kd.isAgg]
  have p1:∀ (v u:Value) (w:World),(part ti #[v,u] 1).run P w = .ok u w:=fun v u w=>by simp [part,c_ T.hi,dx,Kd.isAgg]
  have ci:∀ (n:Nat) (z:Int) (w:World),(Instr.checkKey em (n + 1) ti (.int .i64 z)).run P w = .ok () w:=fun n z w=>MapKept.run_checkKey (P:=P) (w:=w) T.hi (by exact rfl) em n
  show (Instr.checkKey em (9998 + 1 + 1) kt _).run P w = _
  unfold Instr.checkKey
  simp only [Sem.run_bind,run_underlying hd,Result.andThen_ok]
  have n0:=T.n0
  have n1:=T.n1
  simp [n0,n1,T.ht0,T.ht1,T.o0,T.o1,Sem.run_bind,p0,p1,ci]
 find:=fun w k es m he=>by
  obtain ⟨r,q1,q2,q3,q4⟩:=Fx T w k es m 0 he
  refine ⟨r,?_,q2,fun j v hj=>?_,q4⟩
  ·have hd:=T.ht
   cases es with
   | nil =>
    cases m with
    | nil=>simp [Instr.findKey,run_underlying hd,Instr.findNow]; unfold Instr.findAsking at q1; simpa using q1
    | cons _ _=>simp at he
   | cons e es =>
    have hn:Instr.findNow (.struct (P.fieldsOf kt)) (MVal.val k) (e :: es) 0 = none:=by
     unfold Instr.findNow
     simp [Instr.sameNow]
    simp only [Instr.findKey,Sem.run_bind,run_underlying hd,Result.andThen_ok,hn]
    exact q1
  ·obtain ⟨_,p2,p3,p4⟩:=q3 j v hj
   rw [Nat.sub_zero] at p3 p4
   exact ⟨by omega,p3,p4⟩
 bits:=fun k=>by rw [jL.val2]; simp [Instr.sameBits]
end
end Go.V
namespace Go.V
structure ak where
 st:Int
 sym:Int
deriving DecidableEq
instance:Inhabited ak:=⟨⟨0,0⟩⟩
instance:nI ak:={ n:=2,rd:=fun _ x vs=>vs = [.int .i64 x.st,.int .i64 x.sym],mono:=fun _ h=>h,len:=fun h=>by rw [h]; rfl }
instance:jL ak:={ val:=fun k=>.agg ⟨[.int .i64 k.st,.int .i64 k.sym]⟩,inj:=fun a b h=>by cases a; cases b; simp at h; obtain ⟨h1,h2⟩:=h; subst h1; subst h2; rfl,a:=ak.st,b:=ak.sym,val2:=fun _=>rfl,ext:=fun k l h1 h2=>by cases k; cases l; cases h1; cases h2; rfl }
def zz (x:ak):List Value:=[.int .i64 x.st,.int .i64 x.sym]
def xf (xs:List ak):List Value:=xs.flatMap zz
theorem Og (xs:List ak):(xf xs).length = xs.length * 2:=A8 (f:=zz) (n:=2) (fun _=>rfl) xs
theorem It (xs ys:List ak):xf (xs ++ ys) = xf xs ++ xf ys:=Tv
theorem wB {h:Hp} {xs:List ak} {a:Option Addr} {l:Nat} (hl:xs.length = l) (r:gN a (xf xs) h):aW h xs a l:=by
 refine ⟨hl,fun i x hx=>?_⟩
 rcases r with e | ⟨ad,rfl,hc⟩
 ·have h1:=congrArg List.length e
  rw [Og,T6] at h1
  have:=(Sk.1 hx).1; omega
 ·exact ⟨ad,zz x,rfl,dr (n:=2) (fun _=>rfl) xs ad hc i x hx,rfl⟩
theorem fm {h:Hp} {xs:List ak} {a:Option Addr} {l:Nat} (r:aW h xs a l) {i:Nat} (hi:i < l):∃ x ad,xs[i]? = some x∧a = some ad∧ax h (ad.add (dP i 2)) (zz x):=by
 obtain ⟨x,ad,vs,hx,ha,hr,e⟩:=r.get hi
 rw [show vs = zz x from e] at hr
 exact ⟨x,ad,hx,ha,hr⟩
def eE (ss:List SQ) (i:Nat) (s:Int):Option Int:=match ss[i]? with
 | none=>none
 | some q=>(q.2.2.find? fun e=>decide (e.sym = s)).map (·.to)
def cG (g:af) (i:Nat) (es:List aL):List ak:=(es.filter fun e=>decide ((g.T:Int)≤e.sym)).map fun e=>⟨(i:Int),e.sym⟩
def j6 (g:af) (ss:List SQ):Nat→List ak
 | 0=>[]
 | i + 1=>j6 g ss i ++ (match ss[i]? with | some q=>cG g i q.2.2 | none=>[])
def aU (g:af) (ss:List SQ):List ak:=j6 g ss ss.length
def cS (g:af) (ss:List SQ) (t:ak):List Int :=
 (if t = ⟨0,g.start⟩ then [0] else []) ++ (match eE ss t.st.toNat t.sym with
  | none=>[]
  | some j=>(match ss[j.toNat]? with | none=>[] | some q=>(q.2.2.filter fun e=>decide (e.sym < (g.T:Int))).map (·.sym)))
def bM (ss:List SQ):Int→List Int→Int
 | q,[]=>q
 | q,s :: l=>match eE ss q.toNat s with
  | none=>-1
  | some j=>bM ss j l
section
variable {g:af} {ss:List SQ}
theorem iu {i:Nat} {q:SQ} (hq:ss[i]? = some q):j6 g ss (i + 1) = j6 g ss i ++ cG g i q.2.2:=by
 show j6 g ss i ++ (match ss[i]? with | some q=>cG g i q.2.2 | none=>[]) = _
 rw [hq]
theorem sJ {i:Nat} {es:List aL} {e:aL}:cG g i (es ++ [e]) = if (g.T:Int)≤e.sym then cG g i es ++ [⟨(i:Int),e.sym⟩] else cG g i es:=by
 unfold cG
 rw [Th,SU]
 by_cases h:(g.T:Int)≤e.sym <;> simp [h]
theorem q9 {i:Nat} {q:SQ} (hq:ss[i]? = some q) (s:Int):eE ss i s = (q.2.2.find? fun e=>decide (e.sym = s)).map (·.to):=by unfold eE; rw [hq]
theorem Bc (h:bG g ss) {i:Nat} {q:SQ} (hq:ss[i]? = some q):q.2.2.map (·.sym) = (bp g q.1.2).map Int.ofNat:=by
 obtain ⟨hK,hE,_⟩:=uI h hq
 have key:∀ (l:List Nat) (st:List cf) (es:List aL),(ju g q.1.2 l (st,es)).2.map (·.sym) = es.map (·.sym) ++ l.map Int.ofNat:=by
  intro l
  induction l with
  | nil=>intro st es; simp [ju]
  | cons a l ih =>
   intro st es
   show (ju g q.1.2 l _).2.map _ = _
   rw [ih]; simp
 have:=key (bp g q.1.2) (ct g i).1 []
 rw [← hE] at this
 simpa using this
theorem Iu:∀ {es:List aL} {k:Nat} {e:aL},(es.map (·.sym)).Nodup→es[k]? = some e→(es.find? fun x=>decide (x.sym = e.sym)) = some e
 | [],k,e,_,h=>by simp at h
 | x :: es,0,e,_,h=>by simp at h; subst h; simp
 | x :: es,k + 1,e,hn,h=>by
  rw [S0,Te] at hn
  have h:es[k]? = some e:=by simpa using h
  have hne:x.sym≠e.sym:=fun e2=>hn.1 (by rw [e2]; exact SG.2 ⟨e,Sl h,rfl⟩)
  rw [List.find?_cons,TD hne]
  exact Iu hn.2 h
theorem DS (h:bG g ss) {i:Nat} {q:SQ} (hq:ss[i]? = some q):(q.2.2.map (·.sym)).Nodup:=by
 rw [Bc h hq,TI,T9]
 exact (uF g q.1.2).imp fun h e=>by simp at e; omega
theorem jM (h:bG g ss) {i:Nat} {q:SQ} (hq:ss[i]? = some q) {k:Nat} {e:aL} (he:q.2.2[k]? = some e):eE ss i e.sym = some e.to:=by
 rw [q9 hq,Iu (DS h hq) he]; rfl
theorem DT {i:Nat} {s:Int} {j:Int} (h:eE ss i s = some j):∃ (q:SQ) (k:Nat) (e:aL),ss[i]? = some q∧q.2.2[k]? = some e∧e.sym = s∧e.to = j:=by
 unfold eE at h
 cases hq:ss[i]? with
 | none=>rw [hq] at h; cases h
 | some q =>
  rw [hq] at h
  simp only [T1] at h
  obtain ⟨e,he,rfl⟩:=h
  obtain ⟨k,hk⟩:=SP (List.mem_of_find?_eq_some he)
  have:=List.find?_some he
  exact ⟨q,k,e,rfl,hk,Si this,rfl⟩
end
end Go.V
namespace Go.Proofs.YtngdohpikfcifaaGreatDoor
open Go.V
abbrev jN:FuncId:=15
def xT:bj:={ rngs:=[],loops:=[(6,[(6,(.one .slice)),(23,(.one (.int .i64)))]),(12,[(9,(.one .slice)),(50,(.one (.int .i64)))])],joins:=[(11,[(9,(.one .slice))])],blocks:=[] }
def zA (a:Option Addr) (b c:Nat) (d:Option Addr) (e f:Nat) (g:Option Addr) (i j:Nat) (k:Int) (l:Option Addr) (m n:Nat) (w:World) (R:Value→WP):Prop :=  new w (oC [vS a b c,vS d e f,vS g i j,iI k,vS l m n] 27) fun k1 w1=>∃ o1 k2 k3 o2 k4 k5 o3 k6 k7 n1 o4 k8 k9,V.rowAt w1 (aM k1) 0 5 = some [vS o1 k2 k3,vS o2 k4 k5,vS o3 k6 k7,iI n1,vS o4 k8 k9]∧au Proofs.Tryz.prog Ev 38 [vA (Array.mk [vS o1 k2 k3,vS o2 k4 k5,vS o3 k6 k7,iI n1,vS o4 k8 k9])] w1 fun v1 w2=>∃ o5 n2,v1 = vT (Array.mk [vP o5,iI n2])∧br (n2 != 0) (R (vT (Array.mk [vS none 0 0,iI n2])) w2) (au Proofs.Tryz.prog Ev 39 [vP o5] w2 fun v2 w3=>∃ o6 k10 k11,v2 = vS o6 k10 k11∧∃ (x1:lP [(6,js),(23,aI)]),∃ (x2:lN [(6,js),(23,aI)]),x1 none 0 0 0 w3∧∀ (I1:Nat→Value) (o7:Option Addr) (k12 k13:Nat) (n3:Int) (w4:World),x1 o7 k12 k13 n3 w4→br (decide (n3 < (↑k10:Int))) (idx o6 k10 n3 2 fun a1=>∃ n4 n5,V.rowAt w4 a1 0 2 = some [iI n4,iI n5]∧new w4 (oC [iI 0,iI 0] 73) fun k14 w5=>iA w5 (aM k14) [iI n4,iI n5] fun w6=>∃ (x3:lP [(9,js)]),(∃ n6 n7,V.rowAt w6 (aM k14) 0 2 = some [iI n6,iI n7]∧∃ n8,World.cell? w6 (Addr.add (aM k1) 3) = some (iI n8)∧∃ v3,Sem.run Proofs.Tryz.prog (iX BinOp.eql 73 (Operand.tmp 27) (Operand.tmp 30) (vG [iI n6,iI n7]) (vG [iI 0,iI n8])) w6 = Result.ok v3 w6∧∃ b1,v3 = vB b1∧br b1 (new w6 (oC [iI 0] 3) fun k15 w7=>az Proofs.Tryz.prog (f_ 24 (Array.mk [vS none 0 0,vS (some (aM k15)) 1 1])) w7 fun v4 w8=>∃ o8 k16 k17,v4 = vS o8 k16 k17∧x3 o8 k16 k17 w8) (x3 none 0 0 w6))∧∀ (I2:Nat→Value) (o9:Option Addr) (k18 k19:Nat) (w9:World),x3 o9 k18 k19 w9→∀ w10,drawn w9 w10→∃ (I3:World→Prop),I3 w10∧nn o5 fun a2=>∃ o10 k20 k21,(∀ w11,I3 w11→World.cell? w11 (Addr.add a2 5) = some (vS o10 k20 k21))∧nn o5 fun a3=>∃ o11,(∀ w12,I3 w12→World.cell? w12 (Addr.add a3 8) = some (Value.map o11))∧∃ n9 n10,(∀ w13,I3 w13→V.rowAt w13 (aM k14) 0 2 = some [iI n9,iI n10])∧az Proofs.Tryz.prog (Instr.lookup 97 (Value.map o11) (vG [iI n9,iI n10]) false) w10 fun v5 w14=>∃ n11,v5 = iI n11∧∃ (I4:World→Prop),I4 w14∧(∀ w15,I4 w15→I3 w15)∧idx o10 k20 n11 2 fun a4=>∃ o12 k22 k23,(∀ w16,I4 w16→World.cell? w16 (Addr.add a4 1) = some (vS o12 k22 k23))∧∃ (x4:lP [(9,js),(50,aI)]),∃ (x5:lN [(9,js),(50,aI)]),x4 o9 k18 k19 0 w14∧∀ (I5:Nat→Value) (o13:Option Addr) (k24 k25:Nat) (n12:Int) (w17:World),x4 o13 k24 k25 n12 w17→br (decide (n12 < (↑k22:Int))) (idx o12 k22 n12 2 fun a5=>∃ n13 n14,V.rowAt w17 a5 0 2 = some [iI n13,iI n14]∧new w17 (oC [iI 0,iI 0] 101) fun k26 w18=>iA w18 (aM k26) [iI n13,iI n14] fun w19=>∃ n15,World.cell? w19 (aM k26) = some (iI n15)∧∃ o14 k27 k28,World.cell? w19 (aM k1) = some (vS o14 k27 k28)∧br (decide (n15 < (↑k27:Int))) (∃ n16,World.cell? w19 (aM k26) = some (iI n16)∧new w19 (oC [iI n16] 3) fun k29 w20=>az Proofs.Tryz.prog (f_ 24 (Array.mk [vS o13 k24 k25,vS (some (aM k29)) 1 1])) w20 fun v6 w21=>∃ o15 k30 k31,v6 = vS o15 k30 k31∧aG (n12 + 1)∧x4 o15 k30 k31 (n12 + 1) w21∧x5 o15 k30 k31 (n12 + 1) w21 < x5 o13 k24 k25 n12 w17) (aG (n12 + 1)∧x4 o13 k24 k25 (n12 + 1) w19∧x5 o13 k24 k25 (n12 + 1) w19 < x5 o13 k24 k25 n12 w17)) (au Proofs.Tryz.prog Ev 40 [vS o13 k24 k25] w17 fun v7 w22=>∃ o16 k32 k33,v7 = vS o16 k32 k33∧new w22 (oC [vS o16 k32 k33] 24) fun k34 w23=>az Proofs.Tryz.prog (f_ 30 (Array.mk [vS o7 k12 k13,vS (some (aM k34)) 1 1])) w23 fun v8 w24=>∃ o17 k35 k36,v8 = vS o17 k35 k36∧aG (n3 + 1)∧x1 o17 k35 k36 (n3 + 1) w24∧x2 o17 k35 k36 (n3 + 1) w24 < x2 o7 k12 k13 n3 w4)) (au Proofs.Tryz.prog Ev 41 [vS o7 k12 k13] w4 fun v9 w25=>∃ o18 k37 k38,v9 = vS o18 k37 k38∧R (vT (Array.mk [vS o18 k37 k38,iI 0])) w25))
theorem xU (a:Option Addr) (b c:Nat) (d:Option Addr) (e f:Nat) (g:Option Addr) (i j:Nat) (k:Int) (l:Option Addr) (m n:Nat) (w:World) (R:Value→WP) (h:zA a b c d e f g i j k l m n w R):aC Tryz.prog 15 [(.agg #[(.slice a b c),(.slice d e f),(.slice g i j),(.int .i64 k),(.slice l m n)])] w R:=rv Tryz.func15 xT (by kernel_rfl) h

abbrev DU:FuncId:=27
def Bd:bj:={ rngs:=[],loops:=[],joins:=[],blocks:=[] }
def B_ (a:Option Addr) (b c:Nat) (d:Option Addr) (e f:Nat) (g:Option Addr) (i j:Nat) (k:Int) (l:Option Addr) (m n:Nat) (w:World) (R:Value→WP):Prop :=  new w (oC [vS a b c,vS d e f,vS g i j,iI k,vS l m n] 27) fun k1 w1=>∃ o1 k2 k3 o2 k4 k5 o3 k6 k7 n1 o4 k8 k9,V.rowAt w1 (aM k1) 0 5 = some [vS o1 k2 k3,vS o2 k4 k5,vS o3 k6 k7,iI n1,vS o4 k8 k9]∧au Proofs.Tryz.prog Ev 38 [vA (Array.mk [vS o1 k2 k3,vS o2 k4 k5,vS o3 k6 k7,iI n1,vS o4 k8 k9])] w1 fun v1 w2=>∃ o5 n2,v1 = vT (Array.mk [vP o5,iI n2])∧br (n2 != 0) (R (vT (Array.mk [vS none 0 0,iI n2])) w2) (au Proofs.Tryz.prog Ev 39 [vP o5] w2 fun v2 w3=>∃ o6 k10 k11,v2 = vS o6 k10 k11∧R (vT (Array.mk [vS o6 k10 k11,iI 0])) w3)
theorem Be (a:Option Addr) (b c:Nat) (d:Option Addr) (e f:Nat) (g:Option Addr) (i j:Nat) (k:Int) (l:Option Addr) (m n:Nat) (w:World) (R:Value→WP) (h:B_ a b c d e f g i j k l m n w R):aC Tryz.prog 27 [(.agg #[(.slice a b c),(.slice d e f),(.slice g i j),(.int .i64 k),(.slice l m n)])] w R:=rv Tryz.func27 Bd (by kernel_rfl) h

abbrev G4:FuncId:=38
def DV:bj:={ rngs:=[],loops:=[(6,[(27,(.one (.int .i64)))]),(9,[(35,(.one (.int .i64)))])],joins:=[],blocks:=[] }
def Fy (a:Option Addr) (b c:Nat) (d:Option Addr) (e f:Nat) (g:Option Addr) (i j:Nat) (k:Int) (l:Option Addr) (m n:Nat) (w:World) (R:Value→WP):Prop :=  new w (oC [vS a b c,vS d e f,vS g i j,iI k,vS l m n] 27) fun k1 w1=>∃ o1 k2 k3 o2 k4 k5 o3 k6 k7 n1 o4 k8 k9,V.rowAt w1 (aM k1) 0 5 = some [vS o1 k2 k3,vS o2 k4 k5,vS o3 k6 k7,iI n1,vS o4 k8 k9]∧au Proofs.Tryz.prog Ev 28 [vA (Array.mk [vS o1 k2 k3,vS o2 k4 k5,vS o3 k6 k7,iI n1,vS o4 k8 k9])] w1 fun v1 w2=>∃ o5 k10 k11 n2 n3 n4,v1 = vT (Array.mk [vA (Array.mk [vS o5 k10 k11,iI n2,iI n3]),iI n4])∧new w2 (oC [vS none 0 0,iI 0,iI 0] 63) fun k12 w3=>iA w3 (aM k12) [vS o5 k10 k11,iI n2,iI n3] fun w4=>br (n4 != 0) (R (vT (Array.mk [vP none,iI n4])) w4) (∃ o6 k13 k14 o7 k15 k16 o8 k17 k18 n5 o9 k19 k20,V.rowAt w4 (aM k1) 0 5 = some [vS o6 k13 k14,vS o7 k15 k16,vS o8 k17 k18,iI n5,vS o9 k19 k20]∧∃ o10 k21 k22 n6 n7,V.rowAt w4 (aM k12) 0 3 = some [vS o10 k21 k22,iI n6,iI n7]∧new w4 (Obj.map (Array.mk []) 0) fun k23 w5=>new w5 (oC [vS o6 k13 k14,vS o7 k15 k16,vS o8 k17 k18,iI n5,vS o9 k19 k20,vS o10 k21 k22,iI n6,iI n7,Value.map (some k23)] 99) fun k24 w6=>∃ o11 k25 k26,World.cell? w6 (aM k12) = some (vS o11 k25 k26)∧∃ (x1:lP [(27,aI)]),∃ (x2:lN [(27,aI)]),x1 0 w6∧∀ (I1:Nat→Value) (n8:Int) (w7:World),x1 n8 w7→br (decide (n8 < (↑k25:Int))) (idx o11 k25 n8 2 fun a1=>∃ o12 k27 k28 o13 k29 k30,V.rowAt w7 a1 0 2 = some [vS o12 k27 k28,vS o13 k29 k30]∧new w7 (oC [vS none 0 0,vS none 0 0] 71) fun k31 w8=>iA w8 (aM k31) [vS o12 k27 k28,vS o13 k29 k30] fun w9=>∃ o14 k32 k33,World.cell? w9 (Addr.add (aM k31) 1) = some (vS o14 k32 k33)∧∃ (x3:lP [(35,aI)]),∃ (x4:lN [(35,aI)]),x3 0 w9∧∀ (I2:Nat→Value) (n9:Int) (w10:World),x3 n9 w10→br (decide (n9 < (↑k32:Int))) (idx o14 k32 n9 2 fun a2=>∃ n10 n11,V.rowAt w10 a2 0 2 = some [iI n10,iI n11]∧new w10 (oC [iI 0,iI 0] 101) fun k34 w11=>iA w11 (aM k34) [iI n10,iI n11] fun w12=>∀ w13,drawn w12 w13→∃ (I3:World→Prop),I3 w13∧∃ o15,(∀ w14,I3 w14→World.cell? w14 (Addr.add (aM k24) 8) = some (Value.map o15))∧∃ n12,(∀ w15,I3 w15→World.cell? w15 (aM k34) = some (iI n12))∧∃ n13,(∀ w16,I3 w16→World.cell? w16 (Addr.add (aM k34) 1) = some (iI n13))∧az Proofs.Tryz.prog (Instr.mapUpdate 97 (Value.map o15) (vG [iI n8,iI n12]) (iI n13)) w13 fun (x5:Unit) (w17:World)=>aG (n9 + 1)∧x3 (n9 + 1) w17∧x4 (n9 + 1) w17 < x4 n9 w10) (aG (n8 + 1)∧x1 (n8 + 1) w10∧x2 (n8 + 1) w10 < x2 n8 w7)) (R (vT (Array.mk [vP (some (aM k24)),iI 0])) w7))
theorem DW (a:Option Addr) (b c:Nat) (d:Option Addr) (e f:Nat) (g:Option Addr) (i j:Nat) (k:Int) (l:Option Addr) (m n:Nat) (w:World) (R:Value→WP) (h:Fy a b c d e f g i j k l m n w R):aC Tryz.prog 38 [(.agg #[(.slice a b c),(.slice d e f),(.slice g i j),(.int .i64 k),(.slice l m n)])] w R:=rv Tryz.func38 DV (by kernel_rfl) h

abbrev wC:FuncId:=39
def tw:bj:={ rngs:=[],loops:=[(3,[(3,(.one .slice)),(14,(.one (.int .i64)))]),(6,[(3,(.one .slice)),(22,(.one (.int .i64)))])],joins:=[],blocks:=[] }
def uJ (a:Option Addr) (w:World) (R:Value→WP):Prop :=  nn a fun a1=>∃ o1 k1 k2,World.cell? w (Addr.add a1 5) = some (vS o1 k1 k2)∧∃ (x1:lP [(3,js),(14,aI)]),∃ (x2:lN [(3,js),(14,aI)]),x1 none 0 0 0 w∧∀ (I1:Nat→Value) (o2:Option Addr) (k3 k4:Nat) (n1:Int) (w1:World),x1 o2 k3 k4 n1 w1→br (decide (n1 < (↑k1:Int))) (idx o1 k1 n1 2 fun a2=>∃ o3 k5 k6 o4 k7 k8,V.rowAt w1 a2 0 2 = some [vS o3 k5 k6,vS o4 k7 k8]∧new w1 (oC [vS none 0 0,vS none 0 0] 71) fun k9 w2=>iA w2 (aM k9) [vS o3 k5 k6,vS o4 k7 k8] fun w3=>∃ o5 k10 k11,World.cell? w3 (Addr.add (aM k9) 1) = some (vS o5 k10 k11)∧∃ (x3:lP [(3,js),(22,aI)]),∃ (x4:lN [(3,js),(22,aI)]),x3 o2 k3 k4 0 w3∧∀ (I2:Nat→Value) (o6:Option Addr) (k12 k13:Nat) (n2:Int) (w4:World),x3 o6 k12 k13 n2 w4→br (decide (n2 < (↑k10:Int))) (idx o5 k10 n2 2 fun a3=>∃ n3 n4,V.rowAt w4 a3 0 2 = some [iI n3,iI n4]∧new w4 (oC [iI 0,iI 0] 101) fun k14 w5=>iA w5 (aM k14) [iI n3,iI n4] fun w6=>∀ w7,drawn w6 w7→∃ (I3:World→Prop),I3 w7∧∃ n5,(∀ w8,I3 w8→World.cell? w8 (aM k14) = some (iI n5))∧nn a fun a4=>∃ o7 k15 k16,(∀ w9,I3 w9→World.cell? w9 a4 = some (vS o7 k15 k16))∧br (decide ((↑k15:Int)≤n5)) (∃ n6,World.cell? w7 (aM k14) = some (iI n6)∧new w7 (oC [iI n1,iI n6] 73) fun k17 w10=>az Proofs.Tryz.prog (f_ 58 (Array.mk [vS o6 k12 k13,vS (some (aM k17)) 1 1])) w10 fun v1 w11=>∃ o8 k18 k19,v1 = vS o8 k18 k19∧aG (n2 + 1)∧x3 o8 k18 k19 (n2 + 1) w11∧x4 o8 k18 k19 (n2 + 1) w11 < x4 o6 k12 k13 n2 w4) (aG (n2 + 1)∧x3 o6 k12 k13 (n2 + 1) w7∧x4 o6 k12 k13 (n2 + 1) w7 < x4 o6 k12 k13 n2 w4)) (aG (n1 + 1)∧x1 o6 k12 k13 (n1 + 1) w4∧x2 o6 k12 k13 (n1 + 1) w4 < x2 o2 k3 k4 n1 w1)) (au Proofs.Tryz.prog Ev 79 [vS o2 k3 k4] w1 fun v2 w12=>∃ o9 k20 k21,v2 = vS o9 k20 k21∧R (vS o9 k20 k21) w12)
theorem tz (a:Option Addr) (w:World) (R:Value→WP) (h:uJ a w R):aC Tryz.prog 39 [(.pointer a)] w R:=rv Tryz.func39 tw (by kernel_rfl) h

def lH:bj:={ rngs:=[],loops:=[],joins:=[],blocks:=[] }
def mR (a:Option Addr) (b c:Nat) (w:World) (R:Value→WP):Prop :=  p8 a b c none (some (↑b:Int)) (some (↑b:Int)) 1 fun (o1:Option Addr) (k1 k2:Nat)=>R (vS o1 k1 k2) w
theorem cV (a:Option Addr) (b c:Nat) (w:World) (R:Value→WP) (h:mR a b c w R):aC Tryz.prog 40 [(.slice a b c)] w R:=rv Tryz.func40 lH (by kernel_rfl) h

def jO:bj:={ rngs:=[],loops:=[],joins:=[],blocks:=[] }
def kD (a:Option Addr) (b c:Nat) (w:World) (R:Value→WP):Prop :=  p8 a b c none (some (↑b:Int)) (some (↑b:Int)) 1 fun (o1:Option Addr) (k1 k2:Nat)=>R (vS o1 k1 k2) w
theorem jP (a:Option Addr) (b c:Nat) (w:World) (R:Value→WP) (h:kD a b c w R):aC Tryz.prog 41 [(.slice a b c)] w R:=rv Tryz.func41 jO (by kernel_rfl) h

def fJ:bj:={ rngs:=[],loops:=[],joins:=[],blocks:=[] }
def fY (a:Option Addr) (b c:Nat) (w:World) (R:Value→WP):Prop :=  p8 a b c none (some (↑b:Int)) (some (↑b:Int)) 3 fun (o1:Option Addr) (k1 k2:Nat)=>R (vS o1 k1 k2) w
theorem fK (a:Option Addr) (b c:Nat) (w:World) (R:Value→WP) (h:fY a b c w R):aC Tryz.prog 50 [(.slice a b c)] w R:=rv Tryz.func50 fJ (by kernel_rfl) h

def eP:bj:={ rngs:=[],loops:=[],joins:=[],blocks:=[] }
def fo (a:Option Addr) (b c:Nat) (w:World) (R:Value→WP):Prop :=  p8 a b c none (some (↑b:Int)) (some (↑b:Int)) 2 fun (o1:Option Addr) (k1 k2:Nat)=>R (vS o1 k1 k2) w
theorem eQ (a:Option Addr) (b c:Nat) (w:World) (R:Value→WP) (h:fo a b c w R):aC Tryz.prog 79 [(.slice a b c)] w R:=rv Tryz.func79 eP (by kernel_rfl) h

abbrev kE:FuncId:=81
def jh:bj:={ rngs:=[],loops:=[(4,[(3,(.one (.int .i64)))]),(9,[(3,(.one (.int .i64))),(5,(.one (.int .i64)))])],joins:=[],blocks:=[] }
def jQ (a:Option Addr) (b c:Nat) (w:World) (R:Value→WP):Prop :=  br (decide ((↑b:Int) < 2)) (R (vS a b c) w) (∃ (x1:lP [(3,aI)]),∃ (x2:lN [(3,aI)]),x1 1 w∧∀ (I1:Nat→Value) (n1:Int) (w1:World),x1 n1 w1→br (decide (n1 < (↑b:Int))) (∀ w2,drawn w1 w2→∃ (I2:World→Prop),I2 w2∧idx a b n1 1 fun a1=>∃ n2,(∀ w3,I2 w3→World.cell? w3 a1 = some (iI n2))∧aG (n1 - 1)∧idx a b (n1 - 1) 1 fun a2=>∃ n3,(∀ w4,I2 w4→World.cell? w4 a2 = some (iI n3))∧br (n2 == n3) (p8 a b c (some n1) none none 1 fun (o1:Option Addr) (k1 k2:Nat)=>∃ (x3:lP [(3,aI),(5,aI)]),∃ (x4:lN [(3,aI),(5,aI)]),x3 n1 1 w2∧∀ (I3:Nat→Value) (n4 n5:Int) (w5:World),x3 n4 n5 w5→br (decide (n5 < (↑k1:Int))) (∀ w6,drawn w5 w6→∃ (I4:World→Prop),I4 w6∧idx o1 k1 n5 1 fun a3=>∃ n6,(∀ w7,I4 w7→World.cell? w7 a3 = some (iI n6))∧aG (n5 - 1)∧idx o1 k1 (n5 - 1) 1 fun a4=>∃ n7,(∀ w8,I4 w8→World.cell? w8 a4 = some (iI n7))∧br (n6 != n7) (idx o1 k1 n5 1 fun a5=>∃ n8,World.cell? w6 a5 = some (iI n8)∧idx a b n4 1 fun a6=>st1 w6 a6 (iI n8) fun w9=>aG (n4 + 1)∧aG (n5 + 1)∧x3 (n4 + 1) (n5 + 1) w9∧x4 (n4 + 1) (n5 + 1) w9 < x4 n4 n5 w5) (aG (n5 + 1)∧x3 n4 (n5 + 1) w6∧x4 n4 (n5 + 1) w6 < x4 n4 n5 w5)) (p8 a b c (some n4) none none 1 fun (o2:Option Addr) (k3 k4:Nat)=>az Proofs.Tryz.prog (Builtin.clear_ (Array.mk [24]) 0 (Array.mk [vS o2 k3 k4])) w5 fun v1 w10=>p8 a b c none (some n4) none 1 fun (o3:Option Addr) (k5 k6:Nat)=>R (vS o3 k5 k6) w10)) (aG (n1 + 1)∧x1 (n1 + 1) w2∧x2 (n1 + 1) w2 < x2 n1 w1)) (R (vS a b c) w1))
theorem ji (a:Option Addr) (b c:Nat) (w:World) (R:Value→WP) (h:jQ a b c w R):aC Tryz.prog 81 [(.slice a b c)] w R:=rv Tryz.func81 jh (by kernel_rfl) h

end Go.Proofs.YtngdohpikfcifaaGreatDoor
namespace Go.V
def xV (ss:List SQ) (m:List (ak × Value)) (i:Nat) (es:List aL):Prop:=∀ k:ak,assoc k m =
 if k.st < 0 then none else if k.st.toNat < i then (eE ss k.st.toNat k.sym).map (Value.int .i64) else if k.st.toNat = i then (es.find? fun e=>decide (e.sym = k.sym)).map (fun e=>Value.int .i64 e.to) else none
section
variable {ss:List SQ} {m:List (ak × Value)} {i:Nat}
theorem xV.start:xV ss [] 0 []:=fun k=>by simp [assoc]
theorem CP {es:List aL} {e:aL} (hn:e.sym∉es.map (·.sym)) (s:Int):((es ++ [e]).find? fun x=>decide (x.sym = s)) = if s = e.sym then some e else es.find? fun x=>decide (x.sym = s):=by
 rw [List.find?_append]
 by_cases h:s = e.sym
 ·subst h
  have:(es.find? fun x=>decide (x.sym = e.sym)) = none:=List.find?_eq_none.2 fun x hx h2=>hn (SG.2 ⟨x,hx,by simpa using h2⟩)
  rw [this]; simp
 ·rw [Sr h]
  have:([e].find? fun x=>decide (x.sym = s)) = none:=by simp [TM h]
  rw [this]; simp
theorem xV.step {es:List aL} (h:xV ss m i es) {e:aL} (hn:e.sym∉es.map (·.sym)):xV ss (bx ⟨(i:Int),e.sym⟩ (.int .i64 e.to) m) i (es ++ [e]):=fun k=>by
 rw [db,h k,CP hn]
 by_cases hk:k = ⟨(i:Int),e.sym⟩
 ·subst hk
  simp
 ·rw [Sr hk]
  split
  ·rfl
  ·split
   ·rfl
   ·split
    ·have:k.sym≠e.sym:=fun h=>hk (by cases k; simp at *; omega)
     rw [Sr this]
    ·rfl
theorem xV.next {q:SQ} (hq:ss[i]? = some q) (h:xV ss m i q.2.2):xV ss m (i + 1) []:=fun k=>by
 rw [h k]
 split
 ·rfl
 ·by_cases h1:k.st.toNat < i
  ·rw [Sz h1,Sz (by omega)]
  ·rw [Sr h1]
   by_cases h2:k.st.toNat = i
   ·rw [Sz h2,Sz (by omega),h2,q9 hq,Option.map_map]; rfl
   ·rw [Sr h2,Sr (by omega)]; simp
theorem xV.all (h:xV ss m ss.length []) {k:ak} (hk:0≤k.st):assoc k m = (eE ss k.st.toNat k.sym).map (Value.int .i64):=by
 rw [h k,Sr (by omega)]
 split
 ·rfl
 ·have:eE ss k.st.toNat k.sym = none:=by unfold eE; rw [SH (by omega)]
  rw [this]; simp
end
abbrev Q9 (x:GA) (o:Option Addr) (n c:Nat) (a int:Int) (kb:Nat):List Value:=x.cells ++ [.slice o n c,.int .i64 a,.int .i64 int,.map (some kb)]
structure Q_ (h:Hp) (g:af) (ss:List SQ) (k:Nat):Prop where
 ex:∃ (x:GA) (o:Option Addr) (c kb:Nat) (a int:Int) (m:List (ak × Value)),ax h (aM k) (Q9 x o ss.length c a int kb)∧gR h g x∧xS h ss o∧mapA kb m h∧xV ss m ss.length []
theorem Q_.mono {h h' : Hp} {g:af} {ss:List SQ} {k:Nat} (s:sub h h') (r:Q_ h g ss k):Q_ h' g ss k:=by
 obtain ⟨x,o,c,kb,a,int,m,h1,h2,h3,h4,h5⟩:=r.ex
 exact ⟨x,o,c,kb,a,int,m,h1.mono s,h2.mono s,h3.mono s,dg s h4,h5⟩
end Go.V
namespace Go.Proofs.YtngdohpikfcifaaGreatDoor
open Go.V
variable {w:World} {L:List aw} {g:af} {x:GA}
theorem CQ : RA Tryz.prog je eI { name := "State", type := eI, offset := 0, embedded := false, tag := "", pkgPath := "", byteOffset := 0 } { name := "Sym", type := eI, offset := 1, embedded := false, tag := "", pkgPath := "", byteOffset := 8 } where
 ht:=by kernel_rfl
 hf:=by kernel_rfl
 hi:=bz
 ht0:=rfl
 ht1:=rfl
 n0:=by decide
 n1:=by decide
 o0:=rfl
 o1:=rfl
 sih:=B6
theorem dH:uw Tryz.prog je ak:=uw.two CQ
theorem L3 (hg:gR (hp w) g x) (hb:iM g):aC Tryz.prog G4 [.agg ⟨x.cells⟩] w fun v w'=>∃ (ss:List SQ) (ask int f:Int) (p:Option Addr),v = .tuple #[.pointer p,.int .i64 f]∧vf g ss ask int f∧Gr w w'∧(f = 0→∃ k,p = some (aM k)∧Q_ (hp w') g ss k)∧(f≠0→p = none):=by
 refine DW _ _ _ _ _ _ _ _ _ _ _ _ _ w _ (de hg fun k1 w1 gw hg B=>?_)
 refine ⟨_,_,_,_,_,_,_,_,_,_,_,_,_,B.row (sub.refl _),(Fw hg hb).mono ?_⟩
 rintro _ w2 ⟨o,c,ss,ask,int,f,rfl,hR,h⟩
 have g12:Gr w1 w2:=aZ 3 h.l
 have hg:=hg.mono g12
 have hs:=wx h.l
 refine ⟨_,_,_,_,_,_,rfl,ah (St.all w2) fun k12 w3 h=>bh h rfl (by simp [aS]) fun w4 h=>ae (fun h1=>?_) fun h1=>?_⟩
 ·have h1:f≠0:=by simpa using h1
  exact ⟨ss,ask,int,f,none,rfl,hR,gw.trans (g12.trans h.aX),fun h=>absurd h h1,fun _=>rfl⟩
 have h1:f = 0:=by simpa using h1
 subst h1
 obtain ⟨hc,hA⟩ : av g∧bG g ss:=by
  rcases hR with ⟨_,_,_,_,e⟩ | ⟨_,_,_,_,_,e⟩ | ⟨hc,hA,_⟩
  ·omega
  ·omega
  ·exact ⟨hc,hA⟩
 have hkl:=hA.wz hc
 have h256:=hA.dn.2.1
 have g24:Gr w2 w4:=h.aX
 have hg:=hg.mono g24
 have hs:=hs.mono g24
 have r12:ax (hp w4) (aM k12) [.slice o ss.length c,.int .i64 ask,.int .i64 int]:=ai 0 h.l
 clear h
 refine ⟨_,_,_,_,_,_,_,_,_,_,_,_,_,B.row (g12.trans g24),_,_,_,_,_,r12.at (sub.refl _) rfl,mg (St.all w4) fun kb w5 h=>?_⟩
 have h:=dC (κ:=ak) h
 refine ah (vs:=Q9 x o ss.length c ask int kb) h fun km w6 h=>?_
 refine ⟨_,_,_,r12.cell0 (aZ 2 h.l),fun z w'=>∃ (i:Nat) (m:List (ak × Value)),z = i∧i≤ss.length∧xV ss m i []∧St w' (aR km (Q9 x o ss.length c ask int kb) :: mapA kb m :: all w4),fun z _=>ss.length - z.toNat,
  ⟨0,[],rfl,Sv _,.start,h⟩,?_⟩
 clear h
 rintro _ _ w7 ⟨i,m,rfl,hi,hW,h⟩
 have s7:sub (hp w4) (hp w7):=aZ 2 h.l
 refine ae (fun h1=>?_) fun h1=>?_
 rotate_left
 ·have h1:i = ss.length:=by have:=Sj h1; omega
  subst h1
  obtain ⟨hm,sm,hA2⟩:=M4 1 h.l
  exact ⟨ss,ask,int,0,some (aM km),rfl,hR,gw.trans (g12.trans (g24.trans s7)),fun _=>⟨km,rfl,x,o,c,kb,ask,int,m,ai 0 h.l,hg.mono s7,hs.mono s7,dg sm hA2,hW⟩,fun h=>absurd rfl h⟩
 have h1:i < ss.length:=by have:=Si h1; omega
 obtain ⟨q,hq⟩ : ∃ q,ss[i]? = some q:=⟨_,Sm h1⟩
 obtain ⟨ad,rfl,rs,_,re⟩:=hs i q hq
 have hql:=(hkl q (Sl hq)).2
 have hnd:=DS hA hq
 refine ay rfl h1 ⟨_,_,_,_,_,_,rs.at s7 rfl,ah h fun k31 w8 h=>bh h rfl (by simp [aS]) fun w9 h=>?_⟩
 have r31:ax (hp w9) (aM k31) (N1 q):=ai 0 h.l
 refine ⟨_,_,_,r31.cell (sub.refl _) (j:=1) rfl,fun z w'=>∃ (k:Nat) (m:List (ak × Value)),z = k∧k≤q.2.2.length∧xV ss m i (q.2.2.take k)∧St w' (aR km (Q9 x (some ad) ss.length c ask int kb) :: mapA kb m :: all w4),fun z _=>q.2.2.length - z.toNat,
  ⟨0,m,rfl,Sv _,hW,h.pick 3 [1,2]⟩,?_⟩
 clear h hW
 rintro _ _ w10 ⟨k,m,rfl,hk,hW,h⟩
 have s10:sub (hp w4) (hp w10):=aZ 2 h.l
 refine ae (fun h2=>?_) fun h2=>?_
 rotate_left
 ·have h2:k = q.2.2.length:=by have:=Sj h2; omega
  subst h2
  rw [SM] at hW
  exact ⟨⟨by omega,by omega⟩,⟨i + 1,m,by simp,h1,hW.next hq,h⟩,bA h1⟩
 have h2:k < q.2.2.length:=by have:=Si h2; omega
 obtain ⟨e,ead,he,hea,red⟩:=iq re h2
 refine ay hea h2 ⟨_,_,red.at s10 rfl,ah h fun k34 w11 h=>bh h rfl (by simp [aS]) fun w12 h=>?_⟩
 intro w13 hd
 have h:=h.eq (aD hd)
 have r34:ax (hp w13) (aM k34) [.int .i64 e.sym,.int .i64 e.to]:=ai 0 h.l
 have rm:ax (hp w13) (aM km) (Q9 x (some ad) ss.length c ask int kb):=ai 1 h.l
 refine ⟨fun u=>Gr w13 u,Gr.refl _,_,fun u s=>rm.cell s (j:=8) rfl,_,fun u s=>r34.cell0 s,_,fun u s=>r34.cell s (j:=1) rfl,(kQ (κ:=ak) aK (rfl:ag Ty _ = .map _ _) dH (h.pick 3 [2,0,1]) ⟨(i:Int),e.sym⟩ _).mono ?_⟩
 rintro _ w17 h
 have ht:q.2.2.take (k + 1) = q.2.2.take k ++ [e]:=by rw [Su,he]; rfl
 have hn:e.sym∉(q.2.2.take k).map (·.sym):=fun hm=>by
  have e1:q.2.2.map (·.sym) = (q.2.2.take k).map (·.sym) ++ e.sym :: (q.2.2.drop (k + 1)).map (·.sym):=by
   rw [← S0,← SU]
   congr 1
   have:=S5 (k + 1) q.2.2
   rw [ht] at this
   simpa using this.symm
  rw [e1,SX] at hnd
  exact hnd.2.2 _ hm _ (by simp) rfl
 have hW:=hW.step hn
 rw [← ht] at hW
 exact ⟨⟨by omega,by omega⟩,⟨k + 1,_,by simp,h2,hW,h.pick 3 [2,0]⟩,bA h2⟩
end Go.Proofs.YtngdohpikfcifaaGreatDoor
namespace Go.V
section
variable {g:af} {ss:List SQ}
theorem Bf (g:af) (i:Nat) (es:List aL):(cG g i es).length≤es.length:=by
 unfold cG; rw [Ss]; exact Tj _ _
theorem sK (hk:∀ q∈ss,q.2.2.length≤130):∀ i,(j6 g ss i).length≤i * 130
 | 0=>by simp [j6]
 | i + 1=>by
  have:=sK hk i
  cases hq:ss[i]? with
  | none=>simp [j6,hq]; omega
  | some q =>
   rw [iu hq,Sx]
   have h1:=Bf g i q.2.2
   have h2:=hk q (Sl hq)
   omega
theorem vf.Fz {a i f:Int} (h:vf g ss a i f) (hf:f = 0):av g∧bG g ss:=by
 subst hf
 rcases h with ⟨_,_,_,_,e⟩ | ⟨_,_,_,_,_,e⟩ | ⟨hc,hA,_⟩
 ·omega
 ·omega
 ·exact ⟨hc,hA⟩
def yR (ss:List SQ) (i:Nat) (s:Int):Int:=(eE ss i s).getD (-1)
end
end Go.V
namespace Go.Proofs.YtngdohpikfcifaaGreatDoor
open Go.V
variable {w:World} {L:List aw} {g:af} {x:GA} {ss:List SQ}
theorem FA {k:Nat} (hw:Q_ (hp w) g ss k) (hn:ss.length≤256) (hk:∀ q∈ss,q.2.2.length≤130):aC Tryz.prog wC [.pointer (some (aM k))] w fun v w'=>∃ (o:Option Addr) (c:Nat),v = .slice o (aU g ss).length c∧St w' (own 2 o (aU g ss).length c (xf (aU g ss)) :: all w):=by
 obtain ⟨x,oa,ca,kb,a,int,m,rk,hg,hs,hm,hW⟩:=hw.ex
 have hTl:g.T = x.tl:=hg.t.1
 refine tz _ w _ ⟨_,_,_,rk.cell (sub.refl _) (j:=5) rfl,fun o n c z w'=>∃ i:Nat,z = i∧i≤ss.length∧n = (j6 g ss i).length∧St w' (own 2 o n c (xf (j6 g ss i)) :: all w),fun _ _ _ z _=>ss.length - z.toNat,
  ⟨0,rfl,Sv _,rfl,aB 2 (St.all w)⟩,?_⟩
 rintro _ o2 _ c2 _ w1 ⟨i,rfl,hi,rfl,h⟩
 have s1:sub (hp w) (hp w1):=aZ 1 h.l
 refine ae (fun h1=>?_) fun h1=>?_
 rotate_left
 ·have h1:i = ss.length:=by have:=Sj h1; omega
  subst h1
  refine eQ _ _ _ w1 _ (fk (dJ h) ⟨_,_,_,rfl,_,_,rfl,fj h⟩)
 have h1:i < ss.length:=by have:=Si h1; omega
 obtain ⟨q,hq⟩ : ∃ q,ss[i]? = some q:=⟨_,Sm h1⟩
 obtain ⟨ad,rfl,rs,_,re⟩:=hs i q hq
 have hql:=hk q (Sl hq)
 have hNl:=sK (g:=g) hk i
 refine ay rfl h1 ⟨_,_,_,_,_,_,rs.at s1 rfl,ah h fun k9 w2 h=>bh h rfl (by simp [aS]) fun w3 h=>?_⟩
 have r9:ax (hp w3) (aM k9) (N1 q):=ai 0 h.l
 refine ⟨_,_,_,r9.cell (sub.refl _) (j:=1) rfl,fun o n c z w'=>∃ (j:Nat),z = j∧j≤q.2.2.length∧n = (j6 g ss i ++ cG g i (q.2.2.take j)).length∧St w' (own 2 o n c (xf (j6 g ss i ++ cG g i (q.2.2.take j))) :: all w),fun _ _ _ z _=>q.2.2.length - z.toNat,
  ⟨0,rfl,Sv _,by simp [cG],by simpa [cG] using (show St w3 (own 2 o2 (j6 g ss i).length c2 (xf (j6 g ss i)) :: all w) from h.pick 2 [1])⟩,?_⟩
 clear h
 rintro _ o6 _ c6 _ w4 ⟨j,rfl,hj,rfl,h⟩
 have s4:sub (hp w) (hp w4):=aZ 1 h.l
 have hTA:=Bf g i (q.2.2.take j)
 rw [SN] at hTA
 refine ae (fun h2=>?_) fun h2=>?_
 rotate_left
 ·have h2:j = q.2.2.length:=by have:=Sj h2; omega
  subst h2
  rw [SM] at h ⊢
  exact ⟨⟨by omega,by omega⟩,⟨i + 1,by simp,h1,by rw [iu hq],by rw [iu hq]; exact h⟩,bA h1⟩
 have h2:j < q.2.2.length:=by have:=Si h2; omega
 obtain ⟨e,ead,he,hea,red⟩:=iq re h2
 have ht:q.2.2.take (j + 1) = q.2.2.take j ++ [e]:=by rw [Su,he]; rfl
 refine ay hea h2 ⟨_,_,red.at s4 rfl,ah h fun k14 w5 h=>bh h rfl (by simp [aS]) fun w6 h=>?_⟩
 intro w7 hd
 have h:=h.eq (aD hd)
 have r14:ax (hp w7) (aM k14) [.int .i64 e.sym,.int .i64 e.to]:=ai 0 h.l
 have s7:sub (hp w) (hp w7):=aZ 2 h.l
 refine ⟨fun u=>Gr w7 u,Gr.refl _,_,fun u s=>r14.cell0 s,_,_,_,fun u s=>rk.cell0 (sub.trans s7 s),ae (fun h3=>?_) fun h3=>?_⟩
 ·have h3:(g.T:Int)≤e.sym:=by rw [hTl]; exact Si h3
  have z1:((j6 g ss i ++ cG g i (q.2.2.take j)).length + 1) * 16≤140737488355328∧(j6 g ss i ++ cG g i (q.2.2.take j)).length < 9223372036854775807:=by rw [Sx]; omega
  refine ⟨_,r14.cell0 (sub.refl _),ah h fun k17 w10 h=>?_⟩
  refine (aQ (us:=xf (j6 g ss i ++ cG g i (q.2.2.take j))) aK (rfl:ag Ty _ = .slice _) (rfl:ag Ty _ = .slice _) rfl rfl rfl (h.pick 3 [0,2]) rfl (by simp [aS]) z1.1 z1.2).mono ?_
  rintro _ w11 ⟨o8,c8,rfl,h⟩
  have e2:cG g i (q.2.2.take (j + 1)) = cG g i (q.2.2.take j) ++ [⟨(i:Int),e.sym⟩]:=by rw [ht,sJ,Sz h3]
  have e3:xf (j6 g ss i ++ cG g i (q.2.2.take (j + 1))) = xf (j6 g ss i ++ cG g i (q.2.2.take j)) ++ [.int .i64 (i:Int),.int .i64 e.sym]:=by rw [e2,← SI,It]; rfl
  refine ⟨_,_,_,rfl,⟨by omega,by omega⟩,⟨j + 1,by simp,h2,by rw [e2]; simp; omega,?_⟩,bA h2⟩
  rw [e3]; exact h.pick 2 [0]
 ·have h3:¬(g.T:Int)≤e.sym:=by rw [hTl]; exact Sj h3
  have e2:cG g i (q.2.2.take (j + 1)) = cG g i (q.2.2.take j):=by rw [ht,sJ,Sr h3]
  exact ⟨⟨by omega,by omega⟩,⟨j + 1,by simp,h2,by rw [e2],by rw [e2]; exact h.pick 2 [1]⟩,bA h2⟩
theorem L4 (hg:gR (hp w) g x) (hb:iM g):aC Tryz.prog DU [.agg ⟨x.cells⟩] w fun v w'=>∃ (ss:List SQ) (ask int f:Int) (o:Option Addr) (c:Nat),v = .tuple #[.slice o (aU g ss).length c,.int .i64 f]∧vf g ss ask int f∧St w' (own 2 o (aU g ss).length c (xf (aU g ss)) :: all w):=by
 refine Be _ _ _ _ _ _ _ _ _ _ _ _ _ w _ (de hg fun k1 w1 gw hg B=>?_)
 refine ⟨_,_,_,_,_,_,_,_,_,_,_,_,_,B.row (sub.refl _),(L3 hg hb).mono ?_⟩
 rintro _ w2 ⟨ss,ask,int,f,p,rfl,hR,g2,h0,hn⟩
 refine ⟨_,_,rfl,ae (fun h1=>?_) fun h1=>?_⟩
 ·have h1:f≠0:=by simpa using h1
  have hz:ss = []:=by rcases hR with ⟨_,e,_⟩ | ⟨_,_,e,_⟩ | ⟨_,_,_,_,e⟩ <;> first | exact e | exact absurd e h1
  subst hz
  exact ⟨[],ask,int,f,none,0,rfl,hR,aB 2 (St.here (gw.trans g2))⟩
 have h1:f = 0:=by simpa using h1
 obtain ⟨k,rfl,hw⟩:=h0 h1
 obtain ⟨hc,hA⟩:=hR.Fz h1
 have hkl:=hA.wz hc
 refine (FA hw hA.dn.2.1 fun q hq=>(hkl q hq).2).mono ?_
 rintro _ w3 ⟨o,c,rfl,h⟩
 subst h1
 exact ⟨_,_,_,rfl,ss,ask,int,0,o,c,rfl,hR,St.vK h (cE (gw.trans g2))⟩
theorem G5 {o:Option Addr} {c:Nat} {ask int s:Int} {i:Nat} (hA:bG g ss) (hs:xS (hp w) ss o) (hi:i < ss.length) (hk:∀ q∈ss,q.2.2.length≤130) (hn:ss.length≤256):aC Tryz.prog tp [.agg #[.slice o ss.length c,.int .i64 ask,.int .i64 int],.int .i64 (i:Int),.int .i64 s] w fun v w'=>v = .int .i64 (yR ss i s)∧Gr w w':=by
 obtain ⟨q,hq⟩ : ∃ q,ss[i]? = some q:=⟨_,Sm hi⟩
 have hql:=hk q (Sl hq)
 refine pE _ _ _ _ _ _ _ w _ (ah (St.all w) fun k1 w1 h=>?_)
 have g1:Gr w w1:=h.aX
 obtain ⟨ad,rfl,rs,_,re⟩:=(hs.mono g1) i q hq
 refine ⟨_,_,_,(ai 0 h.l).cell0 (sub.refl _),ay rfl hi ⟨_,_,_,rs.cell (sub.refl _) (j:=1) rfl,fun z w'=>∃ j:Nat,z = j∧j≤q.2.2.length∧(∀ e∈q.2.2.take j,e.sym≠s)∧w' = w1,fun z _=>q.2.2.length - z.toNat,
  ⟨0,rfl,Sv _,by simp,rfl⟩,?_⟩⟩
 rintro _ _ w2 ⟨j,rfl,hj,hno,rfl⟩
 refine ae (fun h2=>?_) fun h2=>?_
 rotate_left
 ·have h2:j = q.2.2.length:=by have:=Sj h2; omega
  subst h2
  rw [SM] at hno
  refine ⟨?_,g1⟩
  have:(q.2.2.find? fun e=>decide (e.sym = s)) = none:=List.find?_eq_none.2 fun e he h=>hno e he (by simpa using h)
  unfold yR
  rw [q9 hq,this]; rfl
 have h2:j < q.2.2.length:=by have:=Si h2; omega
 obtain ⟨e,ead,he,hea,red⟩:=iq re h2
 have ht:q.2.2.take (j + 1) = q.2.2.take j ++ [e]:=by rw [Su,he]; rfl
 refine ay hea h2 ⟨_,red.cell0 (sub.refl _),ae (fun h3=>?_) fun h3=>?_⟩
 ·have h3:e.sym = s:=by simpa using h3
  subst h3
  refine ay hea h2 ⟨_,red.cell (sub.refl _) (j:=1) rfl,?_,g1⟩
  unfold yR
  rw [jM hA hq he]; rfl
 ·have h3:e.sym≠s:=by simpa using h3
  refine ⟨⟨by omega,by omega⟩,⟨j + 1,by simp,h2,fun y hy=>?_,rfl⟩,bA h2⟩
  rw [ht,Sp,SE] at hy
  rcases hy with hy | rfl
  ·exact hno y hy
  ·exact h3
end Go.Proofs.YtngdohpikfcifaaGreatDoor
namespace Go.V
def bS (g:af) (s:Int):Bool:=decide (s < 0) || decide (((g.T + g.N:Nat):Int)≤s)
theorem jj {g:af} {ss:List SQ} (hc:av g) (hA:bG g ss) {i:Nat} {s j:Int} (h:eE ss i s = some j):0≤j∧j < ss.length:=by
 obtain ⟨q,k,e,hq,he,rfl,rfl⟩:=DT h
 obtain ⟨_,_,n,r,hn,h1,hr,_⟩:=fl hc hA hq he
 have:=(Sk.1 hr).1
 omega
end Go.V
namespace Go.V
section
variable {g:af} {ss:List SQ}
def nV (g:af) (es:List aL):List Int:=(es.filter fun e=>decide (e.sym < (g.T:Int))).map (·.sym)
theorem wD {es:List aL} {e:aL}:nV g (es ++ [e]) = if e.sym < (g.T:Int) then nV g es ++ [e.sym] else nV g es:=by
 unfold nV
 rw [Th,SU]
 by_cases h:e.sym < (g.T:Int) <;> simp [h]
theorem Iv (g:af) (es:List aL):(nV g es).length≤es.length:=by
 unfold nV; rw [Ss]; exact Tj _ _
def dm (g:af) (t:ak):List Int:=if t = ⟨0,g.start⟩ then [0] else []
theorem FB (g:af) (t:ak):(dm g t).length≤1:=by unfold dm; split <;> simp
theorem dw {t:ak}:∀ {n:Nat},t∈j6 g ss n→∃ (i:Nat) (q:SQ) (k:Nat) (e:aL),i < n∧ss[i]? = some q∧q.2.2[k]? = some e∧(g.T:Int)≤e.sym∧t = ⟨(i:Int),e.sym⟩
 | 0,h=>by simp [j6] at h
 | n + 1,h=>by
  cases hq:ss[n]? with
  | none =>
   simp [j6,hq] at h
   obtain ⟨i,q,k,e,h1,h2⟩:=dw h
   exact ⟨i,q,k,e,by omega,h2⟩
  | some q =>
   rw [iu hq,Sp] at h
   rcases h with h | h
   ·obtain ⟨i,q,k,e,h1,h2⟩:=dw h
    exact ⟨i,q,k,e,by omega,h2⟩
   ·unfold cG at h
    obtain ⟨e,he,rfl⟩:=SG.1 h
    obtain ⟨h1,h2⟩:=S7.1 he
    obtain ⟨k,hk⟩:=SP h1
    exact ⟨n,q,k,e,by omega,hq,hk,Si h2,rfl⟩
theorem wE {t:ak} {j:Nat} {q:SQ} (h:eE ss t.st.toNat t.sym = some (j:Int)) (hq:ss[j]? = some q):cS g ss t = dm g t ++ nV g q.2.2:=by
 unfold cS
 rw [h]
 show _ ++ (match ss[(j:Int).toNat]? with | none=>[] | some q=>_) = _
 rw [SJ,hq]
 rfl
end
end Go.V
namespace Go.Proofs.YtngdohpikfcifaaGreatDoor
open Go.V
variable {w:World} {L:List aw} {g:af} {x:GA} {ss:List SQ}
theorem Oh (w:World) (xo yo:Operand) (x y:ak):Sem.run Tryz.prog (iX .eql je xo yo (.agg ⟨zz x⟩) (.agg ⟨zz y⟩)) w = .ok (.bool (decide (x = y))) w:=by
 unfold iX
 rw [Sem.run_bind,run_eqGuard_agg w _ _ _ _ _ _ B5]
 simp only [Result.andThen_ok]
 rw [run_eql_struct]
 have e:decide (x = y) = decide (x.st = y.st∧x.sym = y.sym):=by
  cases x; cases y; simp
 rw [e]
 show ((Op.equal je (.agg #[.int .i64 x.st,.int .i64 x.sym]) (.agg #[.int .i64 y.st,.int .i64 y.sym])).run Tryz.prog w).andThen _ = _
 rw [L2 CQ]
 rfl
theorem G6 (hg:gR (hp w) g x) (hb:iM g):aC Tryz.prog jN [.agg ⟨x.cells⟩] w fun v w'=>∃ (ss:List SQ) (ask int f:Int) (o:Option Addr) (c:Nat) (ds:List (Lq Int)),v = .tuple #[.slice o ds.length c,.int .i64 f]∧vf g ss ask int f∧ds.map (·.2) = (aU g ss).map (cS g ss)∧St w' (own 1 o ds.length c (ds.map bF) :: aT (ds.map (bX 1 iv)) :: all w):=by
 refine xU _ _ _ _ _ _ _ _ _ _ _ _ _ w _ (de hg fun k1 w1 gw hg B=>?_)
 refine ⟨_,_,_,_,_,_,_,_,_,_,_,_,_,B.row (sub.refl _),(L3 hg hb).mono ?_⟩
 rintro _ w2 ⟨ss,ask,int,f,p,rfl,hR,g2,h0,hn⟩
 refine ⟨_,_,rfl,ae (fun h1=>?_) fun h1=>?_⟩
 ·have h1:f≠0:=by simpa using h1
  have hz:ss = []:=by rcases hR with ⟨_,e,_⟩ | ⟨_,_,e,_⟩ | ⟨_,_,_,_,e⟩ <;> first | exact e | exact absurd e h1
  subst hz
  exact ⟨[],ask,int,f,none,0,[],rfl,hR,rfl,aB 1 ((St.flat (M:=[])).2 (St.here (gw.trans g2)))⟩
 have h1:f = 0:=by simpa using h1
 subst h1
 obtain ⟨k,rfl,hw⟩:=h0 rfl
 obtain ⟨hc,hA⟩:=hR.Fz rfl
 have hkl:=hA.wz hc
 have h256:=hA.dn.2.1
 have hTn:=sK (g:=g) (fun q hq=>(hkl q hq).2) ss.length
 refine (FA hw h256 fun q hq=>(hkl q hq).2).mono ?_
 rintro _ w3 ⟨oL,cL,rfl,h⟩
 have g3:Gr w2 w3:=aZ 1 h.l
 have rL:aW (hp w3) (aU g ss) oL (aU g ss).length:=wB rfl (gB 0 h.l)
 clear h
 obtain ⟨x',oa,ca,kb,a',int',m,rk,hg',hs,hm,hW⟩:=(hw.mono g3).ex
 have g13:Gr w1 w3:=g2.trans g3
 have hTl:g.T = x.tl:=hg.t.1
 have hst:x.s = g.start:=hg.s
 refine ⟨_,_,_,rfl,fun o n c z w'=>∃ (i:Nat) (ds:List (Lq Int)),z = i∧i≤(aU g ss).length∧n = ds.length∧ds.map (·.2) = ((aU g ss).take i).map (cS g ss)∧St w' (own 1 o n c (ds.map bF) :: aT (ds.map (bX 1 iv)) :: all w3),fun _ _ _ z _=>(aU g ss).length - z.toNat,
  ⟨0,[],rfl,Sv _,rfl,rfl,aB 1 ((St.flat (M:=[])).2 (St.all w3))⟩,?_⟩
 rintro _ o7 _ c7 _ w4 ⟨i,ds,rfl,hi,rfl,hds,h⟩
 have s4:sub (hp w3) (hp w4):=aZ 2 h.l
 have hdl:ds.length = i:=by have:=congrArg List.length hds; rw [Ss,Ss,SN] at this; omega
 have hTL:(aU g ss).length≤ss.length * 130:=hTn
 refine ae (fun h1=>?_) fun h1=>?_
 rotate_left
 ·have h1:i = (aU g ss).length:=by have:=Sj h1; omega
  rw [h1,SM] at hds
  refine jP _ _ _ w4 _ (fk (dJ h) ⟨_,_,_,rfl,ss,ask,int,0,_,_,ds,rfl,hR,hds,?_⟩)
  exact St.JA (fj h) (cE (gw.trans g13))
 have h1:i < (aU g ss).length:=by have:=Si h1; omega
 obtain ⟨t,tad,ht,hta,rt⟩:=fm rL h1
 obtain ⟨i0,q0,k0,e0,hi0,hq0,he0,hge,hte⟩:=dw (Sl ht)
 have hnx:eE ss t.st.toNat t.sym = some e0.to:=by rw [hte]; exact jM hA hq0 he0
 obtain ⟨hto1,hto2⟩:=jj hc hA hnx
 obtain ⟨j0,hj0⟩ : ∃ j0:Nat,e0.to = j0:=⟨e0.to.toNat,by omega⟩
 rw [hj0] at hnx hto2
 have hto:j0 < ss.length:=by omega
 obtain ⟨r,hr⟩ : ∃ r,ss[j0]? = some r:=⟨_,Sm hto⟩
 have hdir:cS g ss t = dm g t ++ nV g r.2.2:=wE hnx hr
 have hrl:=(hkl r (Sl hr)).2
 have hpl:=FB g t
 have hst0:0≤t.st:=by rw [hte]; exact S_ _
 have htk:(aU g ss).take (i + 1) = (aU g ss).take i ++ [t]:=by rw [Su,ht]; rfl
 obtain ⟨sad,rfl,rs,_,re⟩:=hs j0 r hr
 refine ay hta h1 ⟨_,_,rt.at s4 rfl,ah h fun k14 w5 h=>bh h rfl (by simp [aS]) fun w6 h=>?_⟩
 have h:St w6 (aR k14 (zz t) :: own 1 o7 ds.length c7 (ds.map bF) :: aT (ds.map (bX 1 iv)) :: all w3):=h
 have r14:ax (hp w6) (aM k14) (zz t):=ai 0 h.l
 have s6:sub (hp w3) (hp w6):=aZ 3 h.l
 refine ⟨fun o n c w'=>n = (dm g t).length∧St w' (own 1 o n c (iv (dm g t)) :: aR k14 (zz t) :: own 1 o7 ds.length c7 (ds.map bF) :: aT (ds.map (bX 1 iv)) :: all w3),⟨_,_,r14.at (sub.refl _) rfl,_,B.c3 (sub.trans g13 s6),_,Oh w6 _ _ t ⟨0,x.s⟩,_,rfl,ae (fun h2=>?_) fun h2=>?_⟩,?_⟩
 ·have h2:t = ⟨0,g.start⟩:=by rw [← hst]; exact Si h2
  have e:dm g t = [0]:=by unfold dm; rw [Sz h2]
  refine ah h fun k15 w7 h=>?_
  refine (aQ (us:=[]) aK (rfl:ag Ty _ = .slice _) (rfl:ag Ty _ = .slice _) rfl rfl rfl ((aB 1 h).pick 5 [1,0,2,3,4]) rfl (by simp [aS]) (by decide) (by decide)).mono ?_
  rintro _ w8 ⟨o8,c8,rfl,h⟩
  rw [e]
  exact ⟨_,_,_,rfl,rfl,h.pick 5 [0,2,3,4]⟩
 ·have h2:¬t = ⟨0,g.start⟩:=by rw [← hst]; exact Sj h2
  have e:dm g t = []:=by unfold dm; rw [Sr h2]
  rw [e]
  exact ⟨rfl,aB 1 h⟩
 clear h r14 s6
 rintro _ o9 _ c9 w9 ⟨rfl,h⟩
 intro w10 hd
 have h:=h.eq (aD hd)
 have s10:sub (hp w3) (hp w10):=aZ 4 h.l
 have r14:ax (hp w10) (aM k14) (zz t):=ai 1 h.l
 refine ⟨fun u=>Gr w10 u,Gr.refl _,_,_,_,fun u s=>rk.cell (sub.trans s10 s) (j:=5) rfl,_,fun u s=>rk.cell (sub.trans s10 s) (j:=8) rfl,_,_,fun u s=>r14.at s rfl,(cQ (κ:=ak) hm s10 aK (rfl:ag Ty _ = .map _ _) dH rfl rfl t).mono ?_⟩
 rintro _ w14 ⟨rfl,e14⟩
 rw [e14]
 rw [hW.all hst0,hnx]
 refine ⟨_,rfl,fun u=>Gr w10 u,Gr.refl _,fun _ h=>h,ay rfl hto ⟨_,_,_,fun u s=>rs.cell (sub.trans s10 s) (j:=1) rfl,fun o n c z w'=>∃ j:Nat,z = j∧j≤r.2.2.length∧n = (dm g t ++ nV g (r.2.2.take j)).length ∧
  St w' (own 1 o n c (iv (dm g t ++ nV g (r.2.2.take j))) :: own 1 o7 ds.length c7 (ds.map bF) :: aT (ds.map (bX 1 iv)) :: all w3),fun _ _ _ z _=>r.2.2.length - z.toNat,
  ⟨0,rfl,Sv _,by simp [nV],by simpa [nV] using (show St w10 (own 1 o9 (dm g t).length c9 (iv (dm g t)) :: own 1 o7 ds.length c7 (ds.map bF) :: aT (ds.map (bX 1 iv)) :: all w3) from h.pick 4 [0,2,3])⟩,?_⟩⟩
 clear h r14
 rintro _ o13 _ c13 _ w17 ⟨j,rfl,hj,rfl,h⟩
 have s17:sub (hp w3) (hp w17):=aZ 3 h.l
 have hfl:=Iv g (r.2.2.take j)
 rw [SN] at hfl
 refine ae (fun h2=>?_) fun h2=>?_
 ·have h2:j < r.2.2.length:=by have:=Si h2; omega
  obtain ⟨e,ead,he,hea,red⟩:=iq re h2
  have htj:r.2.2.take (j + 1) = r.2.2.take j ++ [e]:=by rw [Su,he]; rfl
  refine ay hea h2 ⟨_,_,red.at s17 rfl,ah h fun k26 w18 h=>bh h rfl (by simp [aS]) fun w19 h=>?_⟩
  have r26:ax (hp w19) (aM k26) [.int .i64 e.sym,.int .i64 e.to]:=ai 0 h.l
  have s19:sub (hp w3) (hp w19):=aZ 4 h.l
  refine ⟨_,r26.cell0 (sub.refl _),_,_,_,B.c0 (sub.trans g13 s19),ae (fun h3=>?_) fun h3=>?_⟩
  ·have h3:e.sym < (g.T:Int):=by rw [hTl]; exact Si h3
   have z1:((dm g t ++ nV g (r.2.2.take j)).length + 1) * 8≤140737488355328∧(dm g t ++ nV g (r.2.2.take j)).length < 9223372036854775807:=by rw [Sx]; omega
   refine ⟨_,r26.cell0 (sub.refl _),ah h fun k29 w20 h=>?_⟩
   refine (aQ (us:=iv (dm g t ++ nV g (r.2.2.take j))) aK (rfl:ag Ty _ = .slice _) (rfl:ag Ty _ = .slice _) rfl rfl rfl (h.pick 5 [0,2,3,4]) rfl (by simp [aS]) z1.1 z1.2).mono ?_
   rintro _ w21 ⟨o15,c15,rfl,h⟩
   have e2:dm g t ++ nV g (r.2.2.take (j + 1)) = dm g t ++ nV g (r.2.2.take j) ++ [e.sym]:=by rw [htj,wD,Sz h3,SI]
   have e3:iv (dm g t ++ nV g (r.2.2.take (j + 1))) = iv (dm g t ++ nV g (r.2.2.take j)) ++ [.int .i64 e.sym]:=by rw [e2]; unfold iv; rw [SU]; rfl
   refine ⟨_,_,_,rfl,⟨by omega,by omega⟩,⟨j + 1,by simp,h2,by rw [e2]; simp; omega,?_⟩,bA h2⟩
   rw [e3]; exact h.pick 4 [0,2,3]
  ·have h3:¬e.sym < (g.T:Int):=by rw [hTl]; exact Sj h3
   have e2:nV g (r.2.2.take (j + 1)) = nV g (r.2.2.take j):=by rw [htj,wD,Sr h3]
   exact ⟨⟨by omega,by omega⟩,⟨j + 1,by simp,h2,by rw [e2],by rw [e2]; exact h.pick 4 [1,2,3]⟩,bA h2⟩
 have h2:j = r.2.2.length:=by have:=Sj h2; omega
 rw [h2,SM,← hdir] at h ⊢
 refine cV _ _ _ w17 _ (fk (dJ h) ⟨_,_,_,rfl,?_⟩)
 have h:=fj h
 refine ah h fun k34 w23 h=>?_
 have z1:(ds.length + 1) * 24≤140737488355328∧ds.length < 9223372036854775807:=by omega
 refine (aQ (us:=ds.map bF) aK (rfl:ag Ty _ = .slice _) (rfl:ag Ty _ = .slice _) rfl rfl rfl (h.pick 4 [0,2,1,3]) rfl (by simp [aS]) z1.1 z1.2).mono ?_
 rintro _ w24 ⟨o17,c17,rfl,h⟩
 have h:=St.snoc (h.pick 4 [2,3,0])
 refine ⟨_,_,_,rfl,⟨by omega,by omega⟩,⟨i + 1,ds ++ [((fw o13 0 (cS g ss t).length 1,(cS g ss t).length),cS g ss t)],by simp,h1,by simp,by rw [htk]; simp [hds],?_⟩,bA h1⟩
 have h3:St w24 (own 1 o17 (ds.length + 1) c17 (ds.map bF ++ [.slice (fw o13 0 (cS g ss t).length 1) (cS g ss t).length (cS g ss t).length]) :: aT (ds.map (bX 1 iv) ++ [own 1 (fw o13 0 (cS g ss t).length 1) (cS g ss t).length (cS g ss t).length (iv (cS g ss t))]) :: all w3):=h.pick 2 [1,0]
 simpa [bF,bX] using h3
end Go.Proofs.YtngdohpikfcifaaGreatDoor

namespace Go.V
section
variable {g:af} {ss ss' : List SQ}
theorem L5 (h:bf ss = bf ss') (i:Nat):(ss[i]?).map (fun q=>q.2.2) = (ss'[i]?).map fun q=>q.2.2:=by
 have:=congrArg (fun l=>l[i]?) h
 unfold bf at this
 simpa [Sn] using this
theorem G7 (h:bf ss = bf ss') (i:Nat) (s:Int):eE ss i s = eE ss' i s:=by
 have:=L5 h i
 unfold eE
 cases h1:ss[i]? <;> cases h2:ss'[i]? <;> simp [h1,h2] at this ⊢
 rw [this]
theorem L6 (h:bf ss = bf ss'):∀ i,j6 g ss i = j6 g ss' i
 | 0=>rfl
 | i + 1=>by
  have:=L5 h i
  show j6 g ss i ++ _ = j6 g ss' i ++ _
  rw [L6 h i]
  cases h1:ss[i]? <;> cases h2:ss'[i]? <;> simp [h1,h2] at this ⊢
  rw [this]
theorem L7 (h:bf ss = bf ss'):ss.length = ss'.length:=by have:=congrArg List.length h; simpa [bf] using this
theorem nW (h:bf ss = bf ss'):aU g ss = aU g ss':=by unfold aU; rw [L7 h,L6 h]
theorem L8 (h:bf ss = bf ss') (t:ak):cS g ss t = cS g ss' t:=by
 unfold cS
 rw [G7 h]
 congr 1
 cases eE ss' t.st.toNat t.sym with
 | none=>rfl
 | some j =>
  have:=L5 h j.toNat
  show (match ss[j.toNat]? with | none=>[] | some q=>_) = (match ss'[j.toNat]? with | none=>[] | some q=>_)
  cases h1:ss[j.toNat]? <;> cases h2:ss'[j.toNat]? <;> simp [h1,h2] at this ⊢
  rw [this]
theorem DX (h:bf ss = bf ss'):∀ (l:List Int) (q:Int),bM ss q l = bM ss' q l
 | [],q=>rfl
 | s :: l,q=>by
  unfold bM
  rw [G7 h]
  cases eE ss' q.toNat s with
  | none=>rfl
  | some j=>exact DX h l j
end
end Go.V
namespace Go.V
section
variable {g:af} {ss:List SQ}
theorem Iw:∀ (n i:Nat),i≤n→∃ t,j6 g ss n = j6 g ss i ++ t
  | 0, i, h => ⟨[], by have : i = 0 := by omega
                       subst this; simp⟩
  | n + 1,i,h=>by
    by_cases e:i = n + 1
    · subst e; exact ⟨[],by simp⟩
    · obtain ⟨t,ht⟩:=Iw n i (by omega)
      exact ⟨t ++ (match ss[n]? with | some q=>cG g n q.2.2 | none=>[]),by rw [← SI,← ht]; rfl⟩
theorem L9 (i:Nat) (a b:List aL):cG g i (a ++ b) = cG g i a ++ cG g i b:=by unfold cG; rw [Th,SU]
theorem G8 {i:Nat} {q:SQ} (hq:ss[i]? = some q) {j:Nat} {e:aL} (he:q.2.2[j]? = some e) (h:(g.T:Int)≤e.sym):(aU g ss)[(j6 g ss i ++ cG g i (q.2.2.take j)).length]? = some ⟨(i:Int),e.sym⟩:=by
 have hi:=(Sk.1 hq).1
 obtain ⟨t,ht⟩:=Iw (g:=g) (ss:=ss) ss.length (i + 1) (by omega)
 have hd:q.2.2 = q.2.2.take j ++ e :: q.2.2.drop (j + 1):=by
  have hj:=(Sk.1 he)
  rw [← hj.2,← Tz hj.1,S5]
 have e1:cG g i q.2.2 = cG g i (q.2.2.take j) ++ ⟨(i:Int),e.sym⟩ :: cG g i (q.2.2.drop (j + 1)):=by
  conv=>lhs; rw [hd]
  rw [L9]
  congr 1
  unfold cG
  rw [List.filter_cons_of_pos (by simpa using h)]
  rfl
 unfold aU
 rw [ht,iu hq,e1,← SI,SI,SC (SF _),Tx]
 rfl
end
end Go.V
namespace Go.V
section
variable {g:af} {ss:List SQ}
theorem L_ (W:Nat→Bool) (n:Nat):(List.range (n + 1)).filter W = (List.range n).filter W ++ if W n = true then [n] else []:=by
 rw [TX,Th]
 congr 1
 by_cases h:W n = true <;> simp [h]
def PZ (g:af) (ss:List SQ) (t:ak) (j n:Nat):Bool:=if n = 0 then decide (t = ⟨0,g.start⟩) else (eE ss j n).isSome
theorem wF (h:bG g ss) {j:Nat} {r:SQ} (hr:ss[j]? = some r) {n:Nat} (hn:n < g.T + g.N):(eE ss j (n:Int)).isSome = decide (aF g r.1.2 (n:Int)≠[]):=by
 have hrise:=Bc h hr
 rw [q9 hr,Option.isSome_map,S9,Sy,List.find?_isSome]
 constructor
 ·rintro ⟨e,he,h1⟩
  have h1:e.sym = n:=Si h1
  have:e.sym∈r.2.2.map (·.sym):=SG.2 ⟨e,he,rfl⟩
  rw [hrise,h1] at this
  obtain ⟨m,hm,e2⟩:=SG.1 this
  have e2:m = n:=Int.ofNat.inj e2
  subst e2
  exact sD m hm
 ·intro hk
  have:(n:Int)∈r.2.2.map (·.sym):=by
   rw [hrise]
   exact SG.2 ⟨n,S7.2 ⟨SO.2 hn,S2 hk⟩,rfl⟩
  obtain ⟨e,he,h1⟩:=SG.1 this
  exact ⟨e,he,S2 h1⟩
theorem Ma:∀ (T N:Nat) (p:Nat→Bool),((List.range (T + N)).filter p).filter (fun n=>decide (n < T)) = (List.range T).filter p
 | T,0,p=>by
  rw [Nat.add_zero,List.filter_filter]
  refine List.filter_congr fun n hn=>?_
  rw [SO] at hn
  simp [hn]
 | T,N + 1,p=>by
  rw [← Nat.add_assoc,L_,Th,Ma T N p]
  have:(if p (T + N) = true then [T + N] else []).filter (fun n=>decide (n < T)) = []:=by split <;> simp
  rw [this,S6]
theorem Mb (h:bG g ss) {j:Nat} {r:SQ} (hr:ss[j]? = some r):nV g r.2.2 = ((List.range g.T).filter fun n=>decide (aF g r.1.2 (n:Nat)≠[])).map Int.ofNat:=by
 have hrise:=Bc h hr
 have e1:nV g r.2.2 = (r.2.2.map (·.sym)).filter fun s=>decide (s < (g.T:Int)):=by
  unfold nV
  rw [List.filter_map]
  rfl
 have e2:=Ma g.T g.N fun n=>decide (aF g r.1.2 (n:Nat)≠[])
 rw [e1,hrise,List.filter_map,← e2]
 congr 1
 refine List.filter_congr fun n hn=>?_
 show decide ((n:Int) < _) = _
 exact decide_eq_decide.2 (by omega)
theorem Oi (hc:av g) (h:bG g ss) {t:ak} {j:Nat} {r:SQ} (hr:ss[j]? = some r):dm g t ++ nV g r.2.2 = ((List.range g.T).filter (PZ g ss t j)).map Int.ofNat:=by
 obtain ⟨hT,hN,hP,hP2,h1,_⟩:=hc.eD
 have hK:=(uI h hr).1
 have hf:=(jf (g:=g) (by omega) j).fit _ (Sl hK)
 have h0:=LY hc hf
 rw [Mb h hr]
 obtain ⟨T,hT'⟩ : ∃ T,g.T = T + 1:=⟨g.T - 1,by omega⟩
 rw [hT',List.range_succ_eq_map]
 have e1:((0 :: (List.range T).map Nat.succ).filter fun n=>decide (aF g r.1.2 (n:Nat)≠[])) = ((List.range T).map Nat.succ).filter fun n=>decide (aF g r.1.2 (n:Nat)≠[]):=by
  rw [List.filter_cons_of_neg]
  simpa using h0
 have e2:((List.range T).map Nat.succ).filter (PZ g ss t j) = ((List.range T).map Nat.succ).filter fun n=>decide (aF g r.1.2 (n:Nat)≠[]):=by
  refine List.filter_congr fun n hn=>?_
  obtain ⟨m,hm,rfl⟩:=SG.1 hn
  rw [SO] at hm
  unfold PZ
  rw [Sr (by omega),wF h hr (by omega)]
 rw [e1]
 unfold dm
 by_cases ht:t = ⟨0,g.start⟩
 ·rw [Sz ht,List.filter_cons_of_pos (by unfold PZ; simp [ht]),e2]
  rfl
 ·rw [Sr ht,List.filter_cons_of_neg (by unfold PZ; simp [ht]),e2]
  rfl
end
end Go.V
namespace Go.V
section
variable {g:af} {ss:List SQ}
theorem mS (q s:Int) (l:List Int):bM ss q (s :: l) = match eE ss q.toNat s with | none=>-1 | some j=>bM ss j l:=rfl
theorem wG (hn:∀ i s j,eE ss i s = some j→0≤j∧j < ss.length):∀ (l:List Int) (q:Int),0≤q→q < ss.length→bM ss q l = -1∨(0≤bM ss q l∧bM ss q l < ss.length)
 | [],q,h1,h2=>.inr ⟨h1,h2⟩
 | s :: l,q,h1,h2=>by
  unfold bM
  cases h:eE ss q.toNat s with
  | none=>exact .inl rfl
  | some j=>exact wG hn l j (hn _ _ _ h).1 (hn _ _ _ h).2
theorem q_ (hn:∀ i s j,eE ss i s = some j→0≤j∧j < ss.length) (b:List Int):∀ (l:List Int) (q:Int),0≤q→q < ss.length→bM ss q (l ++ b) = if bM ss q l = -1 then -1 else bM ss (bM ss q l) b
 | [],q,h1,h2=>by
  show bM ss q b = if q = -1 then -1 else bM ss q b
  rw [Sr (by omega)]
 | s :: l,q,h1,h2=>by
  show bM ss q (s :: (l ++ b)) = _
  rw [mS q s (l ++ b),mS q s l]
  cases h:eE ss q.toNat s with
  | none=>simp
  | some j=>exact q_ hn b l j (hn _ _ _ h).1 (hn _ _ _ h).2
theorem vf.nx {a i f:Int} (h:vf g ss a i f):∀ i s j,eE ss i s = some j→0≤j∧j < ss.length:=fun i s j hj=>by
 rcases h with ⟨_,rfl,_⟩ | ⟨_,_,rfl,_⟩ | ⟨hc,hA,_⟩
 ·simp [eE] at hj
 ·simp [eE] at hj
 ·exact jj hc hA hj
end
end Go.V
namespace Go.V
section
variable {g:af} {ss:List SQ}
structure FD (g:af) (ss:List SQ) (ins:List Bool) (todo:List Nat) (ws:List (Lq Int)):Prop where
 len:ws.length = ins.length
 way:∀ (j:Nat),ins[j]? = some true→∃ v,ws[j]? = some v∧bM ss 0 v.2 = (j:Int)∧v.2.any (bS g) = false∧v.2.length + 1≤ins.count true
 td:∀ j:Nat,j∈todo→ins[j]? = some true
theorem FE {ins:List Bool} {j:Nat} (h:ins[j]? = some false):(ins.set j true).count true = ins.count true + 1:=by
 induction ins generalizing j with
 | nil=>simp at h
 | cons b l ih =>
  cases j with
  | zero=>simp at h; subst h; simp
  | succ j =>
   have:=ih (j:=j) (by simpa using h)
   rw [List.set_cons_succ,List.count_cons,List.count_cons]
   omega
theorem FD.start (hp:0 < ss.length):FD g ss ((List.replicate ss.length false).set 0 true) [0] (List.replicate ss.length ((none,0),[])):=by
 have hc:((List.replicate ss.length false).set 0 true).count true = 1:=by
  rw [FE (by rw [Tc,Sz hp])]
  simp [List.count_replicate]
 have hi:∀ i,((List.replicate ss.length false).set 0 true)[i]? = some true→i = 0:=fun i h=>by
  by_cases e:0 = i
  ·exact e.symm
  ·rw [SR e,Tc] at h
   split at h <;> simp at h
 refine ⟨by simp,fun j hj=>?_,fun j hj=>?_⟩
 ·have:=hi j hj
  subst this
  exact ⟨_,by rw [Tc,Sz hp],rfl,rfl,by rw [hc]; simp⟩
 ·rw [SE] at hj
  subst hj
  rw [SY (by simpa using hp)]
theorem FD.pop {ins:List Bool} {q:Nat} {todo:List Nat} {ws:List (Lq Int)} (h:FD g ss ins (q :: todo) ws):FD g ss ins todo ws:=⟨h.len,h.way,fun j hj=>h.td j (by simp [hj])⟩
theorem FD.step {ins:List Bool} {q j:Nat} {todo:List Nat} {ws:List (Lq Int)} {v:Lq Int} {s:Int} {a:Option Addr} {c:Nat} (h:FD g ss ins todo ws) (hn:∀ i s j,eE ss i s = some j→0≤j∧j < ss.length) (hp:0 < ss.length)
  (hq:ins[q]? = some true) (hv:ws[q]? = some v) (hs:bS g s = false) (hx:eE ss q s = some (j:Int)) (hj:ins[j]? = some false):FD g ss (ins.set j true) (todo ++ [j]) (ws.set j ((a,c),v.2 ++ [s])):=by
 have hjl:=(Sk.1 hj).1
 have hct:=FE hj
 obtain ⟨v',hv',w1,w2,w3⟩:=h.way q hq
 rw [hv] at hv'; cases hv'
 refine ⟨by rw [SL,SL,h.len],fun i hi=>?_,fun i hi=>?_⟩
 ·by_cases e:j = i
  ·subst e
   refine ⟨_,by rw [SY (by rw [h.len]; exact hjl)],?_,?_,?_⟩
   ·show bM ss 0 (v.2 ++ [s]) = _
    rw [q_ hn [s] v.2 0 (Int.le_refl _) (by omega),w1,Sr (by omega)]
    unfold bM
    rw [SJ,hx]
    rfl
   ·show (v.2 ++ [s]).any (bS g) = false
    rw [List.any_append,w2]
    simp [hs]
   ·show (v.2 ++ [s]).length + 1≤_
    rw [Sx,T5,hct]; omega
  ·rw [SR e] at hi
   obtain ⟨v2,h1,h2,h3,h4⟩:=h.way i hi
   exact ⟨v2,by rw [SR e]; exact h1,h2,h3,by omega⟩
 ·rw [Sp,SE] at hi
  by_cases e:j = i
  ·subst e; rw [SY hjl]
  ·rw [SR e]
   exact h.td i (hi.resolve_right (fun h=>e h.symm))
end
end Go.V
namespace Go.V
section
variable {g:af} {ss:List SQ}
theorem Oj (hc:av g) (hA:bG g ss) {i:Nat} {q:SQ} (hq:ss[i]? = some q) {y:aj} {s:Int} (hy:zq g q.1.2 y) (hs:dO g y = s) (h0:0≤s):∃ (j:Nat) (r:SQ),eE ss i s = some (j:Int)∧ss[j]? = some r∧(⟨y.prod,y.dot + 1⟩ : aj)∈r.1.2:=by
 obtain ⟨hT,hN,hP,hP2,_,_⟩:=hc.eD
 have hK:=(uI hA hq).1
 have hf:=(jf (g:=g) (by omega) i).fit _ (Sl hK)
 have hm:(⟨y.prod,y.dot + 1⟩ : aj)∈aF g q.1.2 s:=ik.2 ⟨y,hy,hs,rfl⟩
 have hne:aF g q.1.2 s≠[]:=List.ne_nil_of_mem hm
 have hsr:=qS hc hf h0 hne
 obtain ⟨n,rfl⟩ : ∃ n:Nat,s = n:=⟨s.toNat,by omega⟩
 have hsome:=wF hA hq (n:=n) (by omega)
 rw [S2 hne] at hsome
 obtain ⟨t,ht⟩:=Option.isSome_iff_exists.1 hsome
 obtain ⟨q',k,e,hq',he,he1,he2⟩:=DT ht
 rw [hq] at hq'; cases hq'
 obtain ⟨_,_,j,r,hj,_,hr,hrk,_⟩:=fl hc hA hq he
 refine ⟨j,r,by rw [ht,← he2,hj],hr,?_⟩
 rw [hrk,he1]
 exact hm
theorem nX (hc:av g) (hA:bG g ss) {n:Nat} {p:aJ} (hp:g.prods[n]? = some p):∀ (d m:Nat),m + d = p.right.length→∀ (i:Nat) (q:SQ),ss[i]? = some q→zq g q.1.2 ⟨(n:Int),(m:Int)⟩ →
  ∃ (j:Nat) (r:SQ),bM ss (i:Int) (p.right.drop m) = (j:Int)∧ss[j]? = some r∧zq g r.1.2 ⟨(n:Int),(p.right.length:Int)⟩
 | 0,m,hm,i,q,hq,hy=>⟨i,q,by rw [List.drop_of_length_le (by omega)]; rfl,hq,by rw [show p.right.length = m by omega]; exact hy⟩
 | d + 1,m,hm,i,q,hq,hy=>by
  have hlt:m < p.right.length:=by omega
  have hpm:p∈g.prods:=Sl hp
  have hs:dO g ⟨(n:Int),(m:Int)⟩ = p.right[m]:=by
   rw [qF (p:=p) (by show g.prods[(n:Int).toNat]? = _; rw [SJ]; exact hp)]
   show p.right.getD (m:Int).toNat (-1) = _
   rw [SJ]
   simp [hlt]
  have hsy:=hc.sym hpm (List.getElem_mem hlt)
  obtain ⟨j,r,h1,h2,h3⟩:=Oj hc hA hq hy hs (by omega)
  have h4:zq g r.1.2 ⟨(n:Int),((m + 1:Nat):Int)⟩:=.base (by simpa using h3)
  obtain ⟨j',r',e1,e2,e3⟩:=nX hc hA hp d (m + 1) (by omega) j r h2 h4
  refine ⟨j',r',?_,e2,e3⟩
  rw [Tz hlt,mS,SJ,h1]
  exact e1
end
end Go.V
namespace Go.Proofs.YtngdohpikfcifaaGreatDoor
open Go.V
abbrev mT:FuncId:=24
def uK:bj:={ rngs:=[],loops:=[],joins:=[],blocks:=[] }
def wH (a:Option Addr) (b c:Nat) (d:Option Addr) (e f:Nat) (g:Option Addr) (i j:Nat) (k:Int) (l:Option Addr) (m n:Nat) (w:World) (R:Value→WP):Prop :=  new w (oC [vS a b c,vS d e f,vS g i j,iI k,vS l m n] 27) fun k1 w1=>∃ o1 k2 k3 o2 k4 k5 o3 k6 k7 n1 o4 k8 k9,V.rowAt w1 (aM k1) 0 5 = some [vS o1 k2 k3,vS o2 k4 k5,vS o3 k6 k7,iI n1,vS o4 k8 k9]∧au Proofs.Tryz.prog Ev 57 [vA (Array.mk [vS o1 k2 k3,vS o2 k4 k5,vS o3 k6 k7,iI n1,vS o4 k8 k9])] w1 fun v1 w2=>∃ b1,v1 = vB b1∧br (!b1) (R (vT (Array.mk [vS none 0 0,iI 1])) w2) (∀ w3,drawn w2 w3→∃ (I1:World→Prop),I1 w3∧∃ o5 k10 k11 o6 k12 k13 o7 k14 k15 n2 o8 k16 k17,(∀ w4,I1 w4→V.rowAt w4 (aM k1) 0 5 = some [vS o5 k10 k11,vS o6 k12 k13,vS o7 k14 k15,iI n2,vS o8 k16 k17])∧∃ o9 k18 k19,(∀ w5,I1 w5→World.cell? w5 (aM k1) = some (vS o9 k18 k19))∧au Proofs.Tryz.prog Ev 58 [vA (Array.mk [vS o5 k10 k11,vS o6 k12 k13,vS o7 k14 k15,iI n2,vS o8 k16 k17])] w3 fun v2 w6=>∃ o10,v2 = vP o10∧∃ (I2:World→Prop),I2 w6∧(∀ w7,I2 w7→I1 w7)∧nn o10 fun a1=>∃ o11 k20 k21,(∀ w8,I2 w8→World.cell? w8 (Addr.add a1 5) = some (vS o11 k20 k21))∧p8 o11 k20 k21 (some (↑k18:Int)) none none 1 fun (o12:Option Addr) (k22 k23:Nat)=>R (vT (Array.mk [vS o12 k22 k23,iI 0])) w6)
theorem uL (a:Option Addr) (b c:Nat) (d:Option Addr) (e f:Nat) (g:Option Addr) (i j:Nat) (k:Int) (l:Option Addr) (m n:Nat) (w:World) (R:Value→WP) (h:wH a b c d e f g i j k l m n w R):aC Tryz.prog 24 [(.agg #[(.slice a b c),(.slice d e f),(.slice g i j),(.int .i64 k),(.slice l m n)])] w R:=rv Tryz.func24 uK (by kernel_rfl) h

abbrev Bg:FuncId:=57
def xW:bj:={ rngs:=[],loops:=[],joins:=[],blocks:=[] }
def zB (a:Option Addr) (b c:Nat) (d:Option Addr) (e f:Nat) (g:Option Addr) (i j:Nat) (k:Int) (l:Option Addr) (m n:Nat) (w:World) (R:Value→WP):Prop :=  new w (oC [vS a b c,vS d e f,vS g i j,iI k,vS l m n] 27) fun k1 w1=>∃ o1 k2 k3 o2 k4 k5 o3 k6 k7 n1 o4 k8 k9,V.rowAt w1 (aM k1) 0 5 = some [vS o1 k2 k3,vS o2 k4 k5,vS o3 k6 k7,iI n1,vS o4 k8 k9]∧au Proofs.Tryz.prog Ev 94 [vA (Array.mk [vS o1 k2 k3,vS o2 k4 k5,vS o3 k6 k7,iI n1,vS o4 k8 k9])] w1 fun v1 w2=>∃ b1,v1 = vB b1∧br b1 (R (vB true) w2) (∃ o5 k10 k11 o6 k12 k13 o7 k14 k15 n2 o8 k16 k17,V.rowAt w2 (aM k1) 0 5 = some [vS o5 k10 k11,vS o6 k12 k13,vS o7 k14 k15,iI n2,vS o8 k16 k17]∧au Proofs.Tryz.prog Ev 60 [vA (Array.mk [vS o5 k10 k11,vS o6 k12 k13,vS o7 k14 k15,iI n2,vS o8 k16 k17])] w2 fun v2 w3=>∃ b2,v2 = vB b2∧R (vB b2) w3)
theorem xX (a:Option Addr) (b c:Nat) (d:Option Addr) (e f:Nat) (g:Option Addr) (i j:Nat) (k:Int) (l:Option Addr) (m n:Nat) (w:World) (R:Value→WP) (h:zB a b c d e f g i j k l m n w R):aC Tryz.prog 57 [(.agg #[(.slice a b c),(.slice d e f),(.slice g i j),(.int .i64 k),(.slice l m n)])] w R:=rv Tryz.func57 xW (by kernel_rfl) h

abbrev G9:FuncId:=58
def DY:bj:={ rngs:=[],loops:=[(4,[(24,(.one (.int .i64)))]),(9,[(6,(.one (.int .i64)))]),(12,[(6,(.one (.int .i64))),(48,(.one (.int .i64)))])],joins:=[],blocks:=[] }
def FF (a:Option Addr) (b c:Nat) (d:Option Addr) (e f:Nat) (g:Option Addr) (i j:Nat) (k:Int) (l:Option Addr) (m n:Nat) (w:World) (R:Value→WP):Prop :=  new w (oC [vS a b c,vS d e f,vS g i j,iI k,vS l m n] 27) fun k1 w1=>∃ o1 k2 k3,World.cell? w1 (aM k1) = some (vS o1 k2 k3)∧∃ o2 k4 k5,World.cell? w1 (Addr.add (aM k1) 1) = some (vS o2 k4 k5)∧aG ((↑k2:Int) + (↑k4:Int))∧∀ w2,drawn w1 w2→∃ (I1:World→Prop),I1 w2∧∃ o3 k6 k7 o4 k8 k9 o5 k10 k11 n1 o6 k12 k13,(∀ w3,I1 w3→V.rowAt w3 (aM k1) 0 5 = some [vS o3 k6 k7,vS o4 k8 k9,vS o5 k10 k11,iI n1,vS o6 k12 k13])∧y7 ((↑k2:Int) + (↑k4:Int)) ((↑k2:Int) + (↑k4:Int)) 1∧new w2 (Obj.cells (Array.mk (gG (Int.toNat ((↑k2:Int) + (↑k4:Int))) [vB false])) 4) fun k14 w4=>I1 w4∧new w4 (oC [vS o3 k6 k7,vS o4 k8 k9,vS o5 k10 k11,iI n1,vS o6 k12 k13,vS (some (aM k14)) (Int.toNat ((↑k2:Int) + (↑k4:Int))) (Int.toNat ((↑k2:Int) + (↑k4:Int))),vS none 0 0] 125) fun k15 w5=>I1 w5∧∃ (x1:lP [(24,aI)]),∃ (x2:lN [(24,aI)]),x1 0 w5∧∀ (I2:Nat→Value) (n2:Int) (w6:World),x1 n2 w6→br (decide (n2 < (↑k2:Int) + (↑k4:Int))) (∀ w7,drawn w6 w7→∃ (I3:World→Prop),I3 w7∧∃ o7 k16 k17,(∀ w8,I3 w8→World.cell? w8 (Addr.add (aM k15) 6) = some (vS o7 k16 k17))∧∃ o8 k18 k19,(∀ w9,I3 w9→World.cell? w9 (aM k1) = some (vS o8 k18 k19))∧new w7 (oC [iI n2] 3) fun k20 w10=>I3 w10∧au Proofs.Tryz.prog Ev 51 [iI (↑k18:Int),vS (some (aM k20)) 1 1] w10 fun v1 w11=>∃ o9,v1 = vP o9∧I3 w11∧new w11 (oC [vP o9] 117) fun k21 w12=>I3 w12∧az Proofs.Tryz.prog (f_ 123 (Array.mk [vS o7 k16 k17,vS (some (aM k21)) 1 1])) w12 fun v2 w13=>∃ o10 k22 k23,v2 = vS o10 k22 k23∧I3 w13∧st1 w13 (Addr.add (aM k15) 6) (vS o10 k22 k23) fun w14=>aG (n2 + 1)∧x1 (n2 + 1) w14∧x2 (n2 + 1) w14 < x2 n2 w6) (∃ (x3:lP [(6,aI)]),∃ (x4:lN [(6,aI)]),x3 1 w6∧∀ (I4:Nat→Value) (n3:Int) (w15:World),x3 n3 w15→br (decide (0 < n3)) (∃ o11 k24 k25,World.cell? w15 (Addr.add (aM k1) 4) = some (vS o11 k24 k25)∧∃ (x5:lP [(6,aI),(48,aI)]),∃ (x6:lN [(6,aI),(48,aI)]),x5 0 0 w15∧∀ (I5:Nat→Value) (n4 n5:Int) (w16:World),x5 n4 n5 w16→br (decide (n5 < (↑k24:Int))) (idx o11 k24 n5 3 fun a1=>∃ n6 o12 k26 k27 n7,V.rowAt w16 a1 0 3 = some [iI n6,vS o12 k26 k27,iI n7]∧new w16 (oC [iI 0,vS none 0 0,iI 0] 55) fun k28 w17=>iA w17 (aM k28) [iI n6,vS o12 k26 k27,iI n7] fun w18=>∀ w19,drawn w18 w19→∃ (I6:World→Prop),I6 w19∧∃ o13 k29 k30,(∀ w20,I6 w20→World.cell? w20 (Addr.add (aM k15) 6) = some (vS o13 k29 k30))∧∃ n8,(∀ w21,I6 w21→World.cell? w21 (aM k28) = some (iI n8))∧idx o13 k29 n8 1 fun a2=>∃ o14,(∀ w22,I6 w22→World.cell? w22 a2 = some (vP o14))∧∃ o15 k31 k32,(∀ w23,I6 w23→World.cell? w23 (Addr.add (aM k28) 1) = some (vS o15 k31 k32))∧au Proofs.Tryz.prog Ev 59 [vP (some (aM k15)),vP o14,vS o15 k31 k32] w19 fun v3 w24=>∃ n9 b1,v3 = vT (Array.mk [iI n9,vB b1])∧I6 w24∧aG (n4 + n9)∧∀ w25,drawn w24 w25→∃ (I7:World→Prop),I7 w25∧br b1 (∃ o16 k33 k34,(∀ w26,I7 w26→World.cell? w26 (Addr.add (aM k15) 5) = some (vS o16 k33 k34))∧∃ n10,(∀ w27,I7 w27→World.cell? w27 (aM k28) = some (iI n10))∧idx o16 k33 n10 1 fun a3=>∃ b2,(∀ w28,I7 w28→World.cell? w28 a3 = some (vB b2))∧br (!b2) (∀ w29,drawn w25 w29→∃ (I8:World→Prop),I8 w29∧∃ o17 k35 k36,(∀ w30,I8 w30→World.cell? w30 (Addr.add (aM k15) 5) = some (vS o17 k35 k36))∧∃ n11,(∀ w31,I8 w31→World.cell? w31 (aM k28) = some (iI n11))∧idx o17 k35 n11 1 fun a4=>st1 w29 a4 (vB true) fun w32=>aG (n4 + n9 + 1)∧aG (n5 + 1)∧x5 (n4 + n9 + 1) (n5 + 1) w32∧x6 (n4 + n9 + 1) (n5 + 1) w32 < x6 n4 n5 w16) (aG (n5 + 1)∧x5 (n4 + n9) (n5 + 1) w25∧x6 (n4 + n9) (n5 + 1) w25 < x6 n4 n5 w16)) (aG (n5 + 1)∧x5 (n4 + n9) (n5 + 1) w25∧x6 (n4 + n9) (n5 + 1) w25 < x6 n4 n5 w16)) (x3 n4 w16∧x4 n4 w16 < x4 n3 w15)) (R (vP (some (aM k15))) w15))
theorem DZ (a:Option Addr) (b c:Nat) (d:Option Addr) (e f:Nat) (g:Option Addr) (i j:Nat) (k:Int) (l:Option Addr) (m n:Nat) (w:World) (R:Value→WP) (h:FF a b c d e f g i j k l m n w R):aC Tryz.prog 58 [(.agg #[(.slice a b c),(.slice d e f),(.slice g i j),(.int .i64 k),(.slice l m n)])] w R:=rv Tryz.func58 DY (by kernel_rfl) h

abbrev xY:FuncId:=59
def uM:bj:={ rngs:=[],loops:=[(3,[(8,(.one (.int .i64))),(13,(.one (.int .i64)))])],joins:=[],blocks:=[] }
def wI (a b c:Option Addr) (d e:Nat) (w:World) (R:Value→WP):Prop :=  ∃ (x1:lP [(8,aI),(13,aI)]),∃ (x2:lN [(8,aI),(13,aI)]),x1 0 0 w∧∀ (I1:Nat→Value) (n1 n2:Int) (w1:World),x1 n1 n2 w1→br (decide (n2 < (↑d:Int))) (idx c d n2 1 fun a1=>∃ n3,World.cell? w1 a1 = some (iI n3)∧nn a fun a2=>∃ o1 k1 k2,World.cell? w1 (Addr.add a2 6) = some (vS o1 k1 k2)∧idx o1 k1 n3 1 fun a3=>∃ o2,World.cell? w1 a3 = some (vP o2)∧new w1 (oC [vP o2] 117) fun k3 w2=>au Proofs.Tryz.prog Ev 95 [vP b,vS (some (aM k3)) 1 1] w2 fun v1 w3=>∃ n4,v1 = iI n4∧aG (n1 + n4)∧nn a fun a4=>∃ o3 k4 k5,World.cell? w3 (Addr.add a4 5) = some (vS o3 k4 k5)∧idx o3 k4 n3 1 fun a5=>∃ b1,World.cell? w3 a5 = some (vB b1)∧br (!b1) (R (vT (Array.mk [iI (n1 + n4),vB false])) w3) (aG (n2 + 1)∧x1 (n1 + n4) (n2 + 1) w3∧x2 (n1 + n4) (n2 + 1) w3 < x2 n1 n2 w1)) (R (vT (Array.mk [iI n1,vB true])) w1)
theorem uN (a b c:Option Addr) (d e:Nat) (w:World) (R:Value→WP) (h:wI a b c d e w R):aC Tryz.prog 59 [(.pointer a),(.pointer b),(.slice c d e)] w R:=rv Tryz.func59 uM (by kernel_rfl) h

end Go.Proofs.YtngdohpikfcifaaGreatDoor
namespace Go.V
def jk (nl:List Bool) (vs:List (List Bool)):List Bool→List Int→List Bool
 | bs,[]=>bs
 | bs,s :: r=>if bn nl s.toNat then jk nl vs (cU bs (ee (vs.getD s.toNat []))) r else cU bs (ee (vs.getD s.toNat []))
def uO (nl:List Bool) (row:List Int):Bool:=row.all fun s=>bn nl s.toNat
theorem FG (nl:List Bool) (vs:List (List Bool)) (bs:List Bool):jk nl vs bs [] = bs:=rfl
theorem CR (nl:List Bool) (vs:List (List Bool)) (bs:List Bool) (s:Int) (r:List Int):jk nl vs bs (s :: r) = if bn nl s.toNat then jk nl vs (cU bs (ee (vs.getD s.toNat []))) r else cU bs (ee (vs.getD s.toNat [])):=rfl
theorem Bh (nl:List Bool) (vs:List (List Bool)):∀ (row:List Int) (bs:List Bool),(jk nl vs bs row).length = bs.length
 | [],bs=>rfl
 | s :: r,bs=>by
  unfold jk
  split
  ·rw [Bh nl vs r,bC]
  ·rw [bC]
theorem wJ (nl:List Bool) (vs:List (List Bool)):∀ (row:List Int) (bs:List Bool) (k:Nat),bn bs k = true→bn (jk nl vs bs row) k = true
 | [],bs,k,h=>h
 | s :: r,bs,k,h=>by
  unfold jk
  have:bn (cU bs (ee (vs.getD s.toNat []))) k = true:=by rw [dU,h]; rfl
  split
  ·exact wJ nl vs r _ k this
  ·exact this
theorem CS (nl:List Bool) (vs:List (List Bool)):∀ (row:List Int) (bs:List Bool),bm bs≤bm (jk nl vs bs row)
 | [],bs=>SF _
 | s :: r,bs=>by
  unfold jk
  split
  ·exact SK (mD _ _) (CS nl vs r _)
  ·exact mD _ _
end Go.V
namespace Go.Proofs.YtngdohpikfcifaaGreatDoor
open Go.V
section
variable {w:World} {L:List aw} {a an ao:Option Addr} {l c nl cn ol co ks:Nat} {p:Option Addr} {bs nulls:List Bool} {row:List Int} {os:List (Option Addr)} {vss:List (List Bool)} {gs:List Value}
theorem Ra (h:St w (dK p bs :: L)) (hs:∀ h,aE L h→ax h ⟨ks,0,none⟩ (gs ++ [.slice an nl cn,.slice ao ol co])) (hgs:gs.length = 5) (hn:∀ h,aE L h→aW h nulls an nl) (ho:∀ h,aE L h→aW h os ao ol) (hv:vss.length = os.length) (hno:nulls.length = os.length)
  (hq:∀ h,aE L h→∀ (i:Nat) q v,os[i]? = some q→vss[i]? = some v→mE h q v∨(q = p∧v = bs)) (ht:∀ h,aE L h→gz h)
  (hr:∀ h,aE L h→aW h row a l) (hin:∀ s∈row,0≤s∧s.toNat < os.length) (hb:l≤4611686018427387904) :
  aC Tryz.prog xY [.pointer (some ⟨ks,0,none⟩),.pointer p,.slice a l c] w fun v w'=>v = .tuple #[.int .i64 ((bm (jk nulls vss bs row):Int) - bm bs),.bool (uO nulls row)]∧St w' (dK p (jk nulls vss bs row) :: L):=by
 obtain ⟨h0,hl,_,h1⟩:=h.freeze
 have hs:=hs h0 hl
 have hn:=hn h0 hl
 have ho:=ho h0 hl
 have hq:=hq h0 hl
 have ht:gz h0:=ht h0 hl
 have hr:=hr h0 hl
 have hn1:=h.mE.le
 have done:∀ w' b,St w' (dK p b :: [has h0])→St w' (dK p b :: L):=fun w' b h=>h.vK hl
 clear h hl
 have c5:∀ w',sub h0 (hp w')→w'.cell? ((⟨ks,0,none⟩ : Addr).add 5) = some (.slice an nl cn):=fun w' s=>hs.cell s (j:=5) (by rw [SC (by omega),hgs]; rfl)
 have c6:∀ w',sub h0 (hp w')→w'.cell? ((⟨ks,0,none⟩ : Addr).add 6) = some (.slice ao ol co):=fun w' s=>hs.cell s (j:=6) (by rw [SC (by omega),hgs]; rfl)
 refine uN _ _ _ _ _ w _ ?_
 refine ⟨fun n1 n2 w'=>∃ (j:Nat) (U:List Bool),n2 = j∧j≤l∧n1 = (bm U:Int) - bm bs∧bm bs≤bm U∧U.length = bs.length∧(∀ k,bn bs k = true→bn U k = true)∧jk nulls vss bs row = jk nulls vss U (row.drop j)∧uO nulls row = uO nulls (row.drop j)∧St w' [dK p U,has h0],fun _ n2 _=>l - n2.toNat,⟨0,bs,rfl,by omega,by omega,SF _,rfl,fun _ h=>h,by simp,by simp,h1⟩,?_⟩
 clear h1
 rintro _ _ n2 w1 ⟨j,U,rfl,hj,rfl,hcU,hlU,hsub,e1,e2,h⟩
 have s1:sub h0 (hp w1):=(h.pick 2 [1]).has
 have k1:=gj U
 refine ae (fun hlt=>?_) fun hlt=>?_
 ·have hlt:j < l:=by have:=Si hlt; omega
  obtain ⟨y,ad,hy1,hya,hy2⟩:=hr.bL hlt
  obtain ⟨y0,yl⟩:=hin y (Sl hy1)
  obtain ⟨q,ad2,hq1,hqa,hq2⟩:=ho.bL (i:=y.toNat) (by have:=ho.1; omega)
  obtain ⟨v,hv1⟩ : ∃ v,vss[y.toNat]? = some v:=⟨vss[y.toNat]'(by omega),Sm _⟩
  obtain ⟨z,ad3,hz1,hza,hz2⟩:=hn.bL (i:=y.toNat) (by have:=hn.1; omega)
  have hvd:vss.getD y.toNat [] = v:=by simp [List.getD,hv1]
  have hzd:bn nulls y.toNat = z:=by simp [bn,List.getD,hz1]
  have ed:row.drop j = y :: row.drop (j + 1):=by
   have:=Tz (l:=row) (i:=j) (by rw [hr.1]; exact hlt)
   rw [this]; congr 1
   have:=Sk.1 hy1; exact this.2
  refine aq hya hlt ⟨y,hy2 _ s1,_,_,_,c6 _ s1,?_⟩
  have ey:y = ((y.toNat:Nat):Int):=by omega
  rw [ey]
  refine aq hqa (by have:=ho.1; omega) ⟨q,hq2 _ s1,ah h fun b2 w2 h2=>?_⟩
  have hq':=hq _ _ _ hq1 hv1
  obtain ⟨v',hr',he'⟩ : ∃ v',(∀ h,aE [aR b2 [.pointer q],has h0] h→mE h q v'∨(q = p∧v' = U))∧cU U (ee v') = cU U (ee v):=by
   rcases hq' with hr | ⟨rfl,rfl⟩
   ·exact ⟨v,fun h hh=>.inl (hr.mono (qz (A:=has h0) (T7 _ (List.mem_singleton_self _)) hh |>.elim fun h1 x=>x.2.trans x.1)),rfl⟩
   ·exact ⟨U,fun h hh=>.inr ⟨rfl,rfl⟩,by rw [sy fun _ h=>h,sy hsub]⟩
  refine (H7 (vss:=[v']) (os:=[q]) (l:=1) (h2.pick 3 [1,0,2]) (fun h hh=>?_) rfl (fun h hh i q' w' hi hw=>?_) (fun h hh=>?_) (by omega)).mono ?_
  ·obtain ⟨h1,_,_,s1,_,⟨e,he⟩,_⟩:=hh
   exact (du (xs:=[q]) rfl (.inr ⟨_,rfl,vL ⟨e,he⟩⟩)).mono s1
  ·match i,hi,hw with
   | 0,hi,hw=>cases hi; cases hw; exact hr' h hh
   | i + 1,hi,_=>simp at hi
  ·exact gN.mono (qz (A:=has h0) (T7 _ (List.mem_singleton_self _)) hh |>.elim fun h1 x=>x.2.trans x.1) ht
  rintro _ w3 ⟨rfl,h3⟩
  have eU:cd U [v'] = cU U (ee v):=he'
  rw [eU] at h3 ⊢
  have h3:=h3.pick 3 [0,2]
  have s3:sub h0 (hp w3):=(h3.pick 2 [1]).has
  have k2:=mD U (ee v)
  have k3:=gj (cU U (ee v))
  rw [bC] at k3
  rw [ed] at e1 e2
  rw [CR,hvd,hzd] at e1
  rw [show uO nulls (y :: row.drop (j + 1)) = (z && uO nulls (row.drop (j + 1))) from by unfold uO; rw [List.all_cons,hzd]] at e2
  refine ⟨_,rfl,⟨by omega,by omega⟩,_,_,_,c5 _ s3,?_⟩
  refine aq hza (by have:=hn.1; omega) ⟨z,hz2 _ s3,ae (fun h4=>?_) fun h4=>?_⟩
  ·have h4:z = false:=by simpa using h4
   subst h4
   simp only [T4,if_false] at e1
   refine ⟨?_,?_⟩
   ·rw [e1,e2,Bool.false_and,show (bm U:Int) - bm bs + ((bm (cU U (ee v)):Int) - bm U) = (bm (cU U (ee v)):Int) - bm bs from by omega]
   ·rw [e1]; exact done _ _ h3
  ·have h4:z = true:=by simpa using h4
   subst h4
   simp only [if_true] at e1
   rw [TS] at e2
   refine ⟨⟨by omega,by omega⟩,⟨j + 1,cU U (ee v),by simp,by omega,by omega,by omega,by rw [bC]; exact hlU,fun k hk=>by rw [dU,hsub k hk]; rfl,e1,e2,h3⟩,bA hlt⟩
 ·have hlt:j = l:=by have:=Sj hlt; omega
  subst hlt
  rw [List.drop_of_length_le (by have:=hr.1; omega)] at e1 e2
  rw [FG] at e1
  refine ⟨?_,?_⟩
  ·rw [e1,e2]; rfl
  ·rw [e1]; exact done _ _ h
end
end Go.Proofs.YtngdohpikfcifaaGreatDoor
namespace Go.V
inductive uP (g:af):Int→Prop
 | mk (p:aJ):p∈g.prods→(∀ s∈p.right,uP g s)→uP g p.left
inductive FH (g:af):Int→Nat→Prop
 | tm (t:Nat):t < g.T→FH g (t:Int) t
 | pr (p:aJ) (i:Nat) (s:Int) (t:Nat):p∈g.prods→p.right[i]? = some s→(∀ x∈p.right.take i,uP g x)→FH g s t→FH g p.left t
def FI (g:af) (row:List Int):Prop:=∀ s∈row,uP g s
def xZ (g:af) (row:List Int) (t:Nat):Prop:=∃ (i:Nat) (s:Int),row[i]? = some s∧(∀ x∈row.take i,uP g x)∧FH g s t
theorem wK {nl:List Bool} {row:List Int}:uO nl row = true↔∀ s∈row,bn nl s.toNat = true:=by
 unfold uO; rw [TG]
theorem rh (nl:List Bool) (vs:List (List Bool)):∀ (row:List Int) (bs:List Bool) (k:Nat),bn (jk nl vs bs row) k = true↔bn bs k = true∨(k < bs.length∧∃ (i:Nat) (s:Int),row[i]? = some s∧(∀ x∈row.take i,bn nl x.toNat = true)∧bn (vs.getD s.toNat []) k = true)
 | [],bs,k=>by rw [FG]; simp
 | s :: r,bs,k=>by
  rw [CR]
  constructor
  ·intro h
   by_cases hz:bn nl s.toNat = true
   ·rw [Sz hz,rh nl vs r] at h
    rw [dU,bC,Tk,SB,Sy] at h
    rcases h with (h | ⟨h1,h2⟩) | ⟨h1,i,y,h2,h3,h4⟩
    ·exact .inl h
    ·exact .inr ⟨h1,0,s,rfl,by simp,h2⟩
    ·refine .inr ⟨h1,i + 1,y,h2,?_,h4⟩
     intro x hx
     rw [List.take_succ_cons] at hx
     rcases SA.1 hx with rfl | hx
     ·exact hz
     ·exact h3 x hx
   ·rw [Sr hz,dU,Tk,SB,Sy] at h
    rcases h with h | ⟨h1,h2⟩
    ·exact .inl h
    ·exact .inr ⟨h1,0,s,rfl,by simp,h2⟩
  ·intro h
   have hu:(bn bs k = true∨(k < bs.length∧bn (vs.getD s.toNat []) k = true))→bn (cU bs (ee (vs.getD s.toNat []))) k = true:=fun h=>by
    rw [dU,Tk,SB,Sy]; exact h
   by_cases hz:bn nl s.toNat = true
   ·rw [Sz hz,rh nl vs r,bC]
    rcases h with h | ⟨h1,i,y,h2,h3,h4⟩
    ·exact .inl (hu (.inl h))
    ·match i,h2,h3 with
     | 0,h2,_=>cases h2; exact .inl (hu (.inr ⟨h1,h4⟩))
     | i + 1,h2,h3=>exact .inr ⟨h1,i,y,h2,fun x hx=>h3 x (by rw [List.take_succ_cons]; exact T7 _ hx),h4⟩
   ·rw [Sr hz]
    rcases h with h | ⟨h1,i,y,h2,h3,h4⟩
    ·exact hu (.inl h)
    ·match i,h2,h3 with
     | 0,h2,_=>cases h2; exact hu (.inr ⟨h1,h4⟩)
     | i + 1,h2,h3=>exact absurd (h3 s (by rw [List.take_succ_cons]; exact List.mem_cons_self)) hz
def Kq (g:af):Prop:=∀ p∈g.prods,((g.T:Int)≤p.left∧p.left < g.T + g.N)∧∀ s∈p.right,0≤s∧s < (g.T:Int) + g.N
structure FJ (g:af) (nl:List Bool) (vs:List (List Bool)):Prop where
 ln:nl.length = g.T + g.N
 lv:vs.length = g.T + g.N
 le:∀ v∈vs,v.length = g.T
 sn:∀ i,bn nl i = true→uP g (i:Int)
 sv:∀ i t,bn (vs.getD i []) t = true→FH g (i:Int) t
 tm:∀ t,t < g.T→bn (vs.getD t []) t = true
def QH (nl:List Bool) (vs:List (List Bool)) (p:aJ):Prop:=(uO nl p.right = true→bn nl p.left.toNat = true)∧jk nl vs (vs.getD p.left.toNat []) p.right = vs.getD p.left.toNat []
theorem bI {s:Int} (h:0≤s):((s.toNat:Nat):Int) = s:=by omega
theorem FJ.row {g:af} {nl:List Bool} {vs:List (List Bool)} (m:FJ g nl vs) {row:List Int} (hr:∀ s∈row,0≤s∧s < (g.T:Int) + g.N):(uO nl row = true→FI g row)∧∀ bs t,bn (jk nl vs bs row) t = true→bn bs t = true∨xZ g row t:=by
 refine ⟨fun h s hs=>?_,fun bs t h=>?_⟩
 ·have:=m.sn _ (wK.1 h s hs)
  rwa [bI (hr s hs).1] at this
 ·rcases (rh nl vs row bs t).1 h with h | ⟨_,i,s,h1,h2,h3⟩
  ·exact .inl h
  ·refine .inr ⟨i,s,h1,fun x hx=>?_,?_⟩
   ·have:=m.sn _ (h2 x hx)
    rwa [bI (hr x (List.mem_of_mem_take hx)).1] at this
   ·have:=m.sv _ _ h3
    rwa [bI (hr s (Sl h1)).1] at this
theorem uP.left {g:af} (hg:Kq g) {s:Int} (h:uP g s):(g.T:Int)≤s∧s < g.T + g.N:=by
 cases h with | mk p hp _=>exact (hg p hp).1
theorem FH.lt {g:af} {s:Int} {t:Nat} (h:FH g s t):t < g.T:=by
 induction h with
 | tm t h=>exact h
 | pr p i s t _ _ _ _ ih=>exact ih
structure Ol (g:af) (nl:List Bool) (vs:List (List Bool)):Prop where
 ln:nl.length = g.T + g.N
 lv:vs.length = g.T + g.N
 le:∀ v∈vs,v.length = g.T
 nn:∀ i,bn nl i = true↔uP g (i:Int)
 nv:∀ i t,bn (vs.getD i []) t = true↔FH g (i:Int) t
theorem FJ.FK {g:af} {nl:List Bool} {vs:List (List Bool)} (m:FJ g nl vs) {i:Nat} (hi:i < g.T + g.N):(vs.getD i []).length = g.T:=by
 have h:vs[i]? = some (vs[i]'(by rw [m.lv]; exact hi)):=Sm _
 rw [List.getD,h]
 exact m.le _ (Sl h)
theorem FJ.all {g:af} {nl:List Bool} {vs:List (List Bool)} (hg:Kq g) (m:FJ g nl vs) (hc:∀ p∈g.prods,QH nl vs p):Ol g nl vs:=by
 have cn:∀ s,uP g s→bn nl s.toNat = true:=fun s h=>by
  induction h with
  | mk p hp _ ih=>exact (hc p hp).1 (wK.2 ih)
 have cv:∀ s t,FH g s t→bn (vs.getD s.toNat []) t = true:=fun s t h=>by
  induction h with
  | tm t h=>exact m.tm t h
  | pr p i s t hp hi hx hs ih =>
   have hl:=(hg p hp).1
   rw [← (hc p hp).2,rh]
   exact .inr ⟨by rw [m.FK (by omega)]; exact hs.lt,i,s,hi,fun x hx'=>cn x (hx x hx'),ih⟩
 exact ⟨m.ln,m.lv,m.le,fun i=>⟨m.sn i,fun h=>cn _ h⟩,fun i t=>⟨m.sv i t,fun h=>cv _ _ h⟩⟩
theorem Ol.row {g:af} {nl:List Bool} {vs:List (List Bool)} (m:Ol g nl vs) {row:List Int} (hr:∀ s∈row,0≤s∧s < (g.T:Int) + g.N):(uO nl row = true↔FI g row)∧∀ bs t,bn (jk nl vs bs row) t = true↔bn bs t = true∨(t < bs.length∧xZ g row t):=by
 refine ⟨?_,fun bs t=>?_⟩
 ·rw [wK]
  refine forall_congr' fun s=>⟨fun h hs=>?_,fun h hs=>?_⟩
  ·have:=(m.nn _).1 (h hs); rwa [bI (hr s hs).1] at this
  ·exact (m.nn _).2 (by rw [bI (hr s hs).1]; exact h hs)
 ·rw [rh]
  refine or_congr Iff.rfl (and_congr Iff.rfl (exists_congr fun i=>exists_congr fun s=>?_))
  refine ⟨fun ⟨h1,h2,h3⟩=>⟨h1,fun x hx=>?_,?_⟩,fun ⟨h1,h2,h3⟩=>⟨h1,fun x hx=>?_,?_⟩⟩
  ·have:=(m.nn _).1 (h2 x hx); rwa [bI (hr x (List.mem_of_mem_take hx)).1] at this
  ·have:=(m.nv _ _).1 h3; rwa [bI (hr s (Sl h1)).1] at this
  ·exact (m.nn _).2 (by rw [bI (hr x (List.mem_of_mem_take hx)).1]; exact h2 x hx)
  ·exact (m.nv _ _).2 (by rw [bI (hr s (Sl h1)).1]; exact h3)
def Bi (v:List Bool):Nat:=v.length - bm v
def uQ (nl:List Bool) (vs:List (List Bool)):Nat:=Bi nl + (vs.map Bi).sum
theorem Ix:∀ {l:List Nat} {k x y:Nat},l[k]? = some x→(l.set k y).sum + x = l.sum + y
 | [],k,x,y,h=>by simp at h
 | z :: l,0,x,y,h=>by simp at h; subst h; simp; omega
 | z :: l,k + 1,x,y,h=>by
  have:=Ix (l:=l) (k:=k) (x:=x) (y:=y) (by simpa using h)
  simp; omega
theorem Mc {nl:List Bool} {vs:List (List Bool)} {k:Nat} {v v' : List Bool} (h:vs[k]? = some v) (hl:v'.length = v.length) (hc:bm v≤bm v'):uQ nl (vs.set k v') + (bm v' - bm v) = uQ nl vs:=by
 have h1:=Ix (l:=vs.map Bi) (k:=k) (x:=Bi v) (y:=Bi v') (by rw [Sn,h]; rfl)
 have h2:=gj v
 have h3:=gj v'
 unfold uQ
 rw [Ta]
 unfold Bi at *
 omega
end Go.V
namespace Go.V
theorem exists_least {P:Nat→Prop} (h:∃ m,P m):∃ m,P m∧∀ k,P k→m≤k:=by
 obtain ⟨m,hm⟩:=h
 induction m using Nat.strongRecOn with
 | _ m ih =>
  by_cases hl:∃ k,k < m∧P k
  ·obtain ⟨k,hk,hp⟩:=hl
   exact ih k hk hp
  ·exact ⟨m,hm,fun k hk=>TH fun hlt=>hl ⟨k,hlt,hk⟩⟩
theorem FL {α : Type} (P:α→Nat→Prop):∃ μ : α→Nat,(∀ x m,P x m→μ x≤m)∧∀ x,(∃ m,P x m)→P x (μ x):=by
 have h:∀ x,∃ m,(∀ k,P x k→m≤k)∧((∃ k,P x k)→P x m):=fun x=>by
  by_cases hx:∃ k,P x k
  ·obtain ⟨m,h1,h2⟩:=exists_least hx
   exact ⟨m,h2,fun _=>h1⟩
  ·exact ⟨0,fun k hk=>absurd ⟨k,hk⟩ hx,fun h=>absurd h hx⟩
 exact ⟨fun x=>(h x).choose,fun x=>(h x).choose_spec.1,fun x=>(h x).choose_spec.2⟩
theorem CT {m m' : Nat→Bool} (h:∀ k,m k = true→m' k = true):∀ n,jc n m≤jc n m'∧(jc n m = jc n m'→∀ k,k < n→m k = m' k)
 | 0=>⟨SF _,fun _ k hk=>by omega⟩
 | n + 1=>by
  obtain ⟨h1,h2⟩:=CT h n
  rw [qy,qy]
  have h3:=h n
  cases e:m n <;> cases e' : m' n
  ·refine ⟨by simpa using h1,fun he k hk=>?_⟩
   by_cases ek:k = n
   ·subst ek; rw [e,e']
   ·exact h2 (by simpa using he) k (by omega)
  ·simp only [T4,if_false,if_true]
   exact ⟨by omega,fun he=>by omega⟩
  ·rw [e,e'] at h3; simp at h3
  ·refine ⟨by simpa using h1,fun he k hk=>?_⟩
   by_cases ek:k = n
   ·subst ek; rw [e,e']
   ·exact h2 (by simpa using he) k (by omega)
theorem Md {bs cs:List Bool} (hl:cs.length = bs.length) (hs:∀ k,bn bs k = true→bn cs k = true) (hc:bm cs = bm bs):cs = bs:=by
 refine kP hl fun k=>?_
 by_cases hk:k < bs.length
 ·unfold bm at hc
  rw [hl] at hc
  exact ((CT hs bs.length).2 hc.symm k hk).symm
 ·rw [vN (by omega),vN (by omega)]
theorem rj {nl:List Bool} {k:Nat} (hk:k < nl.length) (j:Nat):bn (nl.set k true) j = (bn nl j || j == k):=by
 unfold bn
 rw [Sq,Sq,TB]
 by_cases e:k = j
 ·subst e; simp [hk]
 ·have:¬ j = k:=fun h=>e h.symm
  simp [e,this]
theorem Iy {nl:List Bool} {k:Nat} (hk:k < nl.length) (hf:bn nl k = false):Bi (nl.set k true) + 1 = Bi nl:=by
 have h1:bm (nl.set k true) = bm nl + 1:=by
  unfold bm
  rw [SL,← H0 hk hf]
  exact CB fun j _=>rj hk j
 have h2:=gj (nl.set k true)
 rw [SL] at h2
 unfold Bi
 rw [SL]
 omega
theorem CU {vs:List (List Bool)} {k:Nat} (hk:k < vs.length) (v:List Bool) (j:Nat):(vs.set k v).getD j [] = if j = k then v else vs.getD j []:=by
 rw [Sq,Sq,TB]
 by_cases e:k = j
 ·subst e; simp [hk]
 ·have:¬ j = k:=fun h=>e h.symm
  simp [e,this]
theorem FJ.lay {g:af} (hg:Kq g) {nl:List Bool} {vs:List (List Bool)} (m:FJ g nl vs) {p:aJ} (hp:p∈g.prods):FJ g nl (vs.set p.left.toNat (jk nl vs (vs.getD p.left.toNat []) p.right)):=by
 obtain ⟨hl,hr⟩:=hg p hp
 have hk:p.left.toNat < g.T + g.N:=by omega
 have hkv:p.left.toNat < vs.length:=by rw [m.lv]; exact hk
 refine ⟨m.ln,by rw [SL]; exact m.lv,fun v hv=>?_,m.sn,fun i t h=>?_,fun t ht=>?_⟩
 ·rcases List.mem_or_eq_of_mem_set hv with hv | rfl
  ·exact m.le v hv
  ·rw [Bh]; exact m.FK hk
 ·rw [CU hkv] at h
  split at h
  ·rename_i e
   subst e
   rw [bI (by omega)]
   rcases (m.row hr).2 _ _ h with h | ⟨i,s,h1,h2,h3⟩
   ·have:=m.sv _ _ h; rwa [bI (by omega)] at this
   ·exact .pr p i s t hp h1 h2 h3
  ·exact m.sv _ _ h
 ·rw [CU hkv]
  split
  ·omega
  ·exact m.tm t ht
theorem FJ.R8 {g:af} (hg:Kq g) {nl:List Bool} {vs:List (List Bool)} (m:FJ g nl vs) {p:aJ} (hp:p∈g.prods) (hn:FI g p.right):FJ g (nl.set p.left.toNat true) vs:=by
 obtain ⟨hl,hr⟩:=hg p hp
 have hk:p.left.toNat < nl.length:=by rw [m.ln]; omega
 refine ⟨by rw [SL]; exact m.ln,m.lv,m.le,fun i h=>?_,m.sv,m.tm⟩
 rw [rj hk,Tk,beq_iff_eq] at h
 rcases h with h | rfl
 ·exact m.sn i h
 ·rw [bI (by omega)]; exact .mk p hp hn
theorem Om {g:af} {nl:List Bool} {vs:List (List Bool)} (m:FJ g nl vs):uQ nl vs≤(g.T + g.N) + (g.T + g.N) * g.T:=by
 unfold uQ
 have h1:Bi nl≤g.T + g.N:=by unfold Bi; rw [m.ln]; omega
 have h2:∀ l:List (List Bool),(∀ v∈l,v.length = g.T)→(l.map Bi).sum≤l.length * g.T:=fun l=>by
  induction l with
  | nil=>intro _; simp
  | cons v l ih =>
   intro h
   have h3:=ih fun u hu=>h u (T7 _ hu)
   have h4:Bi v≤g.T:=by unfold Bi; rw [h v List.mem_cons_self]; omega
   simp only [S0,List.sum_cons,S4,TN]
   omega
 have h3:=h2 vs m.le
 rw [m.lv] at h3
 omega
theorem P0 {g:af} (h:ep g):Kq g∧g.T≤65∧g.N≤65∧0 < g.N∧0 < g.T∧g.prods.length≤97:=by
 have hT:g.T = g.terms.length:=rfl
 have hN:g.N = g.nons.length:=rfl
 rcases h with ⟨s,p,_⟩ | ⟨h0,s,p,q,hq,q1,q2,q3⟩
 ·have h2:=vY.1 s
  have t0:0 < g.terms.length:=(Sk.1 s.1).1
  refine ⟨fun r hr=>?_,by omega,by omega,by omega,by omega,by have:=p.2.1; omega⟩
  have:=p.2.2.1 r hr
  exact ⟨⟨by have:=this.1.1; omega,this.1.2.1⟩,fun y hy=>by have:=this.2 y hy; unfold eC at this; omega⟩
 ·have h2:=vY.1 s
  have t0:0 < g.terms.length:=(Sk.1 s.1).1
  refine ⟨fun r hr=>?_,by omega,by omega,by omega,by omega,by have:=p.2.1; omega⟩
  have hd:r = q∨r∈g.prods.drop 1:=by
   cases hg:g.prods with
   | nil=>rw [hg] at hr; cases hr
   | cons a l =>
    rw [hg] at hr hq
    cases hq
    rcases SA.1 hr with h | h
    ·exact .inl h
    ·exact .inr h
  rcases hd with rfl | hd
  ·refine ⟨by omega,fun y hy=>?_⟩
   rw [q2,SE] at hy
   subst hy
   have:=p.2.2.2.2; omega
  ·have:=p.2.2.1 r hd
   exact ⟨⟨by have:=this.1.1; omega,this.1.2.1⟩,fun y hy=>by have:=this.2 y hy; unfold eC at this; omega⟩
end Go.V
namespace Go.V
theorem Iz {α : Sort _} (a:α):∃ q,q = a:=⟨a,rfl⟩
def FC (x:GA) (k14 n:Nat) (o:Option Addr) (j c:Nat):List Value:=[.slice x.ta x.tl x.tc,.slice x.na x.nl x.nc,.slice x.la x.ll x.lc,.int .i64 x.s,.slice x.pa x.pl x.pc,.slice (some ⟨k14,0,none⟩) n n,.slice o j c]
def jR (T j:Nat):List (List Bool):=(List.range j).map fun (i:Nat)=>BV (T:Int) [(i:Int)]
theorem G_ (T j:Nat):jR T (j + 1) = jR T j ++ [BV (T:Int) [(j:Int)]]:=by simp [jR,TX]
theorem CV (T j:Nat):(jR T j).length = j:=by simp [jR]
theorem Ha {T i:Nat} (hT:T≤65) (t:Nat):(BV (T:Int) [(i:Int)]).length = T∧(bn (BV (T:Int) [(i:Int)]) t = true↔t = i∧t < T):=by
 have hN:F7 (T:Int) = T:=by unfold F7; split <;> split at * <;> omega
 unfold BV
 refine ⟨by rw [bC,List.length_replicate,hN],?_⟩
 rw [fx,List.length_replicate,hN,eG,sx,Bool.false_or]
 simp only [SB,Sy,TC,SE]
 omega
theorem Me {g:af} (hT:g.T≤65):FJ g (List.replicate (g.T + g.N) false) (jR g.T (g.T + g.N)):=by
 have hget:∀ i,bn ((jR g.T (g.T + g.N)).getD i []) = if i < g.T + g.N then bn (BV (g.T:Int) [(i:Int)]) else bn []:=fun i=>by
  unfold jR
  rw [Sq,Sn]
  by_cases h:i < g.T + g.N
  ·rw [TA h,Sz h]; rfl
  ·rw [SH (by simp; omega),Sr h]; rfl
 refine ⟨by simp,CV _ _,fun v hv=>?_,fun i h=>?_,fun i t h=>?_,fun t ht=>?_⟩
 ·obtain ⟨i,_,rfl⟩:=SG.1 hv
  exact (Ha hT 0).1
 ·rw [sx] at h; cases h
 ·rw [hget] at h
  split at h
  ·obtain ⟨rfl,h'⟩:=((Ha hT t).2).1 h
   exact .tm t h'
  ·simp [bn] at h
 ·rw [hget,Sz (by omega)]
  exact (Ha hT t).2.2 ⟨rfl,ht⟩
end Go.V
namespace Go.Proofs.YtngdohpikfcifaaGreatDoor
open Go.V
section
variable {w:World} {L:List aw} {g:af} {x:GA}
theorem RW (hg:gR (hp w) g x) (hb:iM g) (he:ep g) (ht:gz (hp w)):aC Tryz.prog G9 [.agg ⟨x.cells⟩] w fun v w'=>∃ (b k14:Nat) (o:Option Addr) (c:Nat) (nl:List Bool) (ps:List Nat) (vs:List (List Bool)),v = .pointer (some ⟨b,0,none⟩)∧Ol g nl vs∧ps.length = vs.length ∧
  St w' (aR b (FC x k14 (g.T + g.N) o ps.length c) :: aR k14 (bv nl) :: own 1 o ps.length c (pv (ps.map bk)) :: aT (gF ps vs) :: all w):=by
 refine DZ _ _ _ _ _ _ _ _ _ _ _ _ _ w _ ?_
 refine de hg fun k1 w1 gw hg B=>?_
 obtain ⟨iG,bT,bN,pN,pT,bP⟩:=P0 he
 have tl:g.T = x.tl:=hg.t.1
 have nl:g.N = x.nl:=hg.n.1
 have pl:=hg.p.1
 have ht:=gN.mono gw ht
 refine ⟨_,_,_,B.c0 (sub.refl _),_,_,_,B.c1 (sub.refl _),⟨by omega,by omega⟩,fun w2 hd=>?_⟩
 have e2:hp w2 = hp w1:=dA hd
 have gs:sub (hp w) (hp w1):=gw
 generalize hH:hp w1 = H at *
 have eN:(x.tl:Int) + (x.nl:Int) = ((g.T + g.N:Nat):Int):=by rw [tl,nl]; omega
 rw [eN]
 have hTe:(x.tl:Int) = (g.T:Int):=by rw [tl]
 rw [SJ,dB]
 have h2:St w2 [has H]:=by have:=St.all w2; unfold V.all at this; rwa [e2] at this
 refine ⟨fun w=>sub H (hp w),e2 ▸ sub.refl _,_,_,_,_,_,_,_,_,_,_,_,_,_,fun w s=>B.row s,⟨by omega,rfl,by omega⟩,ah h2 fun k14 w4 h4=>⟨aZ 1 h4.l,ah h4 fun k15 w5 h5=>⟨aZ 2 h5.l,?_⟩⟩⟩
 clear h2 h4
 have bvr:List.replicate (g.T + g.N) (Value.bool false) = bv (List.replicate (g.T + g.N) false):=by simp [bv]
 rw [bvr] at h5
 refine ⟨fun n w'=>∃ (j:Nat) (o:Option Addr) (c:Nat) (ps:List Nat),n = j∧j≤g.T + g.N∧ps.length = j∧St w' [aR k15 (FC x k14 (g.T + g.N) o j c),aR k14 (bv (List.replicate (g.T + g.N) false)),own 1 o j c (pv (ps.map bk)),aT (gF ps (jR g.T j)),has H],fun n _=>g.T + g.N - n.toNat,⟨0,none,0,[],rfl,by omega,rfl,?_⟩,?_⟩
 ·have h6:=aB 1 h5
  have h7:St w5 (aT (gF [] (jR g.T 0)) :: _):=St.flat.2 (show St w5 ([] ++ _) from h6)
  exact h7.pick 5 [2,3,1,0,4]
 clear h5
 rintro _ n2 w6 ⟨j,o,c,ps,rfl,hj,hps,h⟩
 refine ae (fun hlt=>?_) fun hlt=>?_
 ·have hlt:j < g.T + g.N:=by have:=Si hlt; omega
  intro w7 hd
  have h:=h.drawn hd
  have I:∀ {w:World} {cs},ax (hp w) ⟨k15,0,none⟩ cs→sub H (hp w)→ax (hp w) ⟨k15,0,none⟩ cs∧sub H (hp w):=fun a b=>⟨a,b⟩
  refine ⟨fun w=>ax (hp w) ⟨k15,0,none⟩ (FC x k14 (g.T + g.N) o j c)∧sub H (hp w),I (ai 0 h.l) (aZ 4 h.l),_,_,_,fun w h=>h.1.cell (sub.refl _) (j:=6) rfl,_,_,_,fun w h=>B.c0 h.2,ah h fun k20 w10 h=>⟨I (ai 1 h.l) (aZ 5 h.l),?_⟩⟩
  refine (PE (xs:=[(j:Int)]) (l:=1) (x.tl:Int) (b8 rfl (.inr ⟨_,rfl,ai 0 h.l⟩)) (by omega)).mono ?_
  rintro _ w11 ⟨px,rfl,h1⟩
  have h:=h1.vK h
  refine ⟨_,rfl,I (ai 2 h.l) (aZ 6 h.l),ah h fun k21 w12 h=>⟨I (ai 3 h.l) (aZ 7 h.l),?_⟩⟩
  refine (aQ aK (rfl:ag Ty _ = .slice _) (rfl:ag Ty _ = .slice _) rfl rfl rfl (h.pick 8 [0,5,1,2,3,4,6,7]) rfl (by simp [aS]) (by show (_ + 1) * 8≤_; omega) (by omega)).mono ?_
  rintro _ w13 ⟨o',c',rfl,h⟩
  refine ⟨_,_,_,rfl,I (ai 4 h.l) (aZ 7 h.l),?_⟩
  show st1 w13 ((⟨k15,0,none⟩ : Addr).add 6) _ _
  rw [aO]
  refine bg (h.pick 8 [4,0,2,5,6,7]) (by simp [FC]) fun w14 h=>⟨⟨by omega,by omega⟩,⟨j + 1,o',c',ps ++ [px],by simp,by omega,by simp [hps],?_⟩,bA hlt⟩
  have h:St w14 [aR k15 (FC x k14 (g.T + g.N) o' (j + 1) c'),own 1 o' (j + 1) c' (pv (ps.map bk) ++ [.pointer (some ⟨px,0,none⟩)]),dK (some ⟨px,0,none⟩) (BV (x.tl:Int) [(j:Int)]),aR k14 (bv (List.replicate (g.T + g.N) false)),aT (gF ps (jR g.T j)),has H]:=h
  have e1:pv (ps.map bk) ++ [.pointer (some ⟨px,0,none⟩)] = pv ((ps ++ [px]).map bk):=by simp [pv,bk]
  have lSv:(gF ps (jR g.T j) ++ [dK (some ⟨px,0,none⟩) (BV (x.tl:Int) [(j:Int)])]) = gF (ps ++ [px]) (jR g.T (j + 1)):=by
   rw [G_,hTe]; unfold gF; rw [List.zipWith_append (by rw [CV]; exact hps)]; rfl
  rw [e1] at h
  have h:=St.snoc (A:=dK (some ⟨px,0,none⟩) (BV (x.tl:Int) [(j:Int)])) (M:=gF ps (jR g.T j)) (h.pick 6 [2,4,0,1,3,5])
  rw [lSv] at h
  exact h.pick 5 [1,3,2,0,4]
 have hlt:j = g.T + g.N:=by have:=Sj hlt; omega
 subst hlt
 obtain ⟨Q,hQ⟩:=Iz (fun (n:Int) (w:World) (m:Nat)=>∃ (nl:List Bool) (vs:List (List Bool)),FJ g nl vs∧0≤n∧(m:Int) = uQ nl vs + (if 0 < n then 1 else 0)∧(n = 0→∀ p∈g.prods,QH nl vs p) ∧
  St w [aR k15 (FC x k14 (g.T + g.N) o (g.T + g.N) c),aR k14 (bv nl),own 1 o (g.T + g.N) c (pv (ps.map bk)),aT (gF ps vs),has H])
 obtain ⟨μ,mu1,mu2⟩:=FL (fun (y:Int × World) m=>Q y.1 y.2 m)
 refine ⟨fun n w'=>∃ m,Q n w' m,fun n w=>μ (n,w),⟨uQ (List.replicate (g.T + g.N) false) (jR g.T (g.T + g.N)) + 1,?_⟩,?_⟩
 ·rw [hQ]
  exact ⟨_,_,Me bT,by decide,by simp,fun h=>absurd h (by decide),h⟩
 clear h
 intro _ n3 w15 hP
 have hP:=mu2 (n3,w15) hP
 dsimp only at hP
 generalize hμ : μ (n3,w15) = μ0 at *
 rw [hQ] at hP
 obtain ⟨nl0,vs0,mk0,hn3,hmu,hcl,h⟩:=hP
 refine ae (fun hpos=>?_) fun hpos=>?_
 rotate_left
 ·have hpos:=Sj hpos
  have hcl:=hcl (by omega)
  refine ⟨k15,k14,o,c,nl0,ps,vs0,rfl,mk0.all iG hcl,by rw [hps,mk0.lv],?_⟩
  rw [hps]
  exact St.on (N:=[_,_,_,_]) h (cE gs)
 have hpos:=Si hpos
 rw [Sz hpos] at hmu
 refine ⟨_,_,_,B.c4 (aZ 4 h.l),fun n4 n5 w'=>∃ (j:Nat) (nl:List Bool) (vs:List (List Bool)),n5 = j∧j≤x.pl∧0≤n4∧n4 + uQ nl vs = uQ nl0 vs0∧FJ g nl vs∧(n4 = 0→∀ p∈g.prods.take j,QH nl vs p)∧St w' [aR k15 (FC x k14 (g.T + g.N) o (g.T + g.N) c),aR k14 (bv nl),own 1 o (g.T + g.N) c (pv (ps.map bk)),aT (gF ps vs),has H],fun _ n5 _=>x.pl - n5.toNat,⟨0,nl0,vs0,rfl,by omega,by omega,by omega,mk0,by simp,h⟩,?_⟩
 clear h
 rintro _ n4 n5 w16 ⟨j,nl,vs,rfl,hj,hn4,hm4,mk,hcl4,h⟩
 refine ae (fun hlt=>?_) fun hlt=>?_
 rotate_left
 ·have hlt:j = x.pl:=by have:=Sj hlt; omega
  subst hlt
  rw [SD (by omega)] at hcl4
  have key:Q n4 w16 (uQ nl vs + (if 0 < n4 then 1 else 0)):=by
   rw [hQ]; exact ⟨nl,vs,mk,hn4,by split <;> simp,hcl4,h⟩
  refine ⟨⟨_,key⟩,?_⟩
  have:=mu1 (n4,w16) _ key
  dsimp only
  rw [hμ]
  split at this <;> omega
 have hlt:j < x.pl:=by have:=Si hlt; omega
 obtain ⟨p,ad,pvs,hp1,hpa,hp2,a,l,c3,rfl,hlc,hp3⟩:=hg.p.get hlt
 have hpm:=Sl hp1
 obtain ⟨hpl,hpr⟩:=iG p hpm
 have et:g.prods.take (j + 1) = g.prods.take j ++ [p]:=by rw [Su,hp1]; rfl
 refine ay hpa hlt ⟨_,_,_,_,_,hp2.at (aZ 4 h.l) rfl,ah h fun k28 w17 h=>bh h rfl (by intro v hv; simp at hv; rcases hv with rfl | rfl | rfl <;> rfl) fun w18 h=>?_⟩
 intro w19 hd
 have h:=h.drawn hd
 obtain ⟨k,hk⟩ : ∃ k:Nat,p.left = k:=⟨p.left.toNat,by omega⟩
 rw [hk] at h
 have hkt:p.left.toNat = k:=by omega
 have hkN:k < g.T + g.N:=by omega
 obtain ⟨px,hpx⟩ : ∃ px,ps[k]? = some px:=⟨ps[k]'(by omega),Sm _⟩
 obtain ⟨v,hv⟩ : ∃ v,vs[k]? = some v:=⟨vs[k]'(by rw [mk.lv]; exact hkN),Sm _⟩
 have hvd:vs.getD k [] = v:=by rw [Sq,hv]; rfl
 have hpb:(ps.map bk)[k]? = some (bk px):=by rw [Sn,hpx]; rfl
 have rp:aW (hp w19) (ps.map bk) o (g.T + g.N):=PH 3 h.l rfl rfl (by simp [hps])
 obtain ⟨q,ad2,hq1,hqa,hq2⟩:=rp.bL hkN
 rw [hpb] at hq1; cases hq1
 refine ⟨fun w=>ax (hp w) ⟨k15,0,none⟩ (FC x k14 (g.T + g.N) o (g.T + g.N) c)∧ax (hp w) ⟨k28,0,none⟩ [.int .i64 (k:Int),.slice a l c3,.int .i64 p.level]∧aW (hp w) (ps.map bk) o (g.T + g.N),⟨ai 1 h.l,ai 0 h.l,rp⟩,_,_,_,fun w h=>h.1.cell (sub.refl _) (j:=6) rfl,_,fun w h=>h.2.1.cell0 (sub.refl _),?_⟩
 refine aq hqa hkN ⟨bk px,fun w h=>?_,_,_,_,fun w h=>h.2.1.cell (sub.refl _) (j:=1) rfl,?_⟩
 ·obtain ⟨q',ad',e1,e2,e3⟩:=h.2.2.bL hkN
  rw [hpb] at e1; cases e1
  rw [hqa] at e2; cases e2
  exact e3 _ (sub.refl _)
 have gS:(gF ps vs)[k]? = some (dK (bk px) v):=by unfold gF; rw [List.getElem?_zipWith,hpx,hv]
 have Gb:∀ v',(gF ps vs).set k (dK (bk px) v') = gF ps (vs.set k v'):=fun v'=>NG (fun p v=>dK (bk p) v) hpx
 have h:=St.out (h.pick 6 [4,0,1,2,3,5]) gS
 refine (Ra (nulls:=nl) (os:=ps.map bk) (vss:=vs) (row:=p.right) (gs:=x.cells) h (fun h hh=>ai 2 hh) rfl (fun h hh=>xI mk.ln (.inr ⟨_,rfl,ai 3 hh⟩)) (fun h hh=>PH 4 hh rfl rfl (by simp [hps])) (by simp [hps,mk.lv]) (by simp [hps,mk.ln]) (fun h hh i q v' hi hv'=>?_) (fun h hh=>gN.mono (aZ 5 hh) ht) (fun h hh=>hp3.mono (aZ 5 hh)) (fun s hs=>⟨(hpr s hs).1,?_⟩) ?_).mono ?_
 ·rw [Sn] at hi
  cases hpi:ps[i]? with
  | none=>rw [hpi] at hi; cases hi
  | some pi =>
   rw [hpi] at hi; cases hi
   by_cases ek:i = k
   ·subst ek
    rw [hpx] at hpi; cases hpi
    rw [hv] at hv'; cases hv'
    exact .inr ⟨rfl,rfl⟩
   ·exact .inl (RR 0 hh hpi hv' ek)
 ·have:=(hpr s hs).2; simp [hps]; omega
 ·have:=hp3.1; have:=hb.2.2.2.2.2.2 p hpm; omega
 rintro _ w24 ⟨rfl,h⟩
 have mk':=mk.lay iG hpm
 rw [hkt,hvd] at mk'
 have hv'l:(jk nl vs v p.right).length = v.length:=Bh _ _ _ _
 have hcv:=CS nl vs p.right v
 have hms:=Mc (nl:=nl) hv hv'l hcv
 have hsb:=wJ nl vs p.right v
 have hml:=Om mk0
 have hmb:(g.T + g.N) + (g.T + g.N) * g.T≤100000:=by
  have:=Nat.mul_le_mul (show g.T + g.N≤130 by omega) bT; omega
 have hstay:(uO nl p.right = true→bn nl k = true)→n4 + ((bm (jk nl vs v p.right):Int) - bm v) = 0→∀ r∈g.prods.take (j + 1),QH nl (vs.set k (jk nl vs v p.right)) r:=fun hnn h0 r hr=>by
  have e0:jk nl vs v p.right = v:=Md hv'l hsb (by omega)
  have e1:vs.set k v = vs:=by
   apply Tb
   intro i
   rw [TB]
   split
   ·rename_i e; subst e; rw [hv]; simp; rw [mk.lv]; exact hkN
   ·rfl
  rw [e0,e1]
  rw [et] at hr
  rcases Sp.1 hr with hr | hr
  ·exact hcl4 (by omega) r hr
  ·simp at hr; subst hr
   unfold QH
   rw [hkt,hvd]
   exact ⟨hnn,e0⟩
 have h:=St.back h gS
 rw [Gb] at h
 generalize jk nl vs v p.right = v' at *
 refine ⟨_,_,rfl,⟨ai 2 h.l,ai 1 h.l,PH 4 h.l rfl rfl (by simp [hps])⟩,⟨by omega,by omega⟩,fun w25 hd=>?_⟩
 have h:=h.drawn hd
 have stay:∀ {w'},St w' [aT (gF ps (vs.set k v')),aR k28 [.int .i64 (k:Int),.slice a l c3,.int .i64 p.level],aR k15 (FC x k14 (g.T + g.N) o (g.T + g.N) c),aR k14 (bv nl),own 1 o (g.T + g.N) c (pv (ps.map bk)),has H]→(uO nl p.right = true→bn nl k = true)→aG ((j:Int) + 1)∧(∃ (j' : Nat) (nl:List Bool) (vs:List (List Bool)),(j:Int) + 1 = j'∧j'≤x.pl∧0≤n4 + ((bm v' : Int) - bm v)∧n4 + ((bm v' : Int) - bm v) + uQ nl vs = uQ nl0 vs0∧FJ g nl vs∧(n4 + ((bm v' : Int) - bm v) = 0→∀ p∈g.prods.take j',QH nl vs p)∧St w' [aR k15 (FC x k14 (g.T + g.N) o (g.T + g.N) c),aR k14 (bv nl),own 1 o (g.T + g.N) c (pv (ps.map bk)),aT (gF ps vs),has H])∧x.pl - ((j:Int) + 1).toNat < x.pl - (j:Int).toNat:=fun {w'} h hnn=>by
  refine ⟨⟨by omega,by omega⟩,⟨j + 1,nl,vs.set k v',by simp,by omega,by omega,by omega,mk',hstay hnn,h.pick 6 [2,3,4,0,5]⟩,bA hlt⟩
 refine ⟨fun w=>sub (hp w25) (hp w),sub.refl _,ae (fun h1=>?_) fun h1=>stay h fun h2=>by rw [h1] at h2; cases h2⟩
 refine ⟨_,_,_,fun w s=>(ai (b:=k15) (vs:=FC x k14 (g.T + g.N) o (g.T + g.N) c) 2 h.l).cell s (j:=5) rfl,_,fun w s=>(ai (b:=k28) (vs:=[.int .i64 (k:Int),.slice a l c3,.int .i64 p.level]) 1 h.l).cell0 s,?_⟩
 have rn:aW (hp w25) nl (some ⟨k14,0,none⟩) (g.T + g.N):=xI mk.ln (.inr ⟨_,rfl,ai 3 h.l⟩)
 obtain ⟨z,ad3,hz1,hza,hz2⟩:=rn.bL hkN
 have hzd:bn nl k = z:=by unfold bn; rw [Sq,hz1]; rfl
 cases hza
 refine aq rfl hkN ⟨z,fun w s=>hz2 _ s,ae (fun h2=>?_) fun h2=>stay h fun _=>by rw [hzd]; simpa using h2⟩
 have h2:z = false:=by simpa using h2
 subst h2
 intro w29 hd
 have h:=h.drawn hd
 refine ⟨fun w=>sub (hp w29) (hp w),sub.refl _,_,_,_,fun w s=>(ai (b:=k15) (vs:=FC x k14 (g.T + g.N) o (g.T + g.N) c) 2 h.l).cell s (j:=5) rfl,_,fun w s=>(ai (b:=k28) (vs:=[.int .i64 (k:Int),.slice a l c3,.int .i64 p.level]) 1 h.l).cell0 s,?_⟩
 refine aq rfl hkN ?_
 rw [aO]
 refine bg (h.pick 6 [3,0,2,4,5]) (by simp [bv,mk.ln]; exact hkN) fun w32 h=>?_
 have eb:(bv nl).set k (.bool true) = bv (nl.set k true):=by unfold bv; rw [Ta]
 rw [eb] at h
 have ho:=Iy (nl:=nl) (k:=k) (by rw [mk.ln]; exact hkN) hzd
 have mk2:=mk'.R8 iG hpm ((mk.row hpr).1 h1)
 rw [hkt] at mk2
 have hm2:uQ (nl.set k true) (vs.set k v') + 1 = uQ nl (vs.set k v'):=by unfold uQ; omega
 exact ⟨⟨by omega,by omega⟩,⟨by omega,by omega⟩,⟨j + 1,nl.set k true,vs.set k v',by simp,by omega,by omega,by omega,mk2,fun h0=>by omega,h.pick 5 [2,0,3,1,4]⟩,bA hlt⟩
end
end Go.Proofs.YtngdohpikfcifaaGreatDoor
namespace Go.V
def pM (g:af) (nn:List Bool):Prop:=nn.length = g.N∧∀ i:Nat,bn nn i = true↔uP g ((g.T + i:Nat):Int)
def RB (g:af) (row:List Int) (bs:List Bool):Prop:=bs.length = g.T∧∀ t,bn bs t = true↔xZ g row t
def RX (g:af) (row:List Int):Prop:=∀ s∈row,0≤s∧s < (g.T:Int) + g.N
theorem J1 (l:List Bool) (k i:Nat):bn (l.drop k) i = bn l (k + i):=by
 unfold bn; rw [Sq,Sq,S8]
theorem RB.inj {g:af} {row:List Int} {bs cs:List Bool} (h:RB g row bs) (k:RB g row cs):bs = cs :=
 kP (h.1.trans k.1.symm) fun i=>by rw [S9,h.2,k.2]
theorem pM.inj {g:af} {bs cs:List Bool} (h:pM g bs) (k:pM g cs):bs = cs :=
 kP (h.1.trans k.1.symm) fun i=>by rw [S9,h.2,k.2]
end Go.V
namespace Go.Proofs.YtngdohpikfcifaaGreatDoor
open Go.V
section
variable {w:World} {L:List aw} {g:af} {x:GA}
theorem Mf (hg:gR (hp w) g x) (hb:iM g):aC Tryz.prog Bg [.agg ⟨x.cells⟩] w fun v w'=>(∃ r:Bool,v = .bool r∧(r = true↔ep g))∧Gr w w':=by
 refine xX _ _ _ _ _ _ _ _ _ _ _ _ _ w _ ?_
 refine de hg fun k1 w1 gw hg B=>?_
 refine ⟨_,_,_,_,_,_,_,_,_,_,_,_,_,B.row (sub.refl _),(NK (x:=x) hg hb).mono ?_⟩
 rintro _ w2 ⟨⟨r1,rfl,e1⟩,g2⟩
 unfold ep
 rw [← e1]
 refine ⟨_,rfl,ae (fun h1=>⟨⟨true,rfl,by simp [h1]⟩,gw.trans g2⟩) fun h1=>⟨_,_,_,_,_,_,_,_,_,_,_,_,_,B.row g2,(E4 (x:=x) (hg.mono g2) hb).mono ?_⟩⟩
 rintro _ w3 ⟨⟨r2,rfl,e2⟩,g3⟩
 rw [← e2]
 exact ⟨_,rfl,⟨r2,rfl,by simp [h1]⟩,gw.trans (g2.trans g3)⟩
theorem Hb (hg:gR (hp w) g x) (hb:iM g) (ht:gz (hp w)):aC Tryz.prog mT [.agg ⟨x.cells⟩] w fun v w' =>
  (¬ ep g∧v = .tuple #[.slice none 0 0,.int .i64 1]∧Gr w w') ∨
  (ep g∧∃ (k:Nat) (nl nn:List Bool),nl.length = g.T∧pM g nn∧v = .tuple #[.slice (some ⟨k,g.T,none⟩) g.N g.N,.int .i64 0]∧St w' (aR k (bv (nl ++ nn)) :: all w)):=by
 refine uL _ _ _ _ _ _ _ _ _ _ _ _ _ w _ ?_
 refine de hg fun k1 w1 gw hg B=>?_
 refine ⟨_,_,_,_,_,_,_,_,_,_,_,_,_,B.row (sub.refl _),(Mf (x:=x) hg hb).mono ?_⟩
 rintro _ w2 ⟨⟨r,rfl,e⟩,g2⟩
 refine ⟨_,rfl,ae (fun h1=>.inl ⟨fun he=>?_,rfl,gw.trans g2⟩) fun h1=>fun w3 hd=>?_⟩
 ·rw [e.2 he] at h1; cases h1
 have he:=e.1 (by simpa using h1)
 have g3:Gr w1 w3:=g2.trans (Gr.drawn hd)
 obtain ⟨iG,bT,bN,pN,pT,bP⟩:=P0 he
 have tl:g.T = x.tl:=hg.t.1
 refine ⟨fun w=>Gr w3 w,Gr.refl _,_,_,_,_,_,_,_,_,_,_,_,_,_,fun w s=>B.row (g3.trans s),_,_,_,fun w s=>B.c0 (g3.trans s),(RW (x:=x) (hg.mono g3) hb he (gN.mono (gw.trans g3) ht)).mono ?_⟩
 rintro _ w6 ⟨b,k14,o,c,nl,ps,vs,rfl,al,hps,h⟩
 have hs:sub (hp w3) (hp w6):=aZ 4 h.l
 have rb:ax (hp w6) ⟨b,0,none⟩ (FC x k14 (g.T + g.N) o ps.length c):=ai 0 h.l
 refine ⟨_,rfl,fun w=>sub (hp w6) (hp w),sub.refl _,fun w s=>sub.trans hs s,_,_,_,fun w s=>rb.cell s (j:=5) rfl,cJ (lo:=x.tl) (by omega) (SF _) (.inr ⟨he,k14,nl.take g.T,nl.drop g.T,by rw [SN,al.ln]; omega,⟨by rw [TO,al.ln]; omega,fun i=>?_⟩,?_,?_⟩)⟩
 ·rw [J1]; exact al.nn _
 ·rw [← tl,show g.T + g.N - g.T = g.N from by omega]
  have e:fw (some ⟨k14,0,none⟩) g.T (g.T + g.N) 1 = some ⟨k14,g.T,none⟩:=by
   unfold fw
   rw [Sr (by omega),Tf,show dP g.T 1 = g.T from by rw [aH,Tp],aO]
  rw [e]
 ·rw [S5]
  exact St.on (N:=[_]) (h0:=hp w3) (h.pick 5 [1,4]) (cE (gw.trans g3))
end
end Go.Proofs.YtngdohpikfcifaaGreatDoor
namespace Go.V
def bQ (n:Nat) (f:Nat→Bool):List Int:=((List.range n).filter f).map Int.ofNat
def dp (l:List Int):Prop:=l.Pairwise (· < ·)
theorem sL:∀ {l m:List Int},dp l→dp m→(∀ z,z∈l↔z∈m)→l = m
 | [],[],_,_,_=>rfl
 | [],b :: m,_,_,h=>absurd ((h b).2 (by simp)) (by simp)
 | a :: l,[],_,_,h=>absurd ((h a).1 (by simp)) (by simp)
 | a :: l,b :: m,hl,hm,h=>by
  obtain ⟨l1,l2⟩:=Tu.1 hl
  obtain ⟨m1,m2⟩:=Tu.1 hm
  have e:a = b:=by
   rcases SA.1 ((h a).1 (by simp)) with e | ha
   ·exact e
   ·rcases SA.1 ((h b).2 (by simp)) with e | hb
    ·exact e.symm
    ·have:=m1 a ha; have:=l1 b hb; omega
  subst e
  rw [sL l2 m2 fun z=>?_]
  have hz:=h z
  simp only [SA] at hz
  constructor
  ·intro hz1
   rcases hz.1 (.inr hz1) with rfl | h2
   ·have:=l1 _ hz1; omega
   ·exact h2
  ·intro hz1
   rcases hz.2 (.inr hz1) with rfl | h2
   ·have:=m1 _ hz1; omega
   ·exact h2
theorem gn {n:Nat} {f:Nat→Bool} {z:Int}:z∈bQ n f↔∃ k:Nat,z = k∧k < n∧f k = true:=by
 unfold bQ
 rw [SG]
 constructor
 ·rintro ⟨k,hk,rfl⟩
  obtain ⟨h1,h2⟩:=S7.1 hk
  exact ⟨k,rfl,SO.1 h1,h2⟩
 ·rintro ⟨k,rfl,h1,h2⟩
  exact ⟨k,S7.2 ⟨SO.2 h1,h2⟩,rfl⟩
theorem mU (n:Nat) (f:Nat→Bool):dp (bQ n f):=by
 unfold bQ dp
 rw [T9]
 refine List.Pairwise.filter _ ?_
 exact List.pairwise_lt_range.imp fun h=>by show Int.ofNat _ < Int.ofNat _; simp; exact h
theorem fp (n:Nat) (f:Nat→Bool):(bQ n f).length≤n:=by
 unfold bQ
 rw [Ss]
 have:=Tj f (List.range n)
 rwa [Ts] at this
def dd:List Int→List Int
 | []=>[]
 | [a]=>[a]
 | a :: b :: l=>if a = b then dd (b :: l) else a :: dd (b :: l)
theorem D0:∀ (l:List Int) (z:Int),z∈dd l↔z∈l
 | [],z=>by simp [dd]
 | [a],z=>by simp [dd]
 | a :: b :: l,z=>by
  unfold dd
  split
  ·rename_i h; subst h
   rw [D0 (a :: l)]; simp
  ·rw [SA,D0 (b :: l),SA,SA,SA]
theorem D3:∀ {l:List Int},l.Pairwise (·≤·)→dp (dd l)
 | [],_=>by simp [dd,dp]
 | [a],_=>by simp [dd,dp]
 | a :: b :: l,h=>by
  obtain ⟨h1,h2⟩:=Tu.1 h
  unfold dd
  split
  ·exact D3 h2
  ·rename_i hne
   refine Tu.2 ⟨fun z hz=>?_,D3 h2⟩
   rw [D0] at hz
   have hb:=h1 b (by simp)
   rcases SA.1 hz with rfl | hz
   ·omega
   ·have:=(Tu.1 h2).1 z hz
    omega
theorem Hc:∀ l:List Int,(dd l).length≤l.length
 | []=>by simp [dd]
 | [a]=>by simp [dd]
 | a :: b :: l=>by
  unfold dd
  split
  ·have:=Hc (b :: l); simp at this ⊢; omega
  ·have:=Hc (b :: l); simp at this ⊢; omega
def mW (g:af) (ss:List SQ) (t:ak):Int:=if t∈aU g ss then ((aU g ss).idxOf t:Int) + 1 else 0
def P1 (ss:List SQ) (k:ak):Int:=if k.st < 0 then 0 else match eE ss k.st.toNat k.sym with
 | some j=>j + 1
 | none=>0
def kF (g:af) (nn:List Bool) (s:Int):Bool:=decide ((g.T:Int)≤s) && bn nn (s.toNat - g.T)
def rr (g:af) (nn:List Bool) (row:List Int):Bool:=row.all (kF g nn)
def cY (g:af) (nn:List Bool) (ss:List SQ) (i k:Nat):Bool:=match (aU g ss)[i]?,(aU g ss)[k]? with
 | some t,some u=>decide (eE ss t.st.toNat t.sym = some u.st) && kF g nn u.sym
 | _,_=>false
def Bj (g:af) (nn:List Bool) (ss:List SQ) (n i:Nat):Bool:=match (aU g ss)[i]? with
 | some t=>(List.range g.prods.length).any fun m=>decide (m≠0) && match g.prods[m]? with
  | some p=>decide (p.left = t.sym) && (List.range p.right.length).any fun k=>decide ((aU g ss)[n]? = some ⟨bM ss t.st (p.right.take k),p.right.getD k 0⟩) && rr g nn (p.right.drop (k + 1))
  | none=>false
 | none=>false
def fR (g:af) (ss:List SQ) (q m i:Nat):Bool:=match (aU g ss)[i]?,g.prods[m]? with
 | some t,some p=>decide (m≠0) && decide (p.left = t.sym) && decide (bM ss t.st p.right = q)
 | _,_=>false
def ry (g:af) (nn:List Bool) (ss:List SQ):List (List Int):=(List.range (aU g ss).length).map fun i=>bQ (aU g ss).length (cY g nn ss i)
def tA (g:af) (nn:List Bool) (ss:List SQ):List (List Int):=(List.range (aU g ss).length).map fun n=>bQ (aU g ss).length (Bj g nn ss n)
structure kT where
 st:Int
 prod:Int
 tr:List Int
deriving DecidableEq
instance:Inhabited kT:=⟨⟨0,0,[]⟩⟩
def x_ (g:af) (ss:List SQ) (q m:Nat):List kT:=if bQ (aU g ss).length (fR g ss q m) = [] then [] else [⟨q,m,bQ (aU g ss).length (fR g ss q m)⟩]
def iw (g:af) (ss:List SQ) (q j:Nat):List kT:=(List.range j).flatMap (x_ g ss q)
def nY (g:af) (ss:List SQ):List kT:=(List.range ss.length).flatMap fun q=>iw g ss q g.prods.length
theorem Bk (g:af) (ss:List SQ) (q j:Nat):iw g ss q (j + 1) = iw g ss q j ++ x_ g ss q j:=by unfold iw; rw [TX,Tv]; simp
def xg (g:af) (j:Nat) (s:Int):List Nat:=(JT g j s).filter fun i=>decide (0 < i)
theorem rz {g:af} {j:Nat} {p:aJ} (h:g.prods[j]? = some p) (s:Int):xg g (j + 1) s = xg g j s ++ if s = p.left∧0 < j then [j] else []:=by
 unfold xg
 rw [qQ h,Th]
 congr 1
 by_cases e:s = p.left <;> by_cases e2:0 < j <;> simp [e,e2]
theorem zU (g:af) (j:Nat) (s:Int):(xg g j s).length≤j:=SK (Tj _ _) (DM g j s)
theorem wL {g:af} {s:Int} {i:Nat}:i∈xg g g.prods.length s↔0 < i∧∃ p,g.prods[i]? = some p∧p.left = s:=by
 unfold xg
 rw [S7,show JT g g.prods.length s = A4 g s from rfl,nL,Sy,and_comm]
section
variable {g:af} {ss:List SQ}
theorem Hd (hA:bG g ss):∀ n:Nat,(j6 g ss n).Nodup
 | 0=>by simp [j6]
 | n + 1=>by
  cases hq:ss[n]? with
  | none=>simp only [j6,hq,S6]; exact Hd hA n
  | some q =>
   rw [iu hq,SX]
   refine ⟨Hd hA n,?_,fun x hx y hy e=>?_⟩
   ·unfold cG
    have h1:=DS hA hq
    have h2:((q.2.2.filter fun e=>decide ((g.T:Int)≤e.sym)).map (·.sym)).Nodup:=h1.sublist (List.Sublist.map _ List.filter_sublist)
    rw [TI,T9] at h2 ⊢
    exact h2.imp fun h e=>h (congrArg ak.sym e)
   ·subst e
    obtain ⟨i,_,_,e,hi,_,_,_,rfl⟩:=dw hx
    unfold cG at hy
    obtain ⟨e',_,h2⟩:=SG.1 hy
    have:=congrArg ak.st h2
    simp at this; omega
theorem Mg (hA:bG g ss):(aU g ss).Nodup:=Hd hA _
theorem Mh {α : Type} [DecidableEq α] {l:List α} (h:l.Nodup) {i:Nat} {x:α} (hx:l[i]? = some x):l.idxOf x = i:=by
 obtain ⟨h1,rfl⟩:=Sk.1 hx
 exact h.idxOf_getElem i h1
theorem wM (hA:bG g ss) {i:Nat} {t:ak} (h:(aU g ss)[i]? = some t):mW g ss t = (i:Int) + 1:=by
 unfold mW
 rw [Sz (Sl h),Mh (Mg hA) h]
theorem rD (hA:bG g ss) {t:ak} (h:0 < mW g ss t):∃ i:Nat,mW g ss t = (i:Int) + 1∧(aU g ss)[i]? = some t:=by
 unfold mW at h ⊢
 by_cases ht:t∈aU g ss
 ·rw [Sz ht]
  refine ⟨_,rfl,?_⟩
  rw [Sm (TY ht),List.getElem_idxOf]
 ·rw [Sr ht] at h; omega
end
end Go.V
namespace Go.Proofs.YtngdohpikfcifaaGreatDoor
open Go.V
abbrev jS:FuncId:=16
def ya:bj:={ rngs:=[],loops:=[],joins:=[],blocks:=[] }
def zC (a:Option Addr) (b c:Nat) (d:Option Addr) (e f:Nat) (g:Option Addr) (i j:Nat) (k:Int) (l:Option Addr) (m n:Nat) (w:World) (R:Value→WP):Prop :=  new w (oC [vS a b c,vS d e f,vS g i j,iI k,vS l m n] 27) fun k1 w1=>∃ o1 k2 k3 o2 k4 k5 o3 k6 k7 n1 o4 k8 k9,V.rowAt w1 (aM k1) 0 5 = some [vS o1 k2 k3,vS o2 k4 k5,vS o3 k6 k7,iI n1,vS o4 k8 k9]∧au Proofs.Tryz.prog Ev 42 [vA (Array.mk [vS o1 k2 k3,vS o2 k4 k5,vS o3 k6 k7,iI n1,vS o4 k8 k9])] w1 fun v1 w2=>∃ o5 n2,v1 = vT (Array.mk [vP o5,iI n2])∧new w2 (oC [vP none] 104) fun k10 w3=>st1 w3 (aM k10) (vP o5) fun w4=>br (n2 != 0) (R (vT (Array.mk [vS none 0 0,iI n2])) w4) (∃ o6,World.cell? w4 (aM k10) = some (vP o6)∧au Proofs.Tryz.prog Ev 43 [vP o6,Value.func (Fn.func 44) (Array.mk []) (Array.mk [vP (some (aM k10)),vP (some (aM k1))])] w4 fun v2 w5=>∃ o7 k11 k12,v2 = vS o7 k11 k12∧R (vT (Array.mk [vS o7 k11 k12,iI 0])) w5)
theorem yb (a:Option Addr) (b c:Nat) (d:Option Addr) (e f:Nat) (g:Option Addr) (i j:Nat) (k:Int) (l:Option Addr) (m n:Nat) (w:World) (R:Value→WP) (h:zC a b c d e f g i j k l m n w R):aC Tryz.prog 16 [(.agg #[(.slice a b c),(.slice d e f),(.slice g i j),(.int .i64 k),(.slice l m n)])] w R:=rv Tryz.func16 ya (by kernel_rfl) h

abbrev gp:FuncId:=17
def tB:bj:={ rngs:=[],loops:=[],joins:=[],blocks:=[] }
def uR (a:Option Addr) (b c:Nat) (d:Option Addr) (e f:Nat) (g:Option Addr) (i j:Nat) (k:Int) (l:Option Addr) (m n:Nat) (w:World) (R:Value→WP):Prop :=  new w (oC [vS a b c,vS d e f,vS g i j,iI k,vS l m n] 27) fun k1 w1=>∃ o1 k2 k3 o2 k4 k5 o3 k6 k7 n1 o4 k8 k9,V.rowAt w1 (aM k1) 0 5 = some [vS o1 k2 k3,vS o2 k4 k5,vS o3 k6 k7,iI n1,vS o4 k8 k9]∧au Proofs.Tryz.prog Ev 42 [vA (Array.mk [vS o1 k2 k3,vS o2 k4 k5,vS o3 k6 k7,iI n1,vS o4 k8 k9])] w1 fun v1 w2=>∃ o5 n2,v1 = vT (Array.mk [vP o5,iI n2])∧new w2 (oC [vP none] 104) fun k10 w3=>st1 w3 (aM k10) (vP o5) fun w4=>br (n2 != 0) (R (vT (Array.mk [vS none 0 0,iI n2])) w4) (∃ o6,World.cell? w4 (aM k10) = some (vP o6)∧au Proofs.Tryz.prog Ev 43 [vP o6,Value.func (Fn.func 45) (Array.mk []) (Array.mk [vP (some (aM k10)),vP (some (aM k1))])] w4 fun v2 w5=>∃ o7 k11 k12,v2 = vS o7 k11 k12∧R (vT (Array.mk [vS o7 k11 k12,iI 0])) w5)
theorem tC (a:Option Addr) (b c:Nat) (d:Option Addr) (e f:Nat) (g:Option Addr) (i j:Nat) (k:Int) (l:Option Addr) (m n:Nat) (w:World) (R:Value→WP) (h:uR a b c d e f g i j k l m n w R):aC Tryz.prog 17 [(.agg #[(.slice a b c),(.slice d e f),(.slice g i j),(.int .i64 k),(.slice l m n)])] w R:=rv Tryz.func17 tB (by kernel_rfl) h

abbrev wN:FuncId:=18
def tD:bj:={ rngs:=[],loops:=[(6,[(31,(.one (.int .i64)))]),(9,[(44,(.one (.int .i64)))]),(18,[(13,(.one .slice)),(77,(.one (.int .i64)))]),(21,[(13,(.one .slice)),(83,(.one (.int .i64)))])],joins:=[],blocks:=[] }
def uS (a:Option Addr) (b c:Nat) (d:Option Addr) (e f:Nat) (g:Option Addr) (i j:Nat) (k:Int) (l:Option Addr) (m n:Nat) (w:World) (R:Value→WP):Prop :=  new w (oC [vS a b c,vS d e f,vS g i j,iI k,vS l m n] 27) fun k1 w1=>∃ o1 k2 k3 o2 k4 k5 o3 k6 k7 n1 o4 k8 k9,V.rowAt w1 (aM k1) 0 5 = some [vS o1 k2 k3,vS o2 k4 k5,vS o3 k6 k7,iI n1,vS o4 k8 k9]∧au Proofs.Tryz.prog Ev 42 [vA (Array.mk [vS o1 k2 k3,vS o2 k4 k5,vS o3 k6 k7,iI n1,vS o4 k8 k9])] w1 fun v1 w2=>∃ o5 n2,v1 = vT (Array.mk [vP o5,iI n2])∧br (n2 != 0) (R (vT (Array.mk [vS none 0 0,iI n2])) w2) (new w2 (Obj.map (Array.mk []) 0) fun k10 w3=>nn o5 fun a1=>∃ o6 k11 k12,World.cell? w3 (Addr.add a1 8) = some (vS o6 k11 k12)∧∃ (x1:lP [(31,aI)]),∃ (x2:lN [(31,aI)]),x1 0 w3∧∀ (I1:Nat→Value) (n3:Int) (w4:World),x1 n3 w4→br (decide (n3 < (↑k11:Int))) (idx o6 k11 n3 2 fun a2=>∃ n4 n5,V.rowAt w4 a2 0 2 = some [iI n4,iI n5]∧new w4 (oC [iI 0,iI 0] 73) fun k13 w5=>iA w5 (aM k13) [iI n4,iI n5] fun w6=>∀ w7,drawn w6 w7→∃ (I2:World→Prop),I2 w7∧nn o5 fun a3=>∃ o7,(∀ w8,I2 w8→World.cell? w8 (Addr.add a3 12) = some (Value.map o7))∧∃ n6,(∀ w9,I2 w9→World.cell? w9 (Addr.add (aM k13) 1) = some (iI n6))∧az Proofs.Tryz.prog (Instr.lookup 109 (Value.map o7) (iI n6) false) w7 fun v2 w10=>∃ o8 k14 k15,v2 = vS o8 k14 k15∧I2 w10∧∃ (x3:lP [(44,aI)]),∃ (x4:lN [(44,aI)]),x3 0 w10∧∀ (I3:Nat→Value) (n7:Int) (w11:World),x3 n7 w11→br (decide (n7 < (↑k14:Int))) (idx o8 k14 n7 1 fun a4=>∃ n8,World.cell? w11 a4 = some (iI n8)∧∀ w12,drawn w11 w12→∃ (I4:World→Prop),I4 w12∧∃ n9,(∀ w13,I4 w13→World.cell? w13 (aM k13) = some (iI n9))∧∃ o9 k16 k17,(∀ w14,I4 w14→World.cell? w14 (Addr.add (aM k1) 4) = some (vS o9 k16 k17))∧idx o9 k16 n8 3 fun a5=>∃ o10 k18 k19,(∀ w15,I4 w15→World.cell? w15 (Addr.add a5 1) = some (vS o10 k18 k19))∧au Proofs.Tryz.prog Ev 46 [vP o5,iI n9,vS o10 k18 k19,Value.func (Fn.func 49) (Array.mk []) (Array.mk [])] w12 fun v3 w16=>∃ n10,v3 = iI n10∧I4 w16∧new w16 (oC [iI 0,iI 0] 73) fun k20 w17=>iA w17 (aM k20) [iI n10,iI n8] fun w18=>∃ n11 n12,V.rowAt w18 (aM k20) 0 2 = some [iI n11,iI n12]∧new w18 (oC [iI n3] 3) fun k21 w19=>az Proofs.Tryz.prog (Instr.mapEntry 115 (Value.map (some k10)) (vG [iI n11,iI n12])) w19 fun v4 w20=>∃ o11 k22 k23 n13,v4 = vT (Array.mk [vS o11 k22 k23,iI n13])∧az Proofs.Tryz.prog (f_ 24 (Array.mk [vS o11 k22 k23,vS (some (aM k21)) 1 1])) w20 fun v5 w21=>∃ o12 k24 k25,v5 = vS o12 k24 k25∧az Proofs.Tryz.prog (Instr.entryStore 115 (Value.map (some k10)) (iI n13) (vS o12 k24 k25)) w21 fun (x5:Unit) (w22:World)=>aG (n7 + 1)∧x3 (n7 + 1) w22∧x4 (n7 + 1) w22 < x4 n7 w11) (aG (n3 + 1)∧x1 (n3 + 1) w11∧x2 (n3 + 1) w11 < x2 n3 w4)) (nn o5 fun a6=>∃ o13 k26 k27,World.cell? w4 (Addr.add a6 5) = some (vS o13 k26 k27)∧∃ (x6:lP [(13,js),(77,aI)]),∃ (x7:lN [(13,js),(77,aI)]),x6 none 0 0 0 w4∧∀ (I5:Nat→Value) (o14:Option Addr) (k28 k29:Nat) (n14:Int) (w23:World),x6 o14 k28 k29 n14 w23→br (decide (n14 < (↑k26:Int))) (∃ o15 k30 k31,World.cell? w23 (Addr.add (aM k1) 4) = some (vS o15 k30 k31)∧∃ (x8:lP [(13,js),(83,aI)]),∃ (x9:lN [(13,js),(83,aI)]),x8 o14 k28 k29 0 w23∧∀ (I6:Nat→Value) (o16:Option Addr) (k32 k33:Nat) (n15:Int) (w24:World),x8 o16 k32 k33 n15 w24→br (decide (n15 < (↑k30:Int))) (az Proofs.Tryz.prog (Instr.lookup 115 (Value.map (some k10)) (vG [iI n14,iI n15]) false) w24 fun v6 w25=>∃ o17 k34 k35,v6 = vS o17 k34 k35∧br (decide (0 < (↑k34:Int))) (au Proofs.Tryz.prog Ev 40 [vS o17 k34 k35] w25 fun v7 w26=>∃ o18 k36 k37,v7 = vS o18 k36 k37∧new w26 (oC [iI n14,iI n15,vS o18 k36 k37] 45) fun k38 w27=>az Proofs.Tryz.prog (f_ 37 (Array.mk [vS o16 k32 k33,vS (some (aM k38)) 1 1])) w27 fun v8 w28=>∃ o19 k39 k40,v8 = vS o19 k39 k40∧aG (n15 + 1)∧x8 o19 k39 k40 (n15 + 1) w28∧x9 o19 k39 k40 (n15 + 1) w28 < x9 o16 k32 k33 n15 w24) (aG (n15 + 1)∧x8 o16 k32 k33 (n15 + 1) w25∧x9 o16 k32 k33 (n15 + 1) w25 < x9 o16 k32 k33 n15 w24)) (aG (n14 + 1)∧x6 o16 k32 k33 (n14 + 1) w24∧x7 o16 k32 k33 (n14 + 1) w24 < x7 o14 k28 k29 n14 w23)) (au Proofs.Tryz.prog Ev 50 [vS o14 k28 k29] w23 fun v9 w29=>∃ o20 k41 k42,v9 = vS o20 k41 k42∧R (vT (Array.mk [vS o20 k41 k42,iI 0])) w29)))
theorem tE (a:Option Addr) (b c:Nat) (d:Option Addr) (e f:Nat) (g:Option Addr) (i j:Nat) (k:Int) (l:Option Addr) (m n:Nat) (w:World) (R:Value→WP) (h:uS a b c d e f g i j k l m n w R):aC Tryz.prog 18 [(.agg #[(.slice a b c),(.slice d e f),(.slice g i j),(.int .i64 k),(.slice l m n)])] w R:=rv Tryz.func18 tD (by kernel_rfl) h

abbrev FM:FuncId:=42
def Ca:bj:={ rngs:=[],loops:=[(8,[(51,(.one (.int .i64)))]),(13,[(67,(.one (.int .i64)))]),(16,[(75,(.one (.int .i64)))]),(22,[(95,(.one (.int .i64)))])],joins:=[],blocks:=[] }
def D4 (a:Option Addr) (b c:Nat) (d:Option Addr) (e f:Nat) (g:Option Addr) (i j:Nat) (k:Int) (l:Option Addr) (m n:Nat) (w:World) (R:Value→WP):Prop :=  new w (oC [vS a b c,vS d e f,vS g i j,iI k,vS l m n] 27) fun k1 w1=>∃ o1 k2 k3 o2 k4 k5 o3 k6 k7 n1 o4 k8 k9,V.rowAt w1 (aM k1) 0 5 = some [vS o1 k2 k3,vS o2 k4 k5,vS o3 k6 k7,iI n1,vS o4 k8 k9]∧au Proofs.Tryz.prog Ev 28 [vA (Array.mk [vS o1 k2 k3,vS o2 k4 k5,vS o3 k6 k7,iI n1,vS o4 k8 k9])] w1 fun v1 w2=>∃ o5 k10 k11 n2 n3 n4,v1 = vT (Array.mk [vA (Array.mk [vS o5 k10 k11,iI n2,iI n3]),iI n4])∧new w2 (oC [vS none 0 0,iI 0,iI 0] 63) fun k12 w3=>iA w3 (aM k12) [vS o5 k10 k11,iI n2,iI n3] fun w4=>br (n4 != 0) (R (vT (Array.mk [vP none,iI n4])) w4) (∃ o6 k13 k14 o7 k15 k16 o8 k17 k18 n5 o9 k19 k20,V.rowAt w4 (aM k1) 0 5 = some [vS o6 k13 k14,vS o7 k15 k16,vS o8 k17 k18,iI n5,vS o9 k19 k20]∧∃ o10 k21 k22 n6 n7,V.rowAt w4 (aM k12) 0 3 = some [vS o10 k21 k22,iI n6,iI n7]∧new w4 (Obj.map (Array.mk []) 0) fun k23 w5=>new w5 (Obj.map (Array.mk []) 0) fun k24 w6=>new w6 (Obj.map (Array.mk []) 0) fun k25 w7=>new w7 (oC [vS o6 k13 k14,vS o7 k15 k16,vS o8 k17 k18,iI n5,vS o9 k19 k20,vS o10 k21 k22,iI n6,iI n7,vS none 0 0,Value.map (some k23),Value.map (some k24),vS none 0 0,Value.map (some k25)] 111) fun k26 w8=>∃ o11 k27 k28 o12 k29 k30 o13 k31 k32 n8 o14 k33 k34,V.rowAt w8 (aM k1) 0 5 = some [vS o11 k27 k28,vS o12 k29 k30,vS o13 k31 k32,iI n8,vS o14 k33 k34]∧au Proofs.Tryz.prog Ev 27 [vA (Array.mk [vS o11 k27 k28,vS o12 k29 k30,vS o13 k31 k32,iI n8,vS o14 k33 k34])] w8 fun v2 w9=>∃ o15 k35 k36 n9,v2 = vT (Array.mk [vS o15 k35 k36,iI n9])∧st1 w9 (Addr.add (aM k26) 8) (vS o15 k35 k36) fun w10=>∃ o16 k37 k38 o17 k39 k40 o18 k41 k42 n10 o19 k43 k44,V.rowAt w10 (aM k1) 0 5 = some [vS o16 k37 k38,vS o17 k39 k40,vS o18 k41 k42,iI n10,vS o19 k43 k44]∧au Proofs.Tryz.prog Ev 24 [vA (Array.mk [vS o16 k37 k38,vS o17 k39 k40,vS o18 k41 k42,iI n10,vS o19 k43 k44])] w10 fun v3 w11=>∃ o20 k45 k46 n11,v3 = vT (Array.mk [vS o20 k45 k46,iI n11])∧st1 w11 (Addr.add (aM k26) 11) (vS o20 k45 k46) fun w12=>∃ o21 k47 k48,World.cell? w12 (Addr.add (aM k26) 8) = some (vS o21 k47 k48)∧∃ (x1:lP [(51,aI)]),∃ (x2:lN [(51,aI)]),x1 0 w12∧∀ (I1:Nat→Value) (n12:Int) (w13:World),x1 n12 w13→br (decide (n12 < (↑k47:Int))) (idx o21 k47 n12 2 fun a1=>∃ n13 n14,V.rowAt w13 a1 0 2 = some [iI n13,iI n14]∧new w13 (oC [iI 0,iI 0] 73) fun k49 w14=>iA w14 (aM k49) [iI n13,iI n14] fun w15=>∀ w16,drawn w15 w16→∃ (I2:World→Prop),I2 w16∧∃ o22,(∀ w17,I2 w17→World.cell? w17 (Addr.add (aM k26) 9) = some (Value.map o22))∧∃ n15 n16,(∀ w18,I2 w18→V.rowAt w18 (aM k49) 0 2 = some [iI n15,iI n16])∧aG (n12 + 1)∧az Proofs.Tryz.prog (Instr.mapUpdate 97 (Value.map o22) (vG [iI n15,iI n16]) (iI (n12 + 1))) w16 fun (x3:Unit) (w19:World)=>aG (n12 + 1)∧x1 (n12 + 1) w19∧x2 (n12 + 1) w19 < x2 n12 w13) (∃ o23 k50 k51,World.cell? w13 (aM k12) = some (vS o23 k50 k51)∧∃ (x4:lP [(67,aI)]),∃ (x5:lN [(67,aI)]),x4 0 w13∧∀ (I3:Nat→Value) (n17:Int) (w20:World),x4 n17 w20→br (decide (n17 < (↑k50:Int))) (idx o23 k50 n17 2 fun a2=>∃ o24 k52 k53 o25 k54 k55,V.rowAt w20 a2 0 2 = some [vS o24 k52 k53,vS o25 k54 k55]∧new w20 (oC [vS none 0 0,vS none 0 0] 71) fun k56 w21=>iA w21 (aM k56) [vS o24 k52 k53,vS o25 k54 k55] fun w22=>∃ o26 k57 k58,World.cell? w22 (Addr.add (aM k56) 1) = some (vS o26 k57 k58)∧∃ (x6:lP [(75,aI)]),∃ (x7:lN [(75,aI)]),x6 0 w22∧∀ (I4:Nat→Value) (n18:Int) (w23:World),x6 n18 w23→br (decide (n18 < (↑k57:Int))) (idx o26 k57 n18 2 fun a3=>∃ n19 n20,V.rowAt w23 a3 0 2 = some [iI n19,iI n20]∧new w23 (oC [iI 0,iI 0] 101) fun k59 w24=>iA w24 (aM k59) [iI n19,iI n20] fun w25=>∀ w26,drawn w25 w26→∃ (I5:World→Prop),I5 w26∧∃ o27,(∀ w27,I5 w27→World.cell? w27 (Addr.add (aM k26) 10) = some (Value.map o27))∧∃ n21,(∀ w28,I5 w28→World.cell? w28 (aM k59) = some (iI n21))∧∃ n22,(∀ w29,I5 w29→World.cell? w29 (Addr.add (aM k59) 1) = some (iI n22))∧aG (n22 + 1)∧az Proofs.Tryz.prog (Instr.mapUpdate 97 (Value.map o27) (vG [iI n17,iI n21]) (iI (n22 + 1))) w26 fun (x8:Unit) (w30:World)=>aG (n18 + 1)∧x6 (n18 + 1) w30∧x7 (n18 + 1) w30 < x7 n18 w23) (aG (n17 + 1)∧x4 (n17 + 1) w23∧x5 (n17 + 1) w23 < x5 n17 w20)) (∃ o28 k60 k61,World.cell? w20 (Addr.add (aM k1) 4) = some (vS o28 k60 k61)∧∃ (x9:lP [(95,aI)]),∃ (x10:lN [(95,aI)]),x9 0 w20∧∀ (I6:Nat→Value) (n23:Int) (w31:World),x9 n23 w31→br (decide (n23 < (↑k60:Int))) (idx o28 k60 n23 3 fun a4=>∃ n24 o29 k62 k63 n25,V.rowAt w31 a4 0 3 = some [iI n24,vS o29 k62 k63,iI n25]∧new w31 (oC [iI 0,vS none 0 0,iI 0] 55) fun k64 w32=>iA w32 (aM k64) [iI n24,vS o29 k62 k63,iI n25] fun w33=>br (decide (0 < n23)) (∀ w34,drawn w33 w34→∃ (I7:World→Prop),I7 w34∧∃ o30,(∀ w35,I7 w35→World.cell? w35 (Addr.add (aM k26) 12) = some (Value.map o30))∧∃ n26,(∀ w36,I7 w36→World.cell? w36 (aM k64) = some (iI n26))∧∃ o31,(∀ w37,I7 w37→World.cell? w37 (Addr.add (aM k26) 12) = some (Value.map o31))∧∃ n27,(∀ w38,I7 w38→World.cell? w38 (aM k64) = some (iI n27))∧(az Proofs.Tryz.prog (Instr.lookup 109 (Value.map o31) (iI n27) false) w34 fun v4 w39=>∃ o32 k65 k66,v4 = vS o32 k65 k66∧I7 w39∧new w39 (oC [iI n23] 3) fun k67 w40=>I7 w40∧az Proofs.Tryz.prog (f_ 24 (Array.mk [vS o32 k65 k66,vS (some (aM k67)) 1 1])) w40 fun v5 w41=>∃ o33 k68 k69,v5 = vS o33 k68 k69∧I7 w41∧az Proofs.Tryz.prog (Instr.mapUpdate 109 (Value.map o30) (iI n26) (vS o33 k68 k69)) w41 fun (x11:Unit) (w42:World)=>aG (n23 + 1)∧x9 (n23 + 1) w42∧x10 (n23 + 1) w42 < x10 n23 w31)∧new w34 (oC [iI n23] 3) fun k70 w43=>I7 w43∧az Proofs.Tryz.prog (Instr.lookup 109 (Value.map o31) (iI n27) false) w43 fun v6 w44=>∃ o34 k71 k72,v6 = vS o34 k71 k72∧I7 w44∧az Proofs.Tryz.prog (f_ 24 (Array.mk [vS o34 k71 k72,vS (some (aM k70)) 1 1])) w44 fun v7 w45=>∃ o35 k73 k74,v7 = vS o35 k73 k74∧I7 w45∧az Proofs.Tryz.prog (Instr.mapUpdate 109 (Value.map o30) (iI n26) (vS o35 k73 k74)) w45 fun (x12:Unit) (w46:World)=>aG (n23 + 1)∧x9 (n23 + 1) w46∧x10 (n23 + 1) w46 < x10 n23 w31) (aG (n23 + 1)∧x9 (n23 + 1) w33∧x10 (n23 + 1) w33 < x10 n23 w31)) (R (vT (Array.mk [vP (some (aM k26)),iI 0])) w31))))
theorem Cb (a:Option Addr) (b c:Nat) (d:Option Addr) (e f:Nat) (g:Option Addr) (i j:Nat) (k:Int) (l:Option Addr) (m n:Nat) (w:World) (R:Value→WP) (h:D4 a b c d e f g i j k l m n w R):aC Tryz.prog 42 [(.agg #[(.slice a b c),(.slice d e f),(.slice g i j),(.int .i64 k),(.slice l m n)])] w R:=rv Tryz.func42 Ca (by kernel_rfl) h

abbrev tF:FuncId:=43
def pO:bj:={ rngs:=[],loops:=[(4,[(18,(.one (.int .i64)))])],joins:=[],blocks:=[] }
def rH (a:Option Addr) (b:FuncId) (c:List Value) (w:World) (R:Value→WP):Prop :=  nn a fun a1=>∃ o1 k1 k2,World.cell? w (Addr.add a1 8) = some (vS o1 k1 k2)∧y7 (↑k1:Int) (↑k1:Int) 24∧new w (Obj.cells (Array.mk (gG (Int.toNat (↑k1:Int)) [vS none 0 0])) 24) fun k3 w1=>new w1 (oC [vS none 0 0] 30) fun k4 w2=>st1 w2 (aM k4) (vS (some (aM k3)) (Int.toNat (↑k1:Int)) (Int.toNat (↑k1:Int))) fun w3=>y8 (Proofs.YtngdohpikfcifaaGreatDoor.Fn b) (au Proofs.Tryz.prog Ev b (Value.func (Fn.func 80) (Array.mk []) (Array.mk [vP (some (aM k4))]) :: c) w3 fun v1 w4=>v1 = vT (Array.mk [])∧∃ o2 k5 k6,World.cell? w4 (aM k4) = some (vS o2 k5 k6)∧∃ (x1:lP [(18,aI)]),∃ (x2:lN [(18,aI)]),x1 0 w4∧∀ (I1:Nat→Value) (n1:Int) (w5:World),x1 n1 w5→br (decide (n1 < (↑k5:Int))) (∃ o3 k7 k8,World.cell? w5 (aM k4) = some (vS o3 k7 k8)∧idx o3 k7 n1 1 fun a2=>∃ o4 k9 k10,World.cell? w5 a2 = some (vS o4 k9 k10)∧au Proofs.Tryz.prog Ev 64 [vS o4 k9 k10] w5 fun v2 w6=>v2 = vT (Array.mk [])∧∀ w7,drawn w6 w7→∃ (I2:World→Prop),I2 w7∧∃ o5 k11 k12,(∀ w8,I2 w8→World.cell? w8 (aM k4) = some (vS o5 k11 k12))∧∃ o6 k13 k14,(∀ w9,I2 w9→World.cell? w9 (aM k4) = some (vS o6 k13 k14))∧idx o6 k13 n1 1 fun a3=>∃ o7 k15 k16,(∀ w10,I2 w10→World.cell? w10 a3 = some (vS o7 k15 k16))∧au Proofs.Tryz.prog Ev 81 [vS o7 k15 k16] w7 fun v3 w11=>∃ o8 k17 k18,v3 = vS o8 k17 k18∧I2 w11∧au Proofs.Tryz.prog Ev 40 [vS o8 k17 k18] w11 fun v4 w12=>∃ o9 k19 k20,v4 = vS o9 k19 k20∧I2 w12∧idx o5 k11 n1 1 fun a4=>st1 w12 a4 (vS o9 k19 k20) fun w13=>aG (n1 + 1)∧x1 (n1 + 1) w13∧x2 (n1 + 1) w13 < x2 n1 w5) (∃ o10 k21 k22,World.cell? w5 (aM k4) = some (vS o10 k21 k22)∧R (vS o10 k21 k22) w5))
theorem pP (a:Option Addr) (b:FuncId) (c:List Value) (w:World) (R:Value→WP) (h:rH a b c w R):aC Tryz.prog 43 [(.pointer a),(.func (.func b) #[] ⟨c⟩)] w R:=rv Tryz.func43 pO (by kernel_rfl) h

abbrev wO:FuncId:=44
def tG:bj:={ rngs:=[],loops:=[(1,[(14,(.one (.int .i64)))]),(5,[(36,(.one (.int .i64)))])],joins:=[],blocks:=[] }
def uT (a:FuncId) (b:List Value) (c d:Addr) (w:World) (R:Value→WP):Prop :=  ∃ o1,World.cell? w c = some (vP o1)∧nn o1 fun a1=>∃ o2 k1 k2,World.cell? w (Addr.add a1 8) = some (vS o2 k1 k2)∧∃ (x1:lP [(14,aI)]),∃ (x2:lN [(14,aI)]),x1 0 w∧∀ (I1:Nat→Value) (n1:Int) (w1:World),x1 n1 w1→br (decide (n1 < (↑k1:Int))) (idx o2 k1 n1 2 fun a2=>∃ n2 n3,V.rowAt w1 a2 0 2 = some [iI n2,iI n3]∧new w1 (oC [iI 0,iI 0] 73) fun k3 w2=>iA w2 (aM k3) [iI n2,iI n3] fun w3=>∀ w4,drawn w3 w4→∃ (I2:World→Prop),I2 w4∧∃ o3,(∀ w5,I2 w5→World.cell? w5 c = some (vP o3))∧nn o3 fun a3=>∃ o4,(∀ w6,I2 w6→World.cell? w6 (Addr.add a3 10) = some (Value.map o4))∧∃ n4 n5,(∀ w7,I2 w7→V.rowAt w7 (aM k3) 0 2 = some [iI n4,iI n5])∧az Proofs.Tryz.prog (Instr.lookup 97 (Value.map o4) (vG [iI n4,iI n5]) false) w4 fun v1 w8=>∃ n6,v1 = iI n6∧I2 w8∧aG (n6 - 1)∧∃ o5,World.cell? w8 c = some (vP o5)∧nn o5 fun a4=>∃ o6 k4 k5,World.cell? w8 (Addr.add a4 5) = some (vS o6 k4 k5)∧idx o6 k4 (n6 - 1) 2 fun a5=>∃ o7 k6 k7,World.cell? w8 (Addr.add a5 1) = some (vS o7 k6 k7)∧∃ (x3:lP [(36,aI)]),∃ (x4:lN [(36,aI)]),x3 0 w8∧∀ (I3:Nat→Value) (n7:Int) (w9:World),x3 n7 w9→br (decide (n7 < (↑k6:Int))) (idx o7 k6 n7 2 fun a6=>∃ n8 n9,V.rowAt w9 a6 0 2 = some [iI n8,iI n9]∧new w9 (oC [iI 0,iI 0] 101) fun k8 w10=>iA w10 (aM k8) [iI n8,iI n9] fun w11=>∀ w12,drawn w11 w12→∃ (I4:World→Prop),I4 w12∧∃ n10,(∀ w13,I4 w13→World.cell? w13 (aM k8) = some (iI n10))∧∃ o8 k9 k10,(∀ w14,I4 w14→World.cell? w14 d = some (vS o8 k9 k10))∧br (decide ((↑k9:Int)≤n10)) (∃ o9,(∀ w15,I4 w15→World.cell? w15 c = some (vP o9))∧nn o9 fun a7=>∃ o10 k11 k12,(∀ w16,I4 w16→World.cell? w16 (Addr.add a7 11) = some (vS o10 k11 k12))∧∃ n11,(∀ w17,I4 w17→World.cell? w17 (aM k8) = some (iI n11))∧∃ o11 k13 k14,(∀ w18,I4 w18→World.cell? w18 d = some (vS o11 k13 k14))∧aG (n11 - (↑k13:Int))∧idx o10 k11 (n11 - (↑k13:Int)) 1 fun a8=>∃ b1,(∀ w19,I4 w19→World.cell? w19 a8 = some (vB b1))∧br b1 (∀ w20,drawn w12 w20→∃ (I5:World→Prop),I5 w20∧∃ o12,(∀ w21,I5 w21→World.cell? w21 c = some (vP o12))∧nn o12 fun a9=>∃ o13,(∀ w22,I5 w22→World.cell? w22 (Addr.add a9 9) = some (Value.map o13))∧∃ n12,(∀ w23,I5 w23→World.cell? w23 (aM k8) = some (iI n12))∧az Proofs.Tryz.prog (Instr.lookup 97 (Value.map o13) (vG [iI (n6 - 1),iI n12]) false) w20 fun v2 w24=>∃ n13,v2 = iI n13∧I5 w24∧aG (n13 - 1)∧y8 (Proofs.YtngdohpikfcifaaGreatDoor.Fn a) (au Proofs.Tryz.prog Ev a (iI n1 :: iI (n13 - 1) :: b) w24 fun v3 w25=>v3 = vT (Array.mk [])∧aG (n7 + 1)∧x3 (n7 + 1) w25∧x4 (n7 + 1) w25 < x4 n7 w9)) (aG (n7 + 1)∧x3 (n7 + 1) w12∧x4 (n7 + 1) w12 < x4 n7 w9)) (aG (n7 + 1)∧x3 (n7 + 1) w12∧x4 (n7 + 1) w12 < x4 n7 w9)) (aG (n1 + 1)∧x1 (n1 + 1) w9∧x2 (n1 + 1) w9 < x2 n1 w1)) (R (vT (Array.mk [])) w1)
theorem tH (a:FuncId) (b:List Value) (c d:Addr) (w:World) (R:Value→WP) (h:uT a b c d w R):aC Tryz.prog 44 [(.func (.func a) #[] ⟨b⟩),(.pointer (some c)),(.pointer (some d))] w R:=rv Tryz.func44 tG (by kernel_rfl) h

abbrev rJ:FuncId:=45
def nZ:bj:={ rngs:=[],loops:=[(2,[(14,(.one (.int .i64)))]),(5,[(27,(.one (.int .i64)))])],joins:=[],blocks:=[] }
def pQ (a:FuncId) (b:List Value) (c d:Addr) (w:World) (R:Value→WP):Prop :=  new w (oC [Value.func (Fn.func a) (Array.mk []) (Array.mk b)] 108) fun k1 w1=>∃ o1,World.cell? w1 c = some (vP o1)∧nn o1 fun a1=>∃ o2 k2 k3,World.cell? w1 (Addr.add a1 8) = some (vS o2 k2 k3)∧∃ (x1:lP [(14,aI)]),∃ (x2:lN [(14,aI)]),x1 0 w1∧∀ (I1:Nat→Value) (n1:Int) (w2:World),x1 n1 w2→br (decide (n1 < (↑k2:Int))) (idx o2 k2 n1 2 fun a2=>∃ n2 n3,V.rowAt w2 a2 0 2 = some [iI n2,iI n3]∧new w2 (oC [iI 0] 3) fun k4 w3=>new w3 (oC [iI 0,iI 0] 73) fun k5 w4=>st1 w4 (aM k4) (iI n1) fun w5=>iA w5 (aM k5) [iI n2,iI n3] fun w6=>∀ w7,drawn w6 w7→∃ (I2:World→Prop),I2 w7∧∃ o3,(∀ w8,I2 w8→World.cell? w8 c = some (vP o3))∧nn o3 fun a3=>∃ o4,(∀ w9,I2 w9→World.cell? w9 (Addr.add a3 12) = some (Value.map o4))∧∃ n4,(∀ w10,I2 w10→World.cell? w10 (Addr.add (aM k5) 1) = some (iI n4))∧az Proofs.Tryz.prog (Instr.lookup 109 (Value.map o4) (iI n4) false) w7 fun v1 w11=>∃ o5 k6 k7,v1 = vS o5 k6 k7∧I2 w11∧∃ (x3:lP [(27,aI)]),∃ (x4:lN [(27,aI)]),x3 0 w11∧∀ (I3:Nat→Value) (n5:Int) (w12:World),x3 n5 w12→br (decide (n5 < (↑k6:Int))) (idx o5 k6 n5 1 fun a4=>∃ n6,World.cell? w12 a4 = some (iI n6)∧∃ o6 k8 k9,World.cell? w12 (Addr.add d 4) = some (vS o6 k8 k9)∧idx o6 k8 n6 3 fun a5=>∃ o7 k10 k11,World.cell? w12 (Addr.add a5 1) = some (vS o7 k10 k11)∧new w12 (oC [vS none 0 0] 24) fun k12 w13=>st1 w13 (aM k12) (vS o7 k10 k11) fun w14=>∃ o8,World.cell? w14 c = some (vP o8)∧∃ n7,World.cell? w14 (aM k5) = some (iI n7)∧∃ o9 k13 k14,World.cell? w14 (aM k12) = some (vS o9 k13 k14)∧au Proofs.Tryz.prog Ev 46 [vP o8,iI n7,vS o9 k13 k14,Value.func (Fn.func 47) (Array.mk []) (Array.mk [vP (some c),vP (some (aM k12)),vP (some (aM k1)),vP (some (aM k4))])] w14 fun v2 w15=>∃ n8,v2 = iI n8∧aG (n5 + 1)∧x3 (n5 + 1) w15∧x4 (n5 + 1) w15 < x4 n5 w12) (aG (n1 + 1)∧x1 (n1 + 1) w12∧x2 (n1 + 1) w12 < x2 n1 w2)) (R (vT (Array.mk [])) w2)
theorem n_ (a:FuncId) (b:List Value) (c d:Addr) (w:World) (R:Value→WP) (h:pQ a b c d w R):aC Tryz.prog 45 [(.func (.func a) #[] ⟨b⟩),(.pointer (some c)),(.pointer (some d))] w R:=rv Tryz.func45 nZ (by kernel_rfl) h

abbrev rK:FuncId:=46
def ob:bj:={ rngs:=[],loops:=[(2,[(1,(.one (.int .i64))),(13,(.one (.int .i64)))])],joins:=[],blocks:=[] }
def pR (a:Option Addr) (b:Int) (c:Option Addr) (d e:Nat) (f:FuncId) (g:List Value) (w:World) (R:Value→WP):Prop :=  ∃ (x1:lP [(1,aI),(13,aI)]),∃ (x2:lN [(1,aI),(13,aI)]),x1 b 0 w∧∀ (I1:Nat→Value) (n1 n2:Int) (w1:World),x1 n1 n2 w1→br (decide (n2 < (↑d:Int))) (idx c d n2 1 fun a1=>∃ n3,World.cell? w1 a1 = some (iI n3)∧y8 (Proofs.YtngdohpikfcifaaGreatDoor.Fn f) (au Proofs.Tryz.prog Ev f (iI n1 :: iI n2 :: g) w1 fun v1 w2=>v1 = vT (Array.mk [])∧nn a fun a2=>∃ o1,World.cell? w2 (Addr.add a2 10) = some (Value.map o1)∧az Proofs.Tryz.prog (Instr.lookup 97 (Value.map o1) (vG [iI n1,iI n3]) false) w2 fun v2 w3=>∃ n4,v2 = iI n4∧aG (n4 - 1)∧aG (n2 + 1)∧x1 (n4 - 1) (n2 + 1) w3∧x2 (n4 - 1) (n2 + 1) w3 < x2 n1 n2 w1)) (R (iI n1) w1)
theorem od (a:Option Addr) (b:Int) (c:Option Addr) (d e:Nat) (f:FuncId) (g:List Value) (w:World) (R:Value→WP) (h:pR a b c d e f g w R):aC Tryz.prog 46 [(.pointer a),(.int .i64 b),(.slice c d e),(.func (.func f) #[] ⟨g⟩)] w R:=rv Tryz.func46 ob (by kernel_rfl) h

abbrev mX:FuncId:=47
def kG:bj:={ rngs:=[],loops:=[],joins:=[],blocks:=[] }
def lI (a b:Int) (c d e f:Addr) (w:World) (R:Value→WP):Prop :=  ∀ w1,drawn w w1→∃ (I1:World→Prop),I1 w1∧∃ o1,(∀ w2,I1 w2→World.cell? w2 c = some (vP o1))∧nn o1 fun a1=>∃ o2,(∀ w3,I1 w3→World.cell? w3 (Addr.add a1 9) = some (Value.map o2))∧∃ o3 k1 k2,(∀ w4,I1 w4→World.cell? w4 d = some (vS o3 k1 k2))∧idx o3 k1 b 1 fun a2=>∃ n1,(∀ w5,I1 w5→World.cell? w5 a2 = some (iI n1))∧az Proofs.Tryz.prog (Instr.lookup 97 (Value.map o2) (vG [iI a,iI n1]) false) w1 fun v1 w6=>∃ n2,v1 = iI n2∧I1 w6∧∀ w7,drawn w6 w7→∃ (I2:World→Prop),I2 w7∧br (decide (0 < n2)) (∃ o4,(∀ w8,I2 w8→World.cell? w8 c = some (vP o4))∧∃ o5 k3 k4,(∀ w9,I2 w9→World.cell? w9 d = some (vS o5 k3 k4))∧aG (b + 1)∧p8 o5 k3 k4 (some (b + 1)) none none 1 fun (o6:Option Addr) (k5 k6:Nat)=>au Proofs.Tryz.prog Ev 48 [vP o4,vS o6 k5 k6] w7 fun v2 w10=>∃ b1,v2 = vB b1∧I2 w10∧br b1 (∃ g1 x1,World.cell? w10 e = some (Value.func (Fn.func g1) (Array.mk []) (Array.mk x1))∧aG (n2 - 1)∧∃ n3,World.cell? w10 f = some (iI n3)∧y8 (Proofs.YtngdohpikfcifaaGreatDoor.Fn g1) (au Proofs.Tryz.prog Ev g1 (iI (n2 - 1) :: iI n3 :: x1) w10 fun v3 w11=>v3 = vT (Array.mk [])∧R (vT (Array.mk [])) w11)) (R (vT (Array.mk [])) w10)) (R (vT (Array.mk [])) w7)
theorem kH (a b:Int) (c d e f:Addr) (w:World) (R:Value→WP) (h:lI a b c d e f w R):aC Tryz.prog 47 [(.int .i64 a),(.int .i64 b),(.pointer (some c)),(.pointer (some d)),(.pointer (some e)),(.pointer (some f))] w R:=rv Tryz.func47 kG (by kernel_rfl) h

abbrev mY:FuncId:=48
def kI:bj:={ rngs:=[],loops:=[],joins:=[],blocks:=[] }
def lJ (a b:Option Addr) (c d:Nat) (w:World) (R:Value→WP):Prop :=  new w (oC [vP a] 104) fun k1 w1=>au Proofs.Tryz.prog Ev 82 [vS b c d,Value.func (Fn.func 83) (Array.mk []) (Array.mk [vP (some (aM k1))])] w1 fun v1 w2=>∃ b1,v1 = vB b1∧R (vB !b1) w2
theorem kJ (a b:Option Addr) (c d:Nat) (w:World) (R:Value→WP) (h:lJ a b c d w R):aC Tryz.prog 48 [(.pointer a),(.slice b c d)] w R:=rv Tryz.func48 kI (by kernel_rfl) h

def oe:bj:={ rngs:=[],loops:=[],joins:=[],blocks:=[] }
def pS (a b:Int) (w:World) (R:Value→WP):Prop :=  R (vT (Array.mk [])) w
theorem og (a b:Int) (w:World) (R:Value→WP) (h:pS a b w R):aC Tryz.prog 49 [(.int .i64 a),(.int .i64 b)] w R:=rv Tryz.func49 oe (by kernel_rfl) h

abbrev a_:FuncId:=80
def lK:bj:={ rngs:=[],loops:=[],joins:=[],blocks:=[] }
def mZ (a b:Int) (c:Addr) (w:World) (R:Value→WP):Prop :=  ∀ w1,drawn w w1→∃ (I1:World→Prop),I1 w1∧∃ o1 k1 k2,(∀ w2,I1 w2→World.cell? w2 c = some (vS o1 k1 k2))∧∃ o2 k3 k4,(∀ w3,I1 w3→World.cell? w3 c = some (vS o2 k3 k4))∧idx o2 k3 a 1 fun a1=>∃ o3 k5 k6,(∀ w4,I1 w4→World.cell? w4 a1 = some (vS o3 k5 k6))∧new w1 (oC [iI b] 3) fun k7 w5=>I1 w5∧az Proofs.Tryz.prog (f_ 24 (Array.mk [vS o3 k5 k6,vS (some (aM k7)) 1 1])) w5 fun v1 w6=>∃ o4 k8 k9,v1 = vS o4 k8 k9∧I1 w6∧idx o1 k1 a 1 fun a2=>st1 w6 a2 (vS o4 k8 k9) fun w7=>R (vT (Array.mk [])) w7
theorem lL (a b:Int) (c:Addr) (w:World) (R:Value→WP) (h:mZ a b c w R):aC Tryz.prog 80 [(.int .i64 a),(.int .i64 b),(.pointer (some c))] w R:=rv Tryz.func80 lK (by kernel_rfl) h

abbrev dX:FuncId:=83
def iN:bj:={ rngs:=[],loops:=[],joins:=[],blocks:=[] }
def jl (a:Int) (b:Addr) (w:World) (R:Value→WP):Prop :=  ∀ w1,drawn w w1→∃ (I1:World→Prop),I1 w1∧∃ o1,(∀ w2,I1 w2→World.cell? w2 b = some (vP o1))∧nn o1 fun a1=>∃ o2 k1 k2,(∀ w3,I1 w3→World.cell? w3 a1 = some (vS o2 k1 k2))∧br (decide (a < (↑k1:Int))) (R (vB true) w1) (∃ o3,(∀ w4,I1 w4→World.cell? w4 b = some (vP o3))∧nn o3 fun a2=>∃ o4 k3 k4,(∀ w5,I1 w5→World.cell? w5 (Addr.add a2 11) = some (vS o4 k3 k4))∧∃ o5,(∀ w6,I1 w6→World.cell? w6 b = some (vP o5))∧nn o5 fun a3=>∃ o6 k5 k6,(∀ w7,I1 w7→World.cell? w7 a3 = some (vS o6 k5 k6))∧aG (a - (↑k5:Int))∧idx o4 k3 (a - (↑k5:Int)) 1 fun a4=>∃ b1,(∀ w8,I1 w8→World.cell? w8 a4 = some (vB b1))∧R (vB !b1) w1)
theorem iO (a:Int) (b:Addr) (w:World) (R:Value→WP) (h:jl a b w R):aC Tryz.prog 83 [(.int .i64 a),(.pointer (some b))] w R:=rv Tryz.func83 iN (by kernel_rfl) h

end Go.Proofs.YtngdohpikfcifaaGreatDoor
namespace Go.V
theorem D5:∀ (l:List Int) (a b:Int),dd (l ++ [a,b]) = if a = b then dd (l ++ [a]) else dd (l ++ [a]) ++ [b]
 | [],a,b=>by
  by_cases h:a = b
  ·subst h; simp [dd]
  ·simp [dd,h]
 | [x],a,b=>by
  have:=D5 [] a b
  simp only [To] at this
  by_cases h:a = b
  ·subst h; simp [dd]
  ·by_cases h2:x = a
   ·subst h2; simp [dd,h]
   ·simp [dd,h,h2]
 | x :: y :: l,a,b=>by
  have ih:=D5 (y :: l) a b
  have e1:dd (x :: y :: l ++ [a,b]) = if x = y then dd (y :: l ++ [a,b]) else x :: dd (y :: l ++ [a,b]):=rfl
  have e2:dd (x :: y :: l ++ [a]) = if x = y then dd (y :: l ++ [a]) else x :: dd (y :: l ++ [a]):=rfl
  rw [e1,e2,ih]
  by_cases h:a = b <;> by_cases h2:x = y <;> simp [h,h2]
theorem zV {xs:List Int} {m:Nat} {a b:Int} (ha:xs[m]? = some a) (hb:xs[m + 1]? = some b):dd (xs.take (m + 2)) = if a = b then dd (xs.take (m + 1)) else dd (xs.take (m + 1)) ++ [b]:=by
 have e1:xs.take (m + 1) = xs.take m ++ [a]:=by rw [Su,ha]; rfl
 have e2:xs.take (m + 2) = xs.take m ++ [a,b]:=by rw [Su,hb,e1]; simp
 rw [e2,e1,D5]
theorem Mi {xs:List Int} {n:Nat} (h:n≤1):dd (xs.take n) = xs.take n:=by
 match n,h with
 | 0,_=>simp [dd]
 | 1,_=>cases xs <;> simp [dd]
end Go.V
namespace Go.Proofs.YtngdohpikfcifaaGreatDoor
open Go.V Go.Sort Go.Shelf
variable {w:World} {L:List aw} {a:Option Addr} {l c:Nat} {xs:List Int}
theorem He (h:St w (own 1 a l c (iv xs) :: L)) (hb:l < 4611686018427387904) :
  aC Tryz.prog kE [.slice a l c] w fun v w'=>∃ a' c',v = .slice a' (dd xs).length c'∧St w' (own 1 a' (dd xs).length c' (iv (dd xs)) :: L):=by
 have hln:=ea h
 rw [gi] at hln
 have hlc:=dJ h
 have hl:xs.length = l:=by omega
 refine ji _ _ _ w _ (ae (fun h1=>?_) fun h1=>?_)
 ·have h1:l < 2:=by have:=Si h1; omega
  have e:dd xs = xs:=by have:=Mi (xs:=xs) (n:=l) (by omega); rwa [SD (by omega)] at this
  rw [e,hl]; exact ⟨a,c,rfl,h⟩
 have h1:2≤l:=by have:=Sj h1; omega
 refine ⟨fun z w'=>∃ n:Nat,z = ((n + 1:Nat):Int)∧n + 1≤l∧dd (xs.take (n + 1)) = xs.take (n + 1)∧St w' (own 1 a l c (iv xs) :: L),fun z _=>l - z.toNat,⟨0,rfl,by omega,Mi (SF _),h⟩,?_⟩
 clear h
 rintro _ z w1 ⟨n,rfl,hn,hS,h⟩
 refine ae (fun h2=>?_) fun h2=>?_
 rotate_left
 ·have h2:l = n + 1:=by have:=Sj h2; omega
  have e:dd xs = xs:=by rwa [SD (by omega)] at hS
  rw [e,hl]; exact ⟨a,c,rfl,h⟩
 have h2:n + 1 < l:=by have:=Si h2; omega
 intro w2 hd
 have h:=h.eq (aD hd)
 have hr:aW (hp w2) xs a l:=b8 hl (gB 0 h.l)
 obtain ⟨x,ad,hx,rfl,cx⟩:=hr.bL h2
 obtain ⟨z,ad2,hz,e2,cz⟩:=hr.bL (by omega:n < l)
 cases e2
 have e1:((n + 1:Nat):Int) - 1 = (n:Int):=by omega
 rw [e1]
 refine ⟨fun u=>Gr w2 u,Gr.refl _,aq rfl h2 ⟨x,fun u s=>cx u s,⟨by omega,by omega⟩,aq rfl (by omega) ⟨z,fun u s=>cz u s,ae (fun h3=>?_) fun h3=>?_⟩⟩⟩
 rotate_left
 ·have h3:x≠z:=by simpa using h3
  refine ⟨⟨by omega,by omega⟩,⟨n + 1,by simp,h2,?_,h⟩,bA h2⟩
  rw [zV hz hx,Sr (TM h3),hS,Su (i:=n + 1),hx]; rfl
 have h3:x = z:=by simpa using h3
 subst h3
 refine cJ (by omega) hlc ?_
 refine ⟨fun z y w'=>∃ (k t:Nat) (us:List Int),z = (k:Int)∧y = ((t + 1:Nat):Int)∧n + 1≤k∧k≤n + 1 + t∧n + 1 + t + 1≤l∧us.length = l∧us.drop k = xs.drop k∧us.take k = dd (xs.take (n + 1 + t + 1))∧St w' (own 1 (some ad) l c (iv us) :: L),fun _ y _=>l - y.toNat,
  ⟨n + 1,0,xs,rfl,rfl,SF _,SF _,by omega,hl,rfl,?_,h⟩,?_⟩
 ·rw [show n + 1 + 0 + 1 = n + 2 by omega,zV hz hx,Sz rfl,hS]
 clear h hr cx cz
 rintro _ _ _ w3 ⟨k,t,us,rfl,rfl,hk1,hk2,ht,hul,hud,hut,h⟩
 have hul2:(iv us).length = l:=by rw [gi,hul]
 refine ae (fun h3=>?_) fun h3=>?_
 rotate_left
 ·have h3:l = n + 1 + t + 1:=by have:=Sj h3; omega
  rw [← h3,SD (show xs.length≤l by omega)] at hut
  have hkl:(dd xs).length = k:=by rw [← hut,SN]; omega
  have hc:=CL (ty:=0) (c2:=c - k) aK (rfl:ag Ty Lk = .slice _) (rfl:Ty eI = some _) rfl rfl (fun v hv=>by rcases SA.1 hv with rfl | hv; rfl; cases hv) (by show 0 < 1; decide) h (show k≤l by omega)
  refine cJ (by omega) hlc (hc.mono ?_)
  rintro _ w4 ⟨vs,hv,h⟩
  refine kR (by omega) ?_
  have h:=zQ h (k:=k) (by omega)
  have e:vs.take (k * 1) = iv (dd xs):=hv.trans (by rw [← hut]; show (iv us).take (k * 1) = _; rw [Tp]; unfold iv; rw [List.map_take])
  rw [hkl]
  exact ⟨_,_,rfl,by rw [← e]; exact h⟩
 have h3:t + 1 < l - (n + 1):=by have:=Si h3; omega
 intro w4 hd
 have h:=h.eq (aD hd)
 have hr:=(b8 hul (gB 0 h.l):aW (hp w4) us (some ad) l).drop (k:=n + 1) (m:=c) (by omega) hlc
 have same:∀ j,k≤j→us[j]? = xs[j]?:=fun j hj=>by
  have:=congrArg (fun l=>l[j - k]?) hud
  simp only [S8] at this
  rwa [show k + (j - k) = j by omega] at this
 obtain ⟨x2,ad3,hx2,e3,cx⟩:=hr.bL h3
 obtain ⟨z2,ad4,hz2,e4,cz⟩:=hr.bL (by omega:t < l - (n + 1))
 rw [e3] at e4
 cases e4
 rw [S8,same _ (by omega)] at hx2 hz2
 have e1:((t + 1:Nat):Int) - 1 = (t:Int):=by omega
 have hx3:xs[n + 1 + t + 1]? = some x2:=by rw [← hx2]; congr 1
 have hz3:xs[n + 1 + t]? = some z2:=by rw [← hz2]
 rw [e1]
 refine ⟨fun u=>Gr w4 u,Gr.refl _,aq e3 h3 ⟨x2,fun u s=>cx u s,⟨by omega,by omega⟩,aq e3 (by omega) ⟨z2,fun u s=>cz u s,ae (fun h4=>?_) fun h4=>?_⟩⟩⟩
 rotate_left
 ·have h4:x2 = z2:=by simpa using h4
  subst h4
  refine ⟨⟨by omega,by omega⟩,⟨k,t + 1,us,rfl,by simp,hk1,by omega,by omega,hul,hud,?_,h⟩,bA (by omega)⟩
  rw [hut,show n + 1 + (t + 1) + 1 = n + 1 + t + 2 by omega,zV hz3 hx3,Sz rfl]
 have h4:x2≠z2:=by simpa using h4
 refine aq e3 h3 ⟨x2,cx _ (Gr.refl _),aq rfl (by omega) ?_⟩
 refine gh h rfl (by rw [hul2]; omega) fun w5 h=>?_
 rw [DA] at h
 refine ⟨⟨by omega,by omega⟩,⟨by omega,by omega⟩,⟨k + 1,t + 1,us.set k x2,by simp,by simp,by omega,by omega,by omega,by rw [SL,hul],?_,?_,h⟩,bA (by omega)⟩
 ·rw [List.drop_set_of_lt (by omega),← List.drop_drop (i:=1),hud,List.drop_drop]
 ·have hku:k < us.length:=by omega
  rw [show n + 1 + (t + 1) + 1 = n + 1 + t + 2 by omega,zV hz3 hx3,Sr (TM h4),← hut,Su,SY hku,List.take_set_of_le (SF _)]
  rfl
end Go.Proofs.YtngdohpikfcifaaGreatDoor
namespace Go.V
open MapKept
section
variable {κ : Type} [DecidableEq κ] [MVal κ] {P:Program} {w:World} {L:List aw} {Ty:TypeId→Option di}
theorem yc (k:κ) (u v:Value):∀ m:List (κ × Value),bx k v (bx k u m) = bx k v m
 | []=>by simp [bx]
 | (a,x) :: m=>by
  unfold bx
  by_cases h:k = a
  ·subst h; simp [bx]
  ·have e:bx k u ((a,x) :: m) = (a,x) :: bx k u m:=by show (if k = a then _ else _) = _; rw [Sr h]
   rw [e,Sr h]
   show (if k = a then _ else (a,x) :: bx k v (bx k u m)) = _
   rw [Sr h,yc k u v m]
theorem O4 {k:κ} {u:Value}:∀ {m:List (κ × Value)} {j:Nat},assoc k m = some u→(m[j]?).map (·.1) = some k→(∀ v,bx k v m = m.set j (k,v))→m[j]? = some (k,u)
 | [],j,h,_,_=>by cases h
 | (a,x) :: m,0,h,hk,hp=>by
  simp at hk; subst hk
  simp [assoc] at h; subst h
  rfl
 | (a,x) :: m,j + 1,h,hk,hp=>by
  by_cases e:k = a
  ·subst e
   have h1:=hp (.bool true)
   have h2:=hp (.bool false)
   simp [bx] at h1 h2
   have h3:=h1.1.trans h2.1.symm
   cases h3
  ·have e1:assoc k ((a,x) :: m) = assoc k m:=by show (if k = a then _ else _) = _; rw [Sr e]
   rw [e1] at h
   rw [TV] at hk ⊢
   refine O4 h hk fun v=>?_
   have h1:=hp v
   simpa [bx,e] using h1
def P3 (b:Nat) (m:List (κ × Value)) (k:κ) (n:Int):aw:=fun h=>∃ es clock i,h b = some (.map es clock)∧tX es clock m∧i < m.length∧(∀ u,bx k u m = m.set i (k,u))∧(m[i]?).map (·.1) = some k∧(es[i]?).map (fun e=>(e.born:Int)) = some n
theorem D6 {b:Nat} {m:List (κ × Value)} {k:κ} {n:Int}:St w (P3 b m k n :: L)↔∃ es clock i,tX es clock m∧i < m.length∧(∀ u,bx k u m = m.set i (k,u))∧(m[i]?).map (·.1) = some k∧(es[i]?).map (fun e=>(e.born:Int)) = some n∧St w (blk b (.map es clock) :: L) :=
 ⟨fun ⟨h1,h2,d,s1,s2,⟨es,cl,i,ha,q1,q2,q3,q4,q5⟩,hl⟩=>⟨es,cl,i,q1,q2,q3,q4,q5,h1,h2,d,s1,s2,ha,hl⟩,fun ⟨es,cl,i,q1,q2,q3,q4,q5,h1,h2,d,s1,s2,ha,hl⟩=>⟨h1,h2,d,s1,s2,⟨es,cl,i,ha,q1,q2,q3,q4,q5⟩,hl⟩⟩
theorem Hf {b:Nat} {es:Array MapEntry} {cl:Nat} (hg:w.heap[b]? = some (.map es cl)) (o:Array MapEntry × Nat):Ev w { w with heap:=w.heap.setIfInBounds b (.map o.1 o.2) }:=by
 refine ⟨rfl,rfl,rfl,by simp,?_,?_⟩ <;>
 ·intro x d hx
  rw [Tm]; exact hx
  intro e; subst e; rw [hg] at hx; cases hx
theorem map_take (hT:dy P Ty) {t kt et:TypeId} {i:di} {z:Value} (hk:ag Ty t = .map kt et) (hkt:uw P kt κ) (hi:Ty et = some i) (hz:i.zero = some z) {b:Nat} {m:List (κ × Value)} (h:St w (mapA b m :: L)) (k:κ) :
  az P (Instr.mapEntry t (.map (some b)) (MVal.val k)) w fun v w'=>∃ n:Int,v = .tuple #[(assoc k m).getD z,.int .i64 n]∧St w' (P3 b (bx k ((assoc k m).getD z) m) k n :: L):=by
 obtain ⟨d,hd,hd'⟩:=cX hT hk (by simp)
 rw [vU hd'] at hd
 obtain ⟨es,cl,⟨he,hnd,hlt⟩,h⟩:=gX.1 h
 obtain ⟨r,hf,q2,q3,q4⟩:=hkt.find w k es.toList m he
 obtain ⟨info,d2,ha⟩:=qd hT hi
 have hzz:(zeroValue et).run P w = .ok z w:=g_ ha.inf (by rw [← ha.zero,hz])
 have hg:=h.get
 have hc:=fun e=>hkt.check w e k
 have hlen:es.size = m.length:=by have:=congrArg List.length he; simpa using this
 cases r with
 | none =>
  have e0:assoc k m = none:=by rw [← q2]; rfl
  rw [e0]
  refine ⟨_,_,?_,Hf hg (es.push { key:=MVal.val k,val:=z,born:=cl },cl + 1),cl,rfl,D6.2 ⟨_,_,m.length,?_,?_,?_,?_,?_,h.setObj _⟩⟩
  ·unfold Instr.mapEntry
   simp only [Sem.run_bind,aN hd,Result.andThen_ok,run_getObj_map w b es cl hg,hc,hf,hzz]
   rw [run_setObj_map _ hg]
   rfl
  ·refine ⟨by rw [q4 rfl]; simp [he],?_,?_⟩
   ·rw [Array.toList_push,SU,SX]
    refine ⟨hnd,by simp,fun a ha b hb e=>?_⟩
    obtain ⟨x,hx,rfl⟩:=SG.1 ha
    have:=hlt x hx
    simp at hb; omega
   ·intro e he'
    rw [Array.toList_push,Sp,SE] at he'
    rcases he' with he' | rfl
    ·have:=hlt e he'; omega
    ·exact Nat.lt_succ_self _
  ·show _ < (bx k z m).length
   rw [q4 rfl]; simp
  ·intro u
   show bx k u (bx k z m) = (bx k z m).set _ _
   rw [yc,q4 rfl u,q4 rfl z]
   simp
  ·show ((bx k z m)[m.length]?).map _ = _
   rw [q4 rfl]; simp
  ·rw [← hlen]; simp
 | some x =>
  obtain ⟨j,u⟩:=x
  obtain ⟨p2,p3,p4⟩:=q3 j u rfl
  have hj:j < es.size:=by omega
  have e0:assoc k m = some u:=by rw [← q2]; rfl
  have hmj:m[j]? = some (k,u):=O4 e0 p3 p4
  have hput:bx k u m = m:=by
   rw [p4 u]
   exact AV hmj
  have hkey:(es[j]?).map (fun e=>(e.key,e.val)) = some (MVal.val k,u):=by
   have h1:=congrArg (fun l=>l[j]?) he
   simp only [Sn,hmj,Tf] at h1
   rw [← h1]; simp
  obtain ⟨e,hej,hek⟩:=T1.1 hkey
  have hek1:e.key = MVal.val k:=congrArg Prod.fst hek
  have hk1:((es[j]?).map (·.key)).getD (MVal.val k) = MVal.val k:=by rw [hej]; exact hek1
  have hmod:(es.modify j fun e=>{ e with key:=MVal.val k }) = es:=by
   apply Array.ext_getElem?
   intro i
   rw [Td]
   split
   ·rename_i hji; subst hji
    rw [hej,← hek1]; rfl
   ·rfl
  rw [e0]
  refine ⟨_,_,?_,Hf hg (es,cl),(e.born:Int),rfl,D6.2 ⟨_,_,j,?_,?_,?_,?_,?_,h.setObj _⟩⟩
  ·unfold Instr.mapEntry
   simp only [Sem.run_bind,aN hd,Result.andThen_ok,run_getObj_map w b es cl hg,hc,hf,hk1,Instr.keyThatStays,hkt.bits,if_true,Sem.run_pure,hmod]
   rw [run_setObj_map _ hg]
   simp [hej,goInt]
  ·show tX _ _ (bx k u m)
   rw [hput]; exact ⟨he,hnd,hlt⟩
  ·show _ < (bx k u m).length
   rw [hput]; exact p2
  ·intro v
   show bx k v (bx k u m) = (bx k u m).set _ _
   rw [hput,p4 v]
  ·show ((bx k u m)[j]?).map _ = _
   rw [hput,hmj]; rfl
  ·rw [hej]; rfl
theorem Mj {t:TypeId} {b:Nat} {m:List (κ × Value)} {k:κ} {n:Int} (h:St w (P3 b m k n :: L)) (x:Value) :
  az P (Instr.entryStore t (.map (some b)) (.int .i64 n) x) w fun _ w'=>St w' (mapA b (bx k x m) :: L):=by
 obtain ⟨es,cl,i,⟨he,hnd,hlt⟩,hi,hput,hm,hb,h⟩:=D6.1 h
 have hg:=h.get
 have hlen:es.size = m.length:=by have:=congrArg List.length he; simpa using this
 obtain ⟨e,hei,heb⟩:=T1.1 hb
 have hidx:es.findIdx? (fun e=>(e.born:Int) == n) = some i:=by
  rw [Array.findIdx?_eq_some_iff_getElem]
  refine ⟨by omega,?_,fun j hj=>?_⟩
  ·have:=(S3.1 hei).2
   rw [this,heb]; simp
  ·intro hne
   have hne:(es[j].born:Int) = n:=by simpa using hne
   have h1:(es.toList.map (·.born))[j]? = some es[j].born:=by simp [show j < es.size by omega]
   have h2:(es.toList.map (·.born))[i]? = some e.born:=by rw [Sn,SS,hei]; rfl
   have e3:es[j].born = e.born:=by omega
   rw [e3] at h1
   have:=hnd
   have h4:=(List.getElem?_inj (i:=j) (j:=i) (by simp; omega) hnd).1 (by rw [h1,h2])
   omega
 refine ⟨(),_,?_,Hf hg (es.modify i fun e=>{ e with val:=x },cl),gX.2 ⟨_,_,?_,h.setObj _⟩⟩
 ·unfold Instr.entryStore
  simp only [Sem.run_bind,run_getObj_map w b es cl hg,Result.andThen_ok]
  show ((asInt (.int .i64 n)).run P w).andThen _ = _
  have ha:(asInt (.int .i64 n)).run P w = .ok n w:=rfl
  rw [ha,Result.andThen_ok]
  simp only [hidx]
  exact run_setObj_map _ hg
 ·refine ⟨?_,?_,?_⟩
  rotate_left
  ·have:(es.modify i fun e=>{ e with val:=x }).toList.map (·.born) = es.toList.map (·.born):=by
    apply Tb
    intro i
    simp only [Sn,SS,Td]
    split
    ·cases es[i]? <;> rfl
    ·rfl
   rw [this]; exact hnd
  ·intro e he'
   obtain ⟨i,hi⟩:=SP he'
   rw [SS,Td] at hi
   split at hi
   ·cases hx:es[i]? with
    | none=>rw [hx] at hi; cases hi
    | some x=>rw [hx] at hi; cases hi; exact hlt x (by rw [← SS] at hx; exact Sl hx)
   ·rw [← SS] at hi; exact hlt e (Sl hi)
  rw [hput x]
  apply Tb
  intro j
  have h1:=congrArg (fun l=>l[j]?) he
  simp only [Sn,SS] at h1
  simp only [Sn,SS,Td,TB]
  by_cases hij:i = j
  ·subst hij
   rw [hei] at h1 ⊢
   cases hmi:m[i]? with
   | none=>rw [hmi] at hm; cases hm
   | some y =>
    rw [hmi] at h1 hm
    simp only [Tf,Option.some.injEq,Prod.mk.injEq] at h1 hm
    simp [hi,h1.1,hm]
  ·simp [hij,h1]
end
end Go.V
namespace Go.V
def RC (g:af) (bss:List (List Bool)):Prop:=bss.length = g.N∧∀ (i:Nat) bs,bss[i]? = some bs→bs.length = g.T∧∀ t,bn bs t = true↔FH g ((g.T + i:Nat):Int) t
theorem RC.inj {g:af} {bs cs:List (List Bool)} (h:RC g bs) (k:RC g cs):bs = cs:=by
 apply Tb
 intro i
 cases h1:bs[i]? with
 | none =>
  have:=List.getElem?_eq_none_iff.1 h1
  exact (SH (by rw [k.1,← h.1]; exact this)).symm
 | some b =>
  have hl:=(Sk.1 h1).1
  obtain ⟨c,h2⟩ : ∃ c,cs[i]? = some c:=⟨cs[i]'(by rw [k.1,← h.1]; exact hl),Sm _⟩
  rw [h2]
  obtain ⟨a1,a2⟩:=h.2 i b h1
  obtain ⟨b1,b2⟩:=k.2 i c h2
  exact congrArg some (kP (a1.trans b1.symm) fun t=>by rw [S9,a2,b2])
end Go.V
namespace Go.V
theorem ax.part {h:Hp} {b:Nat} {vs:List Value} (r:ax h ⟨b,0,none⟩ vs) (i n:Nat):ax h ((⟨b,0,none⟩ : Addr).add (dP i n)) ((vs.drop (i * n)).take n):=fun j v hj=>by
 rw [TE] at hj
 split at hj
 ·rw [S8] at hj
  rw [add_add,aH]
  exact r _ v hj
 ·cases hj
end Go.V

namespace Go.V
def RY (g:af) (s y:Int):Prop:=∃ p∈g.prods,p.left = s∧∃ n:Nat,p.right[n]? = some y∧∀ x∈p.right.take n,uP g x
theorem FH.FN {g:af} {s0:Int} {ms:List Bool} (h0:(g.T:Int)≤s0) (iG:Kq g) (hc:∀ s y,(s = s0∨(0≤s∧bn ms s.toNat = true))→RY g s y→bn ms y.toNat = true) {s:Int} {t:Nat} (h:FH g s t):(s = s0∨(0≤s∧bn ms s.toNat = true))→bn ms t = true:=by
 induction h with
 | tm t ht =>
  rintro (h | ⟨_,h⟩)
  ·omega
  ·simpa using h
 | pr p i s' t hp h1 h2 h3 ih =>
  intro hR
  exact ih (.inr ⟨((iG p hp).2 s' (Sl h1)).1,hc _ _ hR ⟨p,hp,rfl,i,h1,h2⟩⟩)
structure D7 (g:af) (s0:Int) (ms:List Bool) (xs:List Int) (D:Int→Prop):Prop where
 ln:ms.length = g.T + g.N
 rg:∀ y∈xs,0≤y∧y < (g.T:Int) + g.N
 cl:∀ s,(s = s0∨(0≤s∧bn ms s.toNat = true))→s∈xs∨D s∨∀ y,RY g s y→bn ms y.toNat = true
theorem D7.pop {g:af} {s0:Int} {ms:List Bool} {xs:List Int} {s1:Int} (h:D7 g s0 ms (s1 :: xs) fun _=>False):D7 g s0 ms xs (· = s1) :=
 ⟨h.ln,fun y hy=>h.rg y (T7 _ hy),fun s hs=>by
  rcases h.cl s hs with h | h | h
  ·rcases SA.1 h with h | h
   ·exact .inr (.inl h)
   ·exact .inl h
  ·exact absurd h id
  ·exact .inr (.inr h)⟩
theorem D7.push {g:af} {s0:Int} {ms:List Bool} {xs:List Int} {D:Int→Prop} {y:Int} (h:D7 g s0 ms xs D) (hy:0≤y∧y < (g.T:Int) + g.N):D7 g s0 (ms.set y.toNat true) (xs ++ [y]) D:=by
 have hk:y.toNat < ms.length:=by rw [h.ln]; omega
 refine ⟨by rw [SL]; exact h.ln,fun z hz=>?_,fun s hs=>?_⟩
 ·rcases Sp.1 hz with hz | hz
  ·exact h.rg z hz
  ·simp at hz; subst hz; exact hy
 ·have mono:∀ k,bn ms k = true→bn (ms.set y.toNat true) k = true:=fun k hk'=>by rw [rj hk,hk']; rfl
  by_cases e:s = y
  ·exact .inl (by simp [e])
  ·have:s = s0∨(0≤s∧bn ms s.toNat = true):=by
    rcases hs with hs | ⟨h1,h2⟩
    ·exact .inl hs
    ·rw [rj hk,Tk,beq_iff_eq] at h2
     rcases h2 with h2 | h2
     ·exact .inr ⟨h1,h2⟩
     ·omega
   rcases h.cl s this with h | h | h
   ·exact .inl (Sp.2 (.inl h))
   ·exact .inr (.inl h)
   ·exact .inr (.inr fun z hz=>mono _ (h z hz))
theorem D7.done {g:af} {s0:Int} {ms:List Bool} {xs:List Int} {s1:Int} (h:D7 g s0 ms xs (· = s1)) (hd:∀ y,RY g s1 y→bn ms y.toNat = true):D7 g s0 ms xs fun _=>False :=
 ⟨h.ln,h.rg,fun s hs=>by
  rcases h.cl s hs with h | rfl | h
  ·exact .inl h
  ·exact .inr (.inr hd)
  ·exact .inr (.inr h)⟩
end Go.V
namespace Go.V
def af.more (g:af) (q:aJ):af:={ g with prods:=g.prods ++ [q] }
theorem uP.more {g:af} {q:aJ} {s:Int} (h:uP g s):uP (g.more q) s:=by
 induction h with
 | mk p hp _ ih=>exact .mk p (Sp.2 (.inl hp)) ih
theorem FH.more {g:af} {q:aJ} {s:Int} {t:Nat} (h:FH g s t):FH (g.more q) s t:=by
 induction h with
 | tm t ht=>exact .tm t ht
 | pr p i s t hp h1 h2 _ ih=>exact .pr p i s t (Sp.2 (.inl hp)) h1 (fun x hx=>(h2 x hx).more) ih
end Go.V
namespace Go.V
theorem P4 {ms:List Bool} {u:Nat} (h:u < ms.length):(bv ms)[u]? = some (.bool (bn ms u)):=by
 unfold bv; rw [Sn,Sm h,nJ (Sm h)]; rfl
theorem On {w:World} {k u:Nat} {ms:List Bool} (r:ax (hp w) ⟨k,0,none⟩ (bv ms)) (h:u < ms.length):w.cell? ((⟨k,0,none⟩ : Addr).add u) = some (.bool (bn ms u)):=r.cell (sub.refl _) (j:=u) (P4 h)
theorem Oo (ms:List Bool) (u:Nat) (b:Bool):(bv ms).set u (.bool b) = bv (ms.set u b):=by simp [bv,Ta]
theorem P5 (n:Nat):List.replicate n (Value.bool false) = bv (List.replicate n false):=by simp [bv]
def Ml (g:af) (nn:List Bool) (row:List Int):Prop:=∀ s∈row,(g.T:Int)≤s∧bn nn (s.toNat - g.T) = true
def QI (g:af) (nn:List Bool) (p:aJ):Prop:=Ml g nn p.right→bn nn (p.left.toNat - g.T) = true
theorem pM.R8 {g:af} {nn:List Bool} (h:pM g nn) (iG:Kq g) {row:List Int}:Ml g nn row↔FI g row:=by
 refine forall_congr' fun s=>imp_congr Iff.rfl ?_
 constructor
 ·rintro ⟨h1,h2⟩
  have:=(h.2 _).1 h2
  rwa [show ((g.T + (s.toNat - g.T):Nat):Int) = s from by omega] at this
 ·intro hN
  have hl:=hN.left iG
  refine ⟨hl.1,(h.2 _).2 ?_⟩
  rwa [show ((g.T + (s.toNat - g.T):Nat):Int) = s from by omega]
theorem P6 {g:af} {nn:List Bool} (iG:Kq g) (hl:nn.length = g.N) (hs:∀ i,bn nn i = true→uP g ((g.T + i:Nat):Int)) (hc:∀ p∈g.prods,QI g nn p):pM g nn:=by
 refine ⟨hl,fun i=>⟨hs i,fun h=>?_⟩⟩
 have key:∀ s,uP g s→bn nn (s.toNat - g.T) = true:=fun s h=>by
  induction h with
  | mk p hp h1 ih=>exact hc p hp fun s hs=>⟨(h1 s hs |>.left iG).1,ih s hs⟩
 have:=key _ h
 rwa [show ((g.T + i:Nat):Int).toNat - g.T = i from by omega] at this
end Go.V
namespace Go.Proofs.YtngdohpikfcifaaGreatDoor
open Go.V
section
variable {w:World} {L:List aw} {g:af} {x:GA} {a an:Option Addr} {l c nl cn:Nat} {row:List Int} {nn:List Bool}
theorem Hg (hg:gR (hp w) g x) (hn:aW (hp w) nn an nl) (hnl:nn.length = g.N) (hr:aW (hp w) row a l) (hs:RX g row) (hb:l≤4611686018427387904) (hT:g.T≤65) (hN:g.N≤65):aC Tryz.prog mQ [.agg ⟨x.cells⟩,.slice an nl cn,.slice a l c] w fun v w'=>(∃ r:Bool,v = .bool r∧(r = true↔Ml g nn row))∧Gr w w':=by
 refine kB _ _ _ _ _ _ _ _ _ _ _ _ _ _ _ _ _ _ _ w _ ?_
 refine de hg fun k1 w1 gw hg B=>?_
 have tl:g.T = x.tl:=hg.t.1
 have hn:=hn.mono gw
 have hr:=hr.mono gw
 have hn1:=hn.1
 refine ⟨fun n w'=>∃ j:Nat,n = j∧j≤l∧Ml g nn (row.take j)∧Gr w1 w',fun n _=>l - n.toNat,⟨0,rfl,by omega,fun s hs=>by simp at hs,Gr.refl _⟩,?_⟩
 rintro _ n w2 ⟨j,rfl,hj,hv,g2⟩
 refine ae (fun h1=>?_) fun h1=>?_
 ·have h1:j < l:=by have:=Si h1; omega
  obtain ⟨y,ad,hy1,hya,hy2⟩:=hr.bL h1
  have hym:=Sl hy1
  have hys:=hs y hym
  intro w3 hd
  have g3:Gr w1 w3:=g2.trans (Gr.drawn hd)
  have no:¬ ((g.T:Int)≤y∧bn nn (y.toNat - g.T) = true)→(∃ r:Bool,Value.bool false = .bool r∧(r = true↔Ml g nn row))∧Gr w w3:=fun hn=>⟨⟨false,rfl,⟨fun h=>absurd h (by decide),fun h=>absurd (h y hym) hn⟩⟩,gw.trans g3⟩
  refine ⟨fun w=>Gr w1 w,g3,aq hya h1 ⟨y,fun w s=>hy2 _ s,_,_,_,fun w s=>B.c0 s,ae (fun h2=>no ?_) fun h2=>?_⟩⟩
  ·have h2:=Si h2; omega
  have h2:=Sj h2
  have hun:y.toNat - g.T < nl:=by omega
  obtain ⟨b,ad2,hb1,hba,hb2⟩:=hn.bL hun
  have eu:y - (x.tl:Int) = ((y.toNat - g.T:Nat):Int):=by rw [← tl]; omega
  refine aq hya h1 ⟨y,fun w s=>hy2 _ s,_,_,_,fun w s=>B.c0 s,⟨by omega,by omega⟩,?_⟩
  rw [eu]
  refine aq hba hun ⟨b,fun w s=>hb2 _ s,ae (fun h3=>no ?_) fun h3=>?_⟩
  ·rw [nJ hb1]
   cases b
   ·simp
   ·cases h3
  ·refine ⟨⟨by omega,by omega⟩,⟨j + 1,by simp,by omega,fun s hs=>?_,g3⟩,bA h1⟩
   rw [aV hy1] at hs
   rcases Sp.1 hs with hs | hs
   ·exact hv s hs
   ·simp at hs; subst hs
    exact ⟨by omega,by rw [nJ hb1]; simpa using h3⟩
 ·have h1:j = l:=by have:=Sj h1; omega
  subst h1
  rw [SD (by have:=hr.1; omega)] at hv
  exact ⟨⟨true,rfl,by simp [hv]⟩,gw.trans g2⟩
theorem P7 (hg:gR (hp w) g x) (hb:iM g) (he:ep g):aC Tryz.prog tn [.agg ⟨x.cells⟩] w fun v w'=>∃ (k:Nat) (nn:List Bool),v = .slice (some ⟨k,0,none⟩) g.N g.N∧pM g nn∧St w' (aR k (bv nn) :: all w):=by
 refine pC _ _ _ _ _ _ _ _ _ _ _ _ _ w _ ?_
 refine de hg fun k1 w1 gw hg B=>?_
 obtain ⟨iG,bT,bN,pN,pT,bP⟩:=P0 he
 have tl:g.T = x.tl:=hg.t.1
 have nl:g.N = x.nl:=hg.n.1
 have pl:=hg.p.1
 have gs:sub (hp w) (hp w1):=gw
 have h1:=St.all w1
 unfold V.all at h1
 generalize hH:hp w1 = H at *
 refine ⟨_,_,_,B.c1 (aZ 0 h1.l),?_⟩
 rw [← nl]
 refine ⟨⟨by omega,rfl,by omega⟩,?_⟩
 rw [SJ,dB,P5]
 refine ah h1 fun k4 w2 h2=>?_
 obtain ⟨Q,hQ⟩:=Iz (fun (b:Bool) (w:World) (m:Nat)=>∃ nn:List Bool,nn.length = g.N∧(∀ i,bn nn i = true→uP g ((g.T + i:Nat):Int))∧m = Bi nn + (if b then 1 else 0)∧(b = false→∀ p∈g.prods,QI g nn p)∧St w [aR k4 (bv nn),has H])
 obtain ⟨μ,mu1,mu2⟩:=FL (fun (y:Bool × World) m=>Q y.1 y.2 m)
 refine ⟨fun b w'=>∃ m,Q b w' m,fun b w=>μ (b,w),⟨Bi (List.replicate g.N false) + 1,?_⟩,?_⟩
 ·rw [hQ]
  exact ⟨List.replicate g.N false,by simp,fun i h=>(by rw [sx] at h; exact absurd h (by decide)),rfl,fun h=>absurd h (by decide),h2⟩
 clear h2
 intro _ b w3 hP
 have hP:=mu2 (b,w3) hP
 dsimp only at hP
 generalize hμ : μ (b,w3) = μ0 at *
 rw [hQ] at hP
 obtain ⟨nn0,hl0,hs0,hmu,hc0,h⟩:=hP
 refine ae (fun hb1=>?_) fun hb1=>?_
 rotate_left
 ·exact ⟨k4,nn0,rfl,P6 iG hl0 hs0 (hc0 hb1),h.vK (cE gs)⟩
 subst hb1
 rw [Sz rfl] at hmu
 refine ⟨fun b n w'=>∃ (j:Nat) (nn:List Bool),n = j∧j≤g.prods.length∧nn.length = g.N∧(∀ i,bn nn i = true→uP g ((g.T + i:Nat):Int))∧Bi nn + (if b then 1 else 0)≤Bi nn0∧(b = false→∀ p∈g.prods.take j,QI g nn p)∧St w' [aR k4 (bv nn),has H],fun _ n _=>g.prods.length - n.toNat,⟨0,nn0,rfl,by omega,hl0,hs0,by simp,by simp,h⟩,?_⟩
 clear h hc0
 rintro _ b n w4 ⟨j,nn,rfl,hj,hl,hs,hm,hc,h⟩
 refine ⟨_,_,_,B.c4 (aZ 1 h.l),ae (fun h3=>?_) fun h3=>?_⟩
 rotate_left
 ·have h3:j = g.prods.length:=by have:=Sj h3; omega
  subst h3
  rw [SM] at hc
  have key:Q b w4 (Bi nn + (if b then 1 else 0)):=by
   rw [hQ]; exact ⟨nn,hl,hs,rfl,hc,h⟩
  refine ⟨⟨_,key⟩,?_⟩
  have:=mu1 (b,w4) _ key
  dsimp only
  rw [hμ]
  omega
 have h3:j < g.prods.length:=by have:=Si h3; omega
 obtain ⟨p,ad,vs,hp1,hpa,hp2,ra,rl,rc,rfl,hrc,hp3⟩:=hg.p.get (i:=j) (by omega)
 have hpm:=Sl hp1
 obtain ⟨hpl,hpr⟩:=iG p hpm
 have b7':=hb.2.2.2.2.2.2 p hpm
 have rl1:=hp3.1
 have et:g.prods.take (j + 1) = g.prods.take j ++ [p]:=by rw [Su,hp1]; rfl
 intro w5 hd
 have h:=h.drawn hd
 have hun:p.left.toNat - g.T < g.N:=by omega
 have eu:p.left - (x.tl:Int) = ((p.left.toNat - g.T:Nat):Int):=by rw [← tl]; omega
 refine ⟨fun w=>sub H (hp w),aZ 1 h.l,_,_,_,fun w s=>B.c4 s,ay hpa (by omega) ⟨_,fun w s=>hp2.cell0 s,_,_,_,fun w s=>B.c0 s,⟨by omega,by omega⟩,?_⟩⟩
 rw [eu]
 have nx:∀ {w' : World} {nn' : List Bool} {b' : Bool},nn'.length = g.N→(∀ i,bn nn' i = true→uP g ((g.T + i:Nat):Int))→Bi nn' + (if b' then 1 else 0)≤Bi nn0→(b' = false→(∀ p∈g.prods.take j,QI g nn' p)∧QI g nn' p)→St w' [aR k4 (bv nn'),has H]→aG ((j:Int) + 1)∧(∃ (j' : Nat) (nn:List Bool),(j:Int) + 1 = j'∧j'≤g.prods.length∧nn.length = g.N∧(∀ i,bn nn i = true→uP g ((g.T + i:Nat):Int))∧Bi nn + (if b' then 1 else 0)≤Bi nn0∧(b' = false→∀ p∈g.prods.take j',QI g nn p)∧St w' [aR k4 (bv nn),has H])∧g.prods.length - ((j:Int) + 1).toNat < g.prods.length - (j:Int).toNat:=fun {w' nn' b'} a1 a2 a3 a4 a5=>by
  refine ⟨⟨by omega,by omega⟩,⟨j + 1,nn',by simp,by omega,a1,a2,a3,fun hb' q hq=>?_,a5⟩,bA h3⟩
  rw [et] at hq
  rcases Sp.1 hq with hq | hq
  ·exact (a4 hb').1 q hq
  ·simp at hq; subst hq; exact (a4 hb').2
 refine aq rfl hun ⟨_,On (ai 0 h.l) (by omega),ae (fun h4=>nx hl hs hm (fun hb'=>⟨hc hb',fun _=>h4⟩) h) fun h4=>?_⟩
 intro w9 hd2
 have h:=h.drawn hd2
 refine ⟨fun w=>sub H (hp w),aZ 1 h.l,_,_,_,_,_,_,_,_,_,_,_,_,_,fun w s=>B.row s,_,_,_,fun w s=>B.c4 s,ay hpa (by omega) ⟨_,_,_,fun w s=>hp2.cell s (j:=1) rfl,?_⟩⟩
 have rn:aW (hp w9) nn (some ⟨k4,0,none⟩) g.N:=xI hl (.inr ⟨_,rfl,ai 0 h.l⟩)
 refine (Hg (x:=x) (hg.mono (aZ 1 h.l)) rn hl (hp3.mono (aZ 1 h.l)) (fun s hs=>⟨(hpr s hs).1,(hpr s hs).2⟩) (by omega) bT bN).mono ?_
 rintro _ w13 ⟨⟨r,rfl,hr⟩,g13⟩
 have h:=h.gr g13
 refine ⟨_,rfl,ae (fun h5=>?_) fun h5=>nx hl hs hm (fun hb'=>⟨hc hb',fun hv=>?_⟩) h⟩
 ·have hun' : p.left.toNat - g.T < nn.length:=by omega
  refine aq rfl hun ?_
  rw [aO]
  refine bg h (by rw [AE]; exact hun') fun w14 h=>?_
  rw [Oo] at h
  have FN:=Iy hun' h4
  refine nx (by rw [SL]; exact hl) (fun i hi=>?_) ?_ (fun hb'=>absurd hb' (by decide)) h
  ·rw [rj hun',Tk,beq_iff_eq] at hi
   rcases hi with hi | rfl
   ·exact hs i hi
   ·rw [show ((g.T + (p.left.toNat - g.T):Nat):Int) = p.left from by omega]
    refine .mk p hpm fun s hs'=>?_
    obtain ⟨v1,v2⟩:=hr.1 h5 s hs'
    have:=hs _ v2
    rwa [show ((g.T + (s.toNat - g.T):Nat):Int) = s from by omega] at this
  ·have:=hm
   rw [Sz rfl]
   split at this <;> omega
 ·rw [hr.2 hv] at h5; cases h5
end
end Go.Proofs.YtngdohpikfcifaaGreatDoor
namespace Go.V
def Mm (T:Nat) (nn:List Bool):List Bool:=List.replicate T false ++ nn
theorem Mn {T:Nat} {nn:List Bool} (i:Nat):bn (Mm T nn) i = (decide (T≤i) && bn nn (i - T)):=by
 unfold Mm bn
 rw [Sq,Sq]
 by_cases h:T≤i
 ·rw [SC (by simpa using h),List.length_replicate]; simp [h]
 ·rw [Sw (by simp; omega),Tc,Sz (by omega)]
  simp [h]
def Sf (T p:Nat):Value:=.slice (some ⟨p,0,none⟩) T T
end Go.V
namespace Go.V
theorem pM.sym {g:af} {nn:List Bool} (h:pM g nn) (iG:Kq g) (i:Nat):bn (Mm g.T nn) i = true↔uP g (i:Int):=by
 rw [Mn,SB,Sy]
 constructor
 ·rintro ⟨h1,h2⟩
  have:=(h.2 _).1 h2
  rwa [show ((g.T + (i - g.T):Nat):Int) = i from by omega] at this
 ·intro hN
  have hl:=hN.left iG
  refine ⟨by omega,(h.2 _).2 ?_⟩
  rwa [show ((g.T + (i - g.T):Nat):Int) = i from by omega]
theorem pM.uO {g:af} {nn:List Bool} (h:pM g nn) (iG:Kq g) {p:aJ} (hp:p∈g.prods):uO (Mm g.T nn) p.right = true→bn (Mm g.T nn) p.left.toNat = true:=fun hr=>by
 obtain ⟨h1,h2⟩:=iG p hp
 rw [h.sym iG,bI (by omega)]
 refine .mk p hp fun s hs=>?_
 have:=(h.sym iG _).1 (wK.1 hr s hs)
 rwa [bI (h2 s hs).1] at this
end Go.V
namespace Go.V
structure P8 (h:Hp) (g:af) (x:GA) (b k4:Nat) (o:Option Addr) (c:Nat) (nn:List Bool) (ps:List Nat) (vs:List (List Bool)):Prop where
 f:ax h ⟨b,0,none⟩ (FC x k4 g.N o (g.T + g.N) c)
 n:ax h ⟨k4,0,none⟩ (bv nn)
 p:∃ ad,o = some ad∧ax h ad (ps.map (Sf g.T))
 v:∀ (i:Nat) p v,ps[i]? = some p→vs[i]? = some v→ax h ⟨p,0,none⟩ (bv v)
theorem P8.mono {h h' : Hp} {g:af} {x:GA} {b k4:Nat} {o:Option Addr} {c:Nat} {nn:List Bool} {ps:List Nat} {vs:List (List Bool)} (s:sub h h') (t:P8 h g x b k4 o c nn ps vs):P8 h' g x b k4 o c nn ps vs :=
 ⟨t.f.mono s,t.n.mono s,by obtain ⟨ad,e,r⟩:=t.p; exact ⟨ad,e,r.mono s⟩,fun i p v h1 h2=>(t.v i p v h1 h2).mono s⟩
end Go.V
namespace Go.V
def yd (g:af) (e:Int) (nn:List Bool):Prop:=(¬ ep g∧e = 1∧nn = [])∨(ep g∧e = 0∧pM g nn)
def Bl (g:af) (e:Int) (bss:List (List Bool)):Prop:=(¬ ep g∧e = 1∧bss = [])∨(ep g∧e = 0∧RC g bss)
def Bm (g:af) (row:List Int) (e:Int) (b:Bool) (xs:List Int):Prop:=(¬ (ep g∧RX g row)∧e = 1∧b = false∧xs = [])∨((ep g∧RX g row)∧e = 0∧(b = true↔FI g row)∧∃ bs,RB g row bs∧xs = ee bs)
theorem yd.inj {g:af} {e e' : Int} {nn nn' : List Bool} (h:yd g e nn) (k:yd g e' nn'):e = e'∧nn = nn':=by
 rcases h with ⟨h1,rfl,rfl⟩ | ⟨h1,rfl,h2⟩ <;> rcases k with ⟨k1,rfl,rfl⟩ | ⟨k1,rfl,k2⟩
 ·exact ⟨rfl,rfl⟩
 ·exact absurd k1 h1
 ·exact absurd h1 k1
 ·exact ⟨rfl,h2.inj k2⟩
theorem Bl.inj {g:af} {e e' : Int} {nn nn' : List (List Bool)} (h:Bl g e nn) (k:Bl g e' nn'):e = e'∧nn = nn':=by
 rcases h with ⟨h1,rfl,rfl⟩ | ⟨h1,rfl,h2⟩ <;> rcases k with ⟨k1,rfl,rfl⟩ | ⟨k1,rfl,k2⟩
 ·exact ⟨rfl,rfl⟩
 ·exact absurd k1 h1
 ·exact absurd h1 k1
 ·exact ⟨rfl,h2.inj k2⟩
theorem Bm.inj {g:af} {row:List Int} {e e' : Int} {b b' : Bool} {xs xs' : List Int} (h:Bm g row e b xs) (k:Bm g row e' b' xs'):e = e'∧b = b'∧xs = xs':=by
 rcases h with ⟨h1,rfl,rfl,rfl⟩ | ⟨h1,rfl,h2,bs,h3,rfl⟩ <;> rcases k with ⟨k1,rfl,rfl,rfl⟩ | ⟨k1,rfl,k2,bs',k3,rfl⟩
 ·exact ⟨rfl,rfl,rfl⟩
 ·exact absurd k1 h1
 ·exact absurd h1 k1
 ·exact ⟨rfl,by rw [S9,h2,k2],by rw [h3.inj k3]⟩
theorem Bl.le {g:af} {e:Int} {bss:List (List Bool)} (h:Bl g e bss):bss.length≤65∧∀ bs∈bss,bs.length≤65:=by
 rcases h with ⟨_,_,rfl⟩ | ⟨he,_,h1,h2⟩
 ·simp
 ·obtain ⟨iG,bT,bN,pN,pT,bP⟩:=P0 he
  refine ⟨by omega,fun bs hb=>?_⟩
  obtain ⟨i,hi,e⟩:=List.mem_iff_getElem.1 hb
  have:=(h2 i bs (by rw [← e]; exact Sm hi)).1
  omega
theorem Bm.le {g:af} {row:List Int} {e:Int} {b:Bool} {xs:List Int} (h:Bm g row e b xs):xs.length≤65:=by
 rcases h with ⟨_,_,_,rfl⟩ | ⟨he,_,_,bs,h1,rfl⟩
 ·simp
 ·obtain ⟨iG,bT,bN,pN,pT,bP⟩:=P0 he.1
  have:=gj bs
  rw [vO,]
  have:=h1.1
  omega
theorem yd.le {g:af} {e:Int} {nn:List Bool} (h:yd g e nn):nn.length≤65:=by
 rcases h with ⟨_,_,rfl⟩ | ⟨he,_,h1,h2⟩
 ·simp
 ·obtain ⟨iG,bT,bN,pN,pT,bP⟩:=P0 he
  omega
end Go.V
namespace Go.Proofs.YtngdohpikfcifaaGreatDoor
open Go.V
section
variable {w:World} {L:List aw} {g:af} {x:GA} {a a2:Option Addr} {l l2 c c2:Nat} {bs:List Bool} {row:List Int}
theorem FO (hg:gR (hp w) g x) (hb:iM g) (ht:gz (hp w)):aC Tryz.prog mT [.agg ⟨x.cells⟩] w fun v w'=>∃ (o:Option Addr) (n c:Nat) (e:Int) (nn:List Bool),v = .tuple #[.slice o n c,.int .i64 e]∧nn.length = n∧yd g e nn∧St w' (own 1 o n c (bv nn) :: all w):=by
 refine (Hb hg hb ht).mono ?_
 rintro _ w' (⟨h1,rfl,h2⟩ | ⟨h1,k,nl,nn,h2,h3,rfl,h4⟩)
 ·exact ⟨_,_,_,_,[],rfl,rfl,.inl ⟨h1,rfl,rfl⟩,aB 1 (cE h2)⟩
 ·refine ⟨_,_,_,_,nn,rfl,h3.1,.inr ⟨h1,rfl,h3⟩,?_⟩
  have e:bv (nl ++ nn) = bv nl ++ (bv nn ++ ([] ++ [])):=by simp [bv]
  rw [e] at h4
  have:=d_ (pre:=bv nl) (vs:=bv nn) (cs:=[]) (post:=[]) (l:=g.N) (c:=g.N) (sz:=1) h4 (by rw [AE,h3.1,Tp]) (by rw [S6,AE,h3.1,Tp]) (SF _)
  rw [AE,h2] at this
  exact this
end
end Go.Proofs.YtngdohpikfcifaaGreatDoor
