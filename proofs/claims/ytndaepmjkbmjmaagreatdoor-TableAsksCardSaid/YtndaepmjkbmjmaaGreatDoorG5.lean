/- Texts of this claim, one behind the other. -/
import Derived.Test.YtndaepmjkbmjmaaGreatDoorG4
import Derived.Test.YtndaepmjkbmjmaaGreatDoorG1
import Derived.Test.YtndaepmjkbmjmaaGreatDoorG3
import Derived.LaidEql
set_option linter.unusedVariables false
set_option linter.unusedSectionVars false
set_option maxRecDepth 100000
set_option maxHeartbeats 16000000
namespace Go.V
end Go.V
namespace Go.Proofs.YtndaepmjkbmjmaaGreatDoor
end Go.Proofs.YtndaepmjkbmjmaaGreatDoor
open Go.V Go.Proofs.YtndaepmjkbmjmaaGreatDoor
namespace Go.V
def F5 (g:af) (ss:List SQ) (m:List (au × Value)) (i:Nat):Prop:=∀ t:au,assoc t m = if t∈(bm g ss).take i then some (.int .i64 (((bm g ss).idxOf t:Int) + 1)) else none
def Mx (ss:List SQ) (m:List (au × Value)) (i:Nat) (es:List aP):Prop:=∀ k:au,assoc k m =
 if k.st < 0 then none else if k.st.toNat < i then (eW ss k.st.toNat k.sym).map (λj=>Value.int .i64 (j + 1)) else if k.st.toNat = i then (es.find? λe=>decide (e.sym = k.sym)).map (λe=>Value.int .i64 (e.to + 1)) else none
section
variable {g:af} {ss:List SQ} {m:List (au × Value)} {i:Nat}
theorem F5.start:F5 g ss [] 0:=λt=>by simp [assoc]
theorem F5.step (hA:bn g ss) (h:F5 g ss m i) {t:au} (ht:(bm g ss)[i]? = some t):F5 g ss (bK t (.int .i64 ((i:Int) + 1)) m) (i + 1):=λu=>by
 rw [dC,h u,Wz,ht]
 by_cases e:u = t
 ·subst e
  rw [WJ rfl,WJ (by simp),OS (OR hA) ht]
 ·rw [WB e]; simp [e]
theorem F5.all (h:F5 g ss m (bm g ss).length) (t:au):(assoc t m).getD (.int .i64 0) = .int .i64 (vX g ss t):=by
 rw [h t,WT]
 unfold vX
 split <;> rfl
theorem Mx.start:Mx ss [] 0 []:=λk=>by simp [assoc]
theorem Mx.step {es:List aP} (h:Mx ss m i es) {e:aP} (hn:e.sym∉es.map (·.sym)):Mx ss (bK ⟨(i:Int),e.sym⟩ (.int .i64 (e.to + 1)) m) i (es ++ [e]):=λk=>by
 rw [dC,h k,Er hn]
 by_cases hk:k = ⟨(i:Int),e.sym⟩
 ·subst hk
  simp
 ·rw [WB hk]
  split
  ·rfl
  ·split
   ·rfl
   ·split
    ·have:k.sym≠e.sym:=λh=>hk (by cases k; simp at *; omega)
     rw [WB this]
    ·rfl
theorem Mx.next {q:SQ} (hq:ss[i]? = some q) (h:Mx ss m i q.2.2):Mx ss m (i + 1) []:=λk=>by
 rw [h k]
 split
 ·rfl
 ·by_cases h1:k.st.toNat < i
  ·rw [WJ h1,WJ (by omega)]
  ·rw [WB h1]
   by_cases h2:k.st.toNat = i
   ·rw [WJ h2,WJ (by omega),h2,om hq,Option.map_map]; rfl
   ·rw [WB h2,WB (by omega)]; simp
theorem Mx.all (h:Mx ss m ss.length []) (k:au):(assoc k m).getD (.int .i64 0) = .int .i64 (TF ss k):=by
 rw [h k]
 unfold TF
 by_cases h0:k.st < 0
 ·rw [WJ h0,WJ h0]; rfl
 ·rw [WB h0,WB h0]
  split
  ·cases eW ss k.st.toNat k.sym <;> rfl
  ·have:eW ss k.st.toNat k.sym = none:=by unfold eW; rw [WR (by omega)]
   rw [this]; simp
end
abbrev UZ (x:GA) (o:YB) (n c:Nat) (a int:Int) (ol:YB) (nl cl ka kt:Nat) (on:YB) (nn cn kp:Nat):List Value:=x.cells ++ [.slice o n c,.int .i64 a,.int .i64 int,.slice ol nl cl,.map (some ka),.map (some kt),.slice on nn cn,.map (some kp)]
structure OW (h:Hp) (g:af) (ss:List SQ) (nn:List Bool) (k:Nat):Prop where
 ex:∃ (x:GA) (o:YB) (c:Nat) (a int:Int) (ol:YB) (cl ka kt:Nat) (on:YB) (cn kp:Nat) (ma mt:List (au × Value)) (mp:List (Int × Value)),
  av h (aM k) (UZ x o ss.length c a int ol (bm g ss).length cl ka kt on g.N cn kp)/\gR h g x/\xE h ss o/\a_ h (bm g ss) ol (bm g ss).length/\mapA ka ma h/\F5 g ss ma (bm g ss).length/\mapA kt mt h/\Mx ss mt ss.length []/\a_ h nn on g.N/\mapA kp mp h /\
  ∀ s:Int,∃ (a:YB) (c:Nat),(assoc s mp).getD (.slice none 0 0) = .slice a (Db g g.prods.length s).length c/\a_ h ((Db g g.prods.length s).map Int.ofNat) a (Db g g.prods.length s).length
theorem OW.mono {h h' : Hp} {g:af} {ss:List SQ} {nn:List Bool} {k:Nat} (s:sub h h') (r:OW h g ss nn k):OW h' g ss nn k:=by
 obtain ⟨x,o,c,a,int,ol,cl,ka,kt,on,cn,kp,ma,mt,mp,h1,h2,h3,h4,h5,h6,h7,h8,h9,h10,h11⟩:=r.ex
 exact ⟨x,o,c,a,int,ol,cl,ka,kt,on,cn,kp,ma,mt,mp,h1.mono s,h2.mono s,h3.mono s,h4.mono s,dI s h5,h6,dI s h7,h8,h9.mono s,dI s h10,λz=>by obtain ⟨a,c,e,r⟩:=h11 z; exact ⟨a,c,e,r.mono s⟩⟩
end Go.V
namespace Go.Proofs.YtndaepmjkbmjmaaGreatDoor
variable {w:YC} {L:List ay} {g:af} {x:GA}
theorem JY (hg:gR (hp w) g x) (hb:ik g) (ht:eF (hp w)):aA Tryz.prog HU [.agg ⟨x.cells⟩] w λv w'=>∃ (ss:List SQ) (ask int f:Int) (p:YB),v = .tuple #[.pointer p,.int .i64 f]/\qY g ss ask int f/\Gr w w'/\(f = 0->∃ (k:Nat) (nn:List Bool),p = some (aM k)/\jb g nn/\OW (hp w') g ss nn k)/\(f≠0->p = none):=by
 refine DF (cN hg λk1 w1 gw hg B=>?_)
 refine ⟨_,_,_,_,_,_,_,_,_,_,_,_,_,B.row (sub.refl _),(Cn hg hb).mono ?_⟩
 rintro _ w2 ⟨o,c,ss,ask,int,f,rfl,hR,h⟩
 have g12:Gr w1 w2:=aU 3 h.l
 have hs:=ui h.l
 clear h
 refine ⟨_,_,_,_,_,_,rfl,ah (St.all w2) λk12 w3 h=>bu h rfl (by simp [aV]) λw4 h=>ae (λh1=>?_) λh1=>?_⟩
 ·have h1:f≠0:=by simpa using h1
  exact ⟨ss,ask,int,f,none,rfl,hR,gw.trans (g12.trans h.aZ),λh=>absurd h h1,λ_=>rfl⟩
 have h1:f = 0:=by simpa using h1
 subst h1
 obtain ⟨hc,hA⟩:=hR.Mv rfl
 have hkl:=hA.yX hc
 have h256:=hA.dn.2.1
 have hTn:=xH (g:=g) (λq hq=>(hkl q hq).2) ss.length
 have g24:Gr w2 w4:=h.aZ
 have r12:av (hp w4) (aM k12) [.slice o ss.length c,.int .i64 ask,.int .i64 int]:=ai 0 h.l
 clear h
 have g14:=g12.trans g24
 have hg4:=hg.mono g14
 have ht4:eF (hp w4):=eJ.mono (gw.trans g14) ht
 have hs:=hs.mono g24
 have B4:∀ {u:YC},sub (hp w4) (hp u)->V.rowAt u ⟨k1,0,none⟩ 0 5 = some x.cells:=λs=>B.row (sub.trans g14 s)
 have pl:=hg.p.1
 have hgw:=hg
 obtain ⟨_,_,_,b4,_,_,_⟩:=id hb
 refine ⟨_,_,_,_,_,_,_,_,_,_,_,_,_,B4 (sub.refl _),_,_,_,_,_,r12.at (sub.refl _) rfl,?_⟩
 refine ml (St.all w4) λka w5 h=>?_
 have h:=dD (κ:=au) h
 refine ml h λkt w6 h=>?_
 have h:=dD (κ:=au) h
 refine ml h λkp w7 h=>?_
 have h:=dD (κ:=Int) h
 refine ah (vs:=UZ x o ss.length c ask int none 0 0 ka kt none 0 0 kp) h λkm w8 h=>?_
 have g48:Gr w4 w8:=aU 4 h.l
 refine ⟨_,_,_,_,_,_,_,_,_,_,_,_,_,B4 g48,(OD (hg4.mono g48) hb).mono ?_⟩
 rintro _ w9 ⟨ss2,ask2,int2,f2,ol,cl,rfl,hR2,h2⟩
 obtain ⟨_,hes,_,_,rfl,_⟩:=hR.one hR2
 rw [<- tn hes] at h2 ⊢
 have h:=St.qk h2 h.l
 clear h2
 have rL:a_ (hp w9) (bm g ss) ol (bm g ss).length:=A2 rfl (fB 0 h.l)
 have h:St w9 (aK km (UZ x o ss.length c ask int none 0 0 ka kt none 0 0 kp) :: own 2 ol (bm g ss).length cl (Eo (bm g ss)) :: mapA kp ([] : List (Int × Value)) :: mapA kt ([] : List (au × Value)) :: mapA ka ([] : List (au × Value)) :: all w4):=h.pick 2 [1,0]
 refine ⟨_,_,_,_,rfl,bj h (show 8 < 13 by decide) λw10 ha=>?_⟩
 have h:St w10 (aK km (UZ x o ss.length c ask int ol (bm g ss).length cl ka kt none 0 0 kp) :: own 2 ol (bm g ss).length cl (Eo (bm g ss)) :: mapA kp ([] : List (Int × Value)) :: mapA kt ([] : List (au × Value)) :: mapA ka ([] : List (au × Value)) :: all w4):=ha
 clear ha
 have g410:Gr w4 w10:=aU 5 h.l
 refine ⟨_,_,_,_,_,_,_,_,_,_,_,_,_,B4 g410,(HY (hg4.mono g410) hb (eJ.mono g410 ht4)).mono ?_⟩
 rintro _ w11 ⟨on,n1,cn,e1,nn,rfl,hnl,hNR,h2⟩
 have h:=St.qk h2 h.l
 clear h2
 have hnn:jb g nn:=by
  rcases hNR with ⟨h1,_⟩ | ⟨_,_,h1⟩
  ·exact absurd (.inr hc) h1
  ·exact h1
 have hnN:n1 = g.N:=by rw [<- hnl]; exact hnn.1
 subst hnN
 refine ⟨_,_,_,_,rfl,bj (h.pick 2 [1,0]) (show 11 < 13 by decide) λw12 ha=>?_⟩
 obtain ⟨C,hC⟩ : ∃ C,C = UZ x o ss.length c ask int ol (bm g ss).length cl ka kt on g.N cn kp:=⟨_,rfl⟩
 have h:St w12 (aK km C :: own 1 on g.N cn (bv nn) :: own 2 ol (bm g ss).length cl (Eo (bm g ss)) :: mapA kp ([] : List (Int × Value)) :: mapA kt ([] : List (au × Value)) :: mapA ka ([] : List (au × Value)) :: all w4):=by rw [hC]; exact ha
 clear ha
 have c8:C[8]? = some (.slice ol (bm g ss).length cl):=by rw [hC]; rfl
 have c9:C[9]? = some (.map (some ka)):=by rw [hC]; rfl
 have c10:C[10]? = some (.map (some kt)):=by rw [hC]; rfl
 have c12:C[12]? = some (.map (some kp)):=by rw [hC]; rfl
 have hTL:(bm g ss).length<=ss.length * 130:=hTn
 refine ⟨_,_,_,(ai 0 h.l).cell (sub.refl _) (j:=8) c8,λz w'=>∃ (i:Nat) (ma:List (au × Value)),z = i/\i<=(bm g ss).length/\F5 g ss ma i/\St w' (mapA ka ma :: aK km C :: own 1 on g.N cn (bv nn) :: own 2 ol (bm g ss).length cl (Eo (bm g ss)) :: mapA kp ([] : List (Int × Value)) :: mapA kt ([] : List (au × Value)) :: all w4),λz _=>(bm g ss).length - z.toNat,
  ⟨0,[],rfl,WC _,.start,h.pick 6 [5,0,1,2,3,4]⟩,?_⟩
 clear h
 rintro _ _ w13 ⟨i,ma,rfl,hi,hN,h⟩
 refine ae (λh1=>?_) λh1=>?_
 ·have h1:i < (bm g ss).length:=by have:=Wr h1; omega
  have rT:a_ (hp w13) (bm g ss) ol (bm g ss).length:=A2 rfl (fB 3 h.l)
  obtain ⟨t,tad,ht,hta,rt⟩:=tj rT h1
  refine aq hta h1 ⟨_,_,rt.at (sub.refl _) rfl,ah h λk49 w14 h=>bu h rfl (by simp [aV]) λw15 h=>?_⟩
  intro w16 hd
  have h:=h.eq (aB hd)
  have r49:av (hp w16) (aM k49) [.int .i64 t.st,.int .i64 t.sym]:=ai 0 h.l
  have rk:av (hp w16) (aM km) C:=ai 2 h.l
  refine ⟨λu=>Gr w16 u,Gr.refl _,_,λu s=>rk.cell s (j:=9) c9,_,_,λu s=>r49.at s rfl,⟨by omega,by omega⟩,(mo (κ:=au) aQ (rfl:aj Ty _ = .map _ _) ew (h.pick 2 [1]) t _).mono ?_⟩
  rintro _ w19 h
  exact ⟨⟨by omega,by omega⟩,⟨i + 1,_,by simp,h1,hN.step hA ht,h⟩,bx h1⟩
 have h1:i = (bm g ss).length:=by have:=Ws h1; omega
 subst h1
 have s13:sub (hp w4) (hp w13):=aU 6 h.l
 refine ⟨_,_,_,r12.cell0 s13,λz w'=>∃ (i:Nat) (mt:List (au × Value)),z = i/\i<=ss.length/\Mx ss mt i []/\St w' (mapA kt mt :: mapA ka ma :: aK km C :: own 1 on g.N cn (bv nn) :: own 2 ol (bm g ss).length cl (Eo (bm g ss)) :: mapA kp ([] : List (Int × Value)) :: all w4),λz _=>ss.length - z.toNat,
  ⟨0,[],rfl,WC _,.start,h.pick 6 [5,0,1,2,3,4]⟩,?_⟩
 clear h s13
 rintro _ _ w20 ⟨i,mt,rfl,hi,hW,h⟩
 have s20:sub (hp w4) (hp w20):=aU 6 h.l
 refine ae (λh1=>?_) λh1=>?_
 ·have h1:i < ss.length:=by have:=Wr h1; omega
  obtain ⟨q,hq⟩ : ∃ q,ss[i]? = some q:=⟨_,Wv h1⟩
  obtain ⟨ad,eo,rs,_,re⟩:=hs i q hq
  have hql:=(hkl q (Wu hq)).2
  have hnd:=Cr hA hq
  refine aq eo h1 ⟨_,_,_,_,_,_,rs.at s20 rfl,ah h λk56 w21 h=>bu h rfl (by simp [aV]) λw22 h=>?_⟩
  have r56:av (hp w22) (aM k56) (Qh q):=ai 0 h.l
  refine ⟨_,_,_,r56.cell (sub.refl _) (j:=1) rfl,λz w'=>∃ (k:Nat) (mt:List (au × Value)),z = k/\k<=q.2.2.length/\Mx ss mt i (q.2.2.take k)/\St w' (mapA kt mt :: mapA ka ma :: aK km C :: own 1 on g.N cn (bv nn) :: own 2 ol (bm g ss).length cl (Eo (bm g ss)) :: mapA kp ([] : List (Int × Value)) :: all w4),λz _=>q.2.2.length - z.toNat,
   ⟨0,mt,rfl,WC _,hW,h.pick 7 [1,2,3,4,5,6]⟩,?_⟩
  clear h hW
  rintro _ _ w23 ⟨k,mt,rfl,hk,hW,h⟩
  have s23:sub (hp w4) (hp w23):=aU 6 h.l
  refine ae (λh2=>?_) λh2=>?_
  rotate_left
  ·have h2:k = q.2.2.length:=by have:=Ws h2; omega
   subst h2
   rw [WT] at hW
   exact ⟨⟨by omega,by omega⟩,⟨i + 1,mt,by simp,h1,hW.next hq,h⟩,bx h1⟩
  have h2:k < q.2.2.length:=by have:=Wr h2; omega
  obtain ⟨e,ead,he,hea,red⟩:=lr re h2
  obtain ⟨_,_,j,r',hj,hj1,hr',_⟩:=fm hc hA hq he
  have hjl:=(Wt.1 hr').1
  refine aq hea h2 ⟨_,_,red.at s23 rfl,ah h λk34 w11 h=>bu h rfl (by simp [aV]) λw12 h=>?_⟩
  intro w26 hd
  have h:=h.eq (aB hd)
  have r34:av (hp w26) (aM k34) [.int .i64 e.sym,.int .i64 e.to]:=ai 0 h.l
  have rk:av (hp w26) (aM km) C:=ai 3 h.l
  refine ⟨λu=>Gr w26 u,Gr.refl _,_,λu s=>rk.cell s (j:=10) c10,_,λu s=>r34.cell0 s,_,λu s=>r34.cell s (j:=1) rfl,⟨by omega,by omega⟩,(mo (κ:=au) aQ (rfl:aj Ty _ = .map _ _) ew (h.pick 2 [1]) ⟨(i:Int),e.sym⟩ _).mono ?_⟩
  rintro _ w30 h
  have ht:q.2.2.take (k + 1) = q.2.2.take k ++ [e]:=by rw [Wz,he]; rfl
  have hn:e.sym∉(q.2.2.take k).map (·.sym):=λhm=>by
   have e1:q.2.2.map (·.sym) = (q.2.2.take k).map (·.sym) ++ e.sym :: (q.2.2.drop (k + 1)).map (·.sym):=by
    rw [<- Xf,<- WZ]
    congr 1
    have:=WX (k + 1) q.2.2
    rw [ht] at this
    simpa using this.symm
   rw [e1,Xb] at hnd
   exact hnd.2.2 _ hm _ (by simp) rfl
  have hW:=hW.step hn
  rw [<- ht] at hW
  exact ⟨⟨by omega,by omega⟩,⟨k + 1,_,by simp,h2,hW,h⟩,bx h2⟩
 have h1:i = ss.length:=by have:=Ws h1; omega
 subst h1
 have h:=h.pick 6 [5,0,1,2,3,4]
 refine ⟨_,_,_,B.c4 (sub.trans g14 s20),λz w'=>∃ (j:Nat) (ps:List (Int × Lq Int)),z = j/\j<=x.pl/\(∀ s,gq s ps = (Db g j s).map Int.ofNat)/\St w' (aK km C :: mapA kp (mV ps) :: aG (mO 1 iv ps) :: mapA kt mt :: mapA ka ma :: own 1 on g.N cn (bv nn) :: own 2 ol (bm g ss).length cl (Eo (bm g ss)) :: all w4),λz _=>x.pl - z.toNat,
  ⟨0,[],rfl,WC _,λs=>rfl,?_⟩,?_⟩
 ·have h:=(St.flat (M:=[])).2 h
  exact h.pick 7 [4,1,0,2,3,5,6]
 clear h
 rintro _ _ w31 ⟨j,ps,rfl,hj,hps,h⟩
 have s31:sub (hp w4) (hp w31):=aU 7 h.l
 refine ae (λh1=>?_) λh1=>?_
 rotate_left
 ·have h1:j = x.pl:=by have:=Ws h1; omega
  subst h1
  rw [<- pl] at hps
  refine ⟨ss,ask,int,0,some (aM km),rfl,hR,gw.trans (g14.trans s31),λ_=>⟨km,nn,rfl,hnn,x,o,c,ask,int,ol,cl,ka,kt,on,cn,kp,ma,mt,mV ps,by rw [<- hC]; exact ai 0 h.l,hg4.mono s31,hs.mono s31,A2 rfl (fB 6 h.l),?_,hN,?_,hW,kU hnl (fB 5 h.l),?_,λs=>?_⟩,λh=>absurd rfl h⟩
  ·obtain ⟨hm,sm,hA2⟩:=Qg 4 h.l; exact dI sm hA2
  ·obtain ⟨hm,sm,hA2⟩:=Qg 3 h.l; exact dI sm hA2
  ·obtain ⟨hm,sm,hA2⟩:=Qg 1 h.l; exact dI sm hA2
  have e:=hps s
  cases hq:c_ s ps with
  | none =>
   have e0:gq s ps = []:=by unfold gq; rw [hq]
   rw [e0] at e
   have e1:Db g g.prods.length s = []:=List.map_eq_nil_iff.1 e.symm
   rw [gv,hq,e1]
   exact ⟨none,0,rfl,a_.nil⟩
  | some q =>
   have e0:gq s ps = q.2:=by unfold gq; rw [hq]
   rw [e0] at e
   obtain ⟨hq1,sq,ho⟩:=K3 (bw (bw h.l)) hq
   have hl:q.2.length = (Db g g.prods.length s).length:=by rw [e,WE]
   refine ⟨q.1.1,q.1.2,by rw [gv,hq]; show dO q = _; unfold dO; rw [hl],?_⟩
   rw [<- e,<- hl]
   exact (dS rfl (cf ho)).mono sq
 have h1:j < x.pl:=by have:=Wr h1; omega
 obtain ⟨p,ad,vs,hp1,hpa,hp2,ra,rl,rc,rfl,hrc,hp3⟩:=hgw.p.get h1
 refine aq hpa h1 ⟨_,_,_,_,_,hp2.at (sub.trans g14 s31) rfl,ah h λk64 w32 h=>bu h rfl (by simp [aV]) λw33 h=>ae (λh3=>?_) λh3=>?_⟩
 rotate_left
 ·have h3:¬0 < j:=by have:=Ws h3; omega
  exact ⟨⟨by omega,by omega⟩,⟨j + 1,ps,by simp,h1,λs=>by rw [CB hp1,WB (λh=>h3 h.2),W2]; exact hps s,h.pick 8 [1,2,3,4,5,6,7]⟩,bx h1⟩
 have h3:0 < j:=by have:=Wr h3; omega
 intro w34 hd
 have h:=h.eq (aB hd)
 have cm:∀ {u:YC} {L' : List ay},St u (aK km C :: L')->u.cell? ((aM km).add 12) = some (.map (some kp)):=λh=>(ai 0 h.l).cell (sub.refl _) (j:=12) c12
 have cp:∀ {u:YC} {L' : List ay},St u (aK k64 [.int .i64 p.left,.slice ra rl rc,.int .i64 p.level] :: L')->u.cell? (aM k64) = some (.int .i64 p.left):=λh=>(ai 0 h.l).cell0 (sub.refl _)
 refine ⟨λu=>u.cell? ((aM km).add 12) = some (.map (some kp))/\u.cell? (aM k64) = some (.int .i64 p.left),⟨cm (h.pick 2 [1]),cp h⟩,_,λu hu=>hu.1,_,λu hu=>hu.2,_,λu hu=>hu.1,_,λu hu=>hu.2,?_,?_⟩
 ·refine (bZ (κ:=Int) aQ (rfl:aj Ty _ = .map _ _) bB rfl rfl (h.pick 3 [2]) p.left).mono ?_
  rintro _ _ ⟨rfl,rfl⟩
  obtain ⟨q,M,e1,e2,hq,back⟩:=mu rfl (h.pick 4 [3,0,1,2]) p.left
  have hql:q.2.length<=j:=by rw [e2,hps,WE]; exact A4 _ _ _
  refine ⟨_,_,_,e1,⟨cm (hq.pick 4 [3]),cp (hq.pick 3 [2])⟩,ah hq λk19 w13 h=>⟨⟨cm (h.pick 5 [4]),cp (h.pick 4 [3])⟩,?_⟩⟩
  refine (aN (us:=iv q.2) aQ (rfl:aj Ty _ = .slice _) (rfl:aj Ty _ = .slice _) rfl rfl rfl h rfl (by simp [aV]) (by show (q.2.length + 1) * 8<=_; omega) (by omega)).mono ?_
  rintro _ w14 ⟨o,c',rfl,h⟩
  refine ⟨_,_,_,rfl,⟨cm (h.pick 5 [4]),cp (h.pick 4 [3])⟩,(cW (κ:=Int) aQ (rfl:aj Ty _ = .map _ _) bB (h.pick 6 [5,0,2,4]) p.left _).mono ?_⟩
  rintro _ w15 h
  have h:=vK back (q.2 ++ [(j:Int)]) (by simp) (by simp [iv]) h
  exact ⟨⟨by omega,by omega⟩,⟨j + 1,_,by simp,h1,λs=>by rw [jN,CB hp1,e2,hps]; by_cases e:s = p.left <;> simp [e,hps,h3],h.pick 3 [2,0,1]⟩,bx h1⟩
 ·refine ah h λk22 w16 h=>⟨⟨cm (h.pick 3 [2]),cp (h.pick 2 [1])⟩,(bZ (κ:=Int) aQ (rfl:aj Ty _ = .map _ _) bB rfl rfl (h.pick 4 [3]) p.left).mono ?_⟩
  rintro _ _ ⟨rfl,rfl⟩
  obtain ⟨q,M,e1,e2,hq,back⟩:=mu rfl (h.pick 5 [4,0,1,2,3]) p.left
  have hql:q.2.length<=j:=by rw [e2,hps,WE]; exact A4 _ _ _
  refine ⟨_,_,_,e1,⟨cm (hq.pick 5 [4]),cp (hq.pick 4 [3])⟩,?_⟩
  refine (aN (us:=iv q.2) aQ (rfl:aj Ty _ = .slice _) (rfl:aj Ty _ = .slice _) rfl rfl rfl (hq.pick 3 [2,0,1]) rfl (by simp [aV]) (by show (q.2.length + 1) * 8<=_; omega) (by omega)).mono ?_
  rintro _ w14 ⟨o,c',rfl,h⟩
  refine ⟨_,_,_,rfl,⟨cm (h.pick 5 [4]),cp (h.pick 4 [3])⟩,(cW (κ:=Int) aQ (rfl:aj Ty _ = .map _ _) bB (h.pick 6 [5,0,2,4]) p.left _).mono ?_⟩
  rintro _ w15 h
  have h:=vK back (q.2 ++ [(j:Int)]) (by simp) (by simp [iv]) h
  exact ⟨⟨by omega,by omega⟩,⟨j + 1,_,by simp,h1,λs=>by rw [jN,CB hp1,e2,hps]; by_cases e:s = p.left <;> simp [e,hps,h3],h.pick 3 [2,0,1]⟩,bx h1⟩
end Go.Proofs.YtndaepmjkbmjmaaGreatDoor
namespace Go.V
def bW (n:Nat) (P:Nat->Int->Prop) (B k:Nat) (L:List ay) (w:YC):Prop:=∃ (o:YB) (c:Nat) (es:List (Lq Int)),es.length = n/\(∀ i q,es[i]? = some q->(∀ z,z∈q.2↔P i z)/\q.2.length<=B)/\St w (aK k [.slice o n c] :: own 1 o n c (es.map dO) :: aG (es.map (dp 1 iv)) :: L)
theorem bW.iff {n B k:Nat} {P Q:Nat->Int->Prop} {L:List ay} {w:YC} (h:bW n P B k L w) (hpq:∀ i z,i < n->(P i z↔Q i z)):bW n Q B k L w:=by
 obtain ⟨o,c,es,h1,h2,h3⟩:=h
 refine ⟨o,c,es,h1,λi q hq=>⟨λz=>?_,(h2 i q hq).2⟩,h3⟩
 rw [(h2 i q hq).1 z,hpq i z (by rw [<- h1]; exact (Wt.1 hq).1)]
theorem bW.gr {n B k:Nat} {P:Nat->Int->Prop} {L:List ay} {w w' : YC} (h:bW n P B k L w) (g:Gr w w'):bW n P B k L w':=by
 obtain ⟨o,c,es,h1,h2,h3⟩:=h
 exact ⟨o,c,es,h1,h2,h3.gr g⟩
theorem bW.gw {n B k:Nat} {P:Nat->Int->Prop} {w0 w:YC} (h:bW n P B k (all w0) w):Gr w0 w:=by
 obtain ⟨o,c,es,h1,h2,h3⟩:=h
 exact aU 3 h3.l
def OX (n:Nat) (P:Nat->Int->Prop) (ds:List (Lq Int)):Prop:=ds.length = n/\∀ i q,ds[i]? = some q->jc q.2/\∀ z,z∈q.2↔P i z
end Go.V
namespace Go.Proofs.YtndaepmjkbmjmaaGreatDoor
variable {w:YC} {L:List ay} {g:af} {x:GA}
theorem OY {n a B k:Nat} {b:Int} {P:Nat->Int->Prop} (h:bW n P B k L w) (ha:a < n) (hB:(B + 1) * 8<=140737488355328):aA Tryz.prog bh [.int .i64 (a:Int),.int .i64 b,.pointer (some (aM k))] w λv w'=>v = .tuple (Array.mk [])/\bW n (λi z=>P i z\/i = a/\z = b) (B + 1) k L w':=by
 refine mY ?_
 intro w1 hd
 have h:=h.gr (Gr.drawn hd)
 obtain ⟨o,c,es,hes,hrow,h⟩:=h
 obtain ⟨q,hq⟩ : ∃ q,es[a]? = some q:=⟨_,Wv (by omega)⟩
 have hqB:=(hrow a q hq).2
 have hA:(es.map (dp 1 iv))[a]? = some (dp 1 iv q):=by rw [Wx,hq]; rfl
 have hV:(es.map dO)[a]? = some (dO q):=by rw [Wx,hq]; rfl
 have h:=St.out (h.pick 3 [2,0,1]) hA
 have h:St w1 (own 1 q.1.1 q.2.length q.1.2 (iv q.2) :: aG ((es.map (dp 1 iv)).eraseIdx a) :: aK k [.slice o n c] :: own 1 o n c (es.map dO) :: L):=h
 obtain ⟨ad,rfl,hco⟩:=cV (h.pick 4 [3]) hV
 refine ⟨λu=>u.cell? (aM k) = some (.slice (some ad) n c)/\u.cell? (ad.add a) = some (dO q),⟨(ai 2 h.l).cell0 (sub.refl _),hco⟩,_,_,_,λu hu=>hu.1,_,_,_,λu hu=>hu.1,aw rfl ha ⟨_,_,_,λu hu=>hu.2,ah h λk7 w5 h=>?_⟩⟩
 have cc:∀ {u:YC} {L' : List ay},St u (own 1 (some ad) n c (es.map dO) :: L')->u.cell? (ad.add a) = some (dO q):=λh=>by
  obtain ⟨ad',e,hc⟩:=cV h hV
  cases e; exact hc
 refine ⟨⟨(ai 3 h.l).cell0 (sub.refl _),cc (h.pick 5 [4])⟩,?_⟩
 refine (aN (us:=iv q.2) aQ (rfl:aj Ty _ = .slice _) (rfl:aj Ty _ = .slice _) rfl rfl rfl h rfl (by simp [aV]) (by show (q.2.length + 1) * 8<=_; omega) (by omega)).mono ?_
 rintro _ w6 ⟨o',c',rfl,h⟩
 refine ⟨_,_,_,rfl,⟨(ai 3 h.l).cell0 (sub.refl _),cc (h.pick 5 [4])⟩,aw rfl ha (pf (h.pick 5 [4,0,2,3]) rfl (by rw [WE]; omega) λw7 h=>?_)⟩
 refine ⟨rfl,some ad,c,es.set a ((o',c'),q.2 ++ [b]),by rw [W1]; exact hes,λi r hr=>?_,?_⟩
 ·by_cases e:a = i
  ·subst e
   rw [X_ (by omega)] at hr
   cases hr
   refine ⟨λz=>?_,by simp; omega⟩
   show z∈q.2 ++ [b]↔_
   rw [Wy,(hrow a q hq).1 z,WW]
   simp
  ·rw [Yi e] at hr
   obtain ⟨r1,r2⟩:=hrow i r hr
   refine ⟨λz=>?_,by omega⟩
   rw [r1 z]
   exact ⟨.inl,λh=>h.resolve_right λh=>e h.1.symm⟩
 ·have e1:(.slice o' (q.2.length + 1) c' : Value) = dO (((o',c'),q.2 ++ [b]):Lq Int):=by simp [dO]
  have e2:own 1 o' (q.2.length + 1) c' (iv q.2 ++ [.int .i64 b]) = dp 1 iv (((o',c'),q.2 ++ [b]):Lq Int):=by simp [dp,iv]
  have h:St w7 (own 1 (some ad) n c ((es.map dO).set a (.slice o' (q.2.length + 1) c')) :: own 1 o' (q.2.length + 1) c' (iv q.2 ++ [.int .i64 b]) :: aG ((es.map (dp 1 iv)).eraseIdx a) :: aK k [.slice (some ad) n c] :: L):=h
  rw [e1,<- Xy] at h
  have h:=St.back (B:=own 1 o' (q.2.length + 1) c' (iv q.2 ++ [.int .i64 b])) (h.pick 4 [1,2,0,3]) hA
  rw [e2,<- Xy] at h
  exact h.pick 3 [2,1,0]
theorem Ld {n k:Nat} {ss:List SQ} {nn:List Bool} {fg:FuncId} {fc:List Value} {P:Nat->Int->Prop} (hw:OW (hp w) g ss nn k) (hn:(bm g ss).length = n) (hn2:n<=33280) (hF:Fn fg = true)
  (hE:∀ (k4:Nat) (w0:YC),bW n (λ_ _=>False) 0 k4 (all w) w0->aA Tryz.prog fg (.func (.func bh) (Array.mk []) (Array.mk [.pointer (some (aM k4))]) :: fc) w0 λv w'=>v = .tuple (Array.mk [])/\∃ B,B<=4611686018427387/\bW n P B k4 (all w) w') :
  aA Tryz.prog uU [.pointer (some (aM k)),.func (.func fg) (Array.mk []) (Array.mk fc)] w λv w'=>∃ (o:YB) (c:Nat) (ds:List (Lq Int)),v = .slice o n c/\OX n P ds/\St w' (own 1 o n c (ds.map dO) :: aG (ds.map (dp 1 iv)) :: all w):=by
 obtain ⟨x,o,c,a,int,ol,cl,ka,kt,on,cn,kp,ma,mt,mp,rk,hg,hs,rT,_,_,_,_,_,_,_⟩:=hw.ex
 rw [hn] at rk
 refine q_ ⟨_,_,_,rk.cell (sub.refl _) (j:=8) rfl,⟨by omega,rfl,by omega⟩,?_⟩
 rw [WQ]
 have e0:jB n [(Value.slice none 0 0:Value)] = (List.replicate n (((none,0),[]):Lq Int)).map dO:=by rw [de]; simp [dO]
 rw [e0]
 refine ah (St.all w) λk3 w1 h=>ah h λk4 w2 h=>bj h (by simp) λw3 h=>bJ.2 ⟨hF,?_⟩
 have h:St w3 (aK k4 [.slice (some (aM k3)) n n] :: aK k3 ((List.replicate n (((none,0),[]):Lq Int)).map dO) :: all w):=h
 have h:St w3 (own 1 (some (aM k3)) n n ((List.replicate n (((none,0),[]):Lq Int)).map dO) :: aK k4 [.slice (some (aM k3)) n n] :: all w):=iD (cs:=[]) (show St w3 (aK k3 ((List.replicate n (((none,0),[]):Lq Int)).map dO ++ []) :: aK k4 [.slice (some (aM k3)) n n] :: all w) by rw [W2]; exact h.pick 2 [1,0]) (by simp) (by simp) (WO _)
 have h:=xl (A:=dp 1 iv ((none,0),[])) (λw L h=>az 1 h) n h
 rw [<- List.map_replicate] at h
 have hR0:bW n (λ_ _=>False) 0 k4 (all w) w3:=by
  refine ⟨_,_,List.replicate n (((none,0),[]):Lq Int),by simp,λi q hq=>?_,h.pick 3 [2,1,0]⟩
  rw [XM] at hq
  split at hq
  ·cases hq; simp
  ·cases hq
 clear h
 refine (hE k4 w3 hR0).mono ?_
 rintro _ w4 ⟨rfl,B,hB,o4,c4,es,hes,hrow,h⟩
 refine ⟨rfl,_,_,_,(ai 0 h.l).cell0 (sub.refl _),λz w'=>∃ (i:Nat) (es:List (Lq Int)),z = i/\i<=n/\es.length = n/\(∀ j q,es[j]? = some q->(∀ z,z∈q.2↔P j z)/\q.2.length<=B/\(j < i->jc q.2))/\St w' (aK k4 [.slice o4 n c4] :: own 1 o4 n c4 (es.map dO) :: aG (es.map (dp 1 iv)) :: all w),λz _=>n - z.toNat,
  ⟨0,es,rfl,WC _,hes,λj q hq=>⟨(hrow j q hq).1,(hrow j q hq).2,λh=>absurd h (by omega)⟩,h⟩,?_⟩
 clear h hrow hes
 rintro _ _ w5 ⟨i,es,rfl,hi,hes,hrow,h⟩
 refine ae (λh1=>?_) λh1=>?_
 rotate_left
 ·have h1:i = n:=by have:=Ws h1; omega
  refine ⟨_,_,_,(ai 0 h.l).cell0 (sub.refl _),o4,c4,es,rfl,⟨hes,λj q hq=>?_⟩,h.pick 3 [1,2]⟩
  obtain ⟨q1,q2,q3⟩:=hrow j q hq
  exact ⟨q3 (by have:=(Wt.1 hq).1; omega),q1⟩
 have h1:i < n:=by have:=Wr h1; omega
 obtain ⟨q,hq⟩ : ∃ q,es[i]? = some q:=⟨_,Wv (by omega)⟩
 obtain ⟨hqP,hqB,_⟩:=hrow i q hq
 have hA:(es.map (dp 1 iv))[i]? = some (dp 1 iv q):=by rw [Wx,hq]; rfl
 have hV:(es.map dO)[i]? = some (dO q):=by rw [Wx,hq]; rfl
 have h:=St.out (h.pick 3 [2,0,1]) hA
 have h:St w5 (own 1 q.1.1 q.2.length q.1.2 (iv q.2) :: aG ((es.map (dp 1 iv)).eraseIdx i) :: aK k4 [.slice o4 n c4] :: own 1 o4 n c4 (es.map dO) :: all w):=h
 obtain ⟨ad,rfl,hco⟩:=cV (h.pick 4 [3]) hV
 have cc:∀ {u:YC} {L' : List ay},St u (own 1 (some ad) n c4 (es.map dO) :: L')->u.cell? (ad.add i) = some (dO q):=λh=>by
  obtain ⟨ad',e,hc⟩:=cV h hV
  cases e; exact hc
 refine ⟨_,_,_,(ai 2 h.l).cell0 (sub.refl _),aw rfl h1 ⟨_,_,_,hco,(KY h (by omega)).mono ?_⟩⟩
 rintro _ w6 ⟨rfl,h⟩
 refine ⟨rfl,?_⟩
 intro w7 hd
 have h:=h.eq (aB hd)
 generalize hso:(q.2.mergeSort λx y=>decide (x<=y)) = so at h
 have hsm:∀ z,z∈so↔z∈q.2:=λz=>by rw [<- hso]; exact List.mem_mergeSort
 have hsr:so.Pairwise (·<=·):=by
  have:=List.pairwise_mergeSort (le:=λx y:Int=>decide (x<=y)) (λa b c h1 h2=>by simp at *; omega) (λa b=>by simp; omega) q.2
  rw [hso] at this
  exact this.imp λh=>Wr h
 have hsl:so.length = q.2.length:=by rw [<- hso]; exact List.length_mergeSort _
 refine ⟨λu=>u.cell? (aM k4) = some (.slice (some ad) n c4)/\u.cell? (ad.add i) = some (dO q),⟨(ai 2 h.l).cell0 (sub.refl _),cc (h.pick 4 [3])⟩,_,_,_,λu hu=>hu.1,_,_,_,λu hu=>hu.1,aw rfl h1 ⟨_,_,_,λu hu=>hu.2,(JU h (by omega)).mono ?_⟩⟩
 rintro _ w11 ⟨a',c',rfl,h⟩
 refine ⟨_,_,_,rfl,⟨(ai 2 h.l).cell0 (sub.refl _),cc (h.pick 4 [3])⟩,dr (gp (fa h) ?_)⟩
 have h:=gn h
 refine ⟨_,_,_,rfl,⟨(ai 2 h.l).cell0 (sub.refl _),cc (h.pick 4 [3])⟩,aw rfl h1 (pf (h.pick 4 [3,0,1,2]) rfl (by rw [WE]; omega) λw13 h=>?_)⟩
 have hdl:=JS so
 refine ⟨⟨by omega,by omega⟩,⟨i + 1,es.set i ((gE a' 0 (dd so).length 1,(dd so).length),dd so),by simp,h1,by rw [W1]; exact hes,λj r hr=>?_,?_⟩,bx h1⟩
 ·by_cases e:i = j
  ·subst e
   rw [X_ (by omega)] at hr
   cases hr
   refine ⟨λz=>?_,by show (dd so).length<=B; omega,λ_=>FW hsr⟩
   show z∈dd so↔_
   rw [FV,hsm,hqP z]
  ·rw [Yi e] at hr
   obtain ⟨r1,r2,r3⟩:=hrow j r hr
   exact ⟨r1,r2,λh=>r3 (by omega)⟩
 ·have e1:(.slice (gE a' 0 (dd so).length 1) (dd so).length (dd so).length:Value) = dO (((gE a' 0 (dd so).length 1,(dd so).length),dd so):Lq Int):=rfl
  have h:St w13 (own 1 (some ad) n c4 ((es.map dO).set i (.slice (gE a' 0 (dd so).length 1) (dd so).length (dd so).length)) :: own 1 (gE a' 0 (dd so).length 1) (dd so).length (dd so).length (iv (dd so)) :: aG ((es.map (dp 1 iv)).eraseIdx i) :: aK k4 [.slice (some ad) n c4] :: all w):=h
  rw [e1,<- Xy] at h
  have h:=St.back (B:=own 1 (gE a' 0 (dd so).length 1) (dd so).length (dd so).length (iv (dd so))) (h.pick 4 [1,2,0,3]) hA
  rw [show own 1 (gE a' 0 (dd so).length 1) (dd so).length (dd so).length (iv (dd so)) = dp 1 iv (((gE a' 0 (dd so).length 1,(dd so).length),dd so):Lq Int) from rfl,<- Xy] at h
  exact h.pick 3 [2,1,0]
end Go.Proofs.YtndaepmjkbmjmaaGreatDoor
namespace Go.V
section
variable {g:af} {ss:List SQ} {nn:List Bool}
theorem F6 {s:Int} (h:uO g nn s = true):(g.T:Int)<=s:=by
 unfold uO at h
 rw [WL] at h
 exact Wr h.1
def M0 (g:af) (nn:List Bool) (ss:List SQ) (j0:Nat) (es:List aP) (z:Int):Prop:=∃ e∈es,uO g nn e.sym = true/\vX g ss ⟨(j0:Int),e.sym⟩ = z + 1
theorem M0.snoc {j0:Nat} {es:List aP} {e:aP} {z:Int}:M0 g nn ss j0 (es ++ [e]) z↔M0 g nn ss j0 es z\/(uO g nn e.sym = true/\vX g ss ⟨(j0:Int),e.sym⟩ = z + 1):=by
 unfold M0
 constructor
 ·rintro ⟨e',he',h⟩
  rw [Wy,WW] at he'
  rcases he' with he' | rfl
  ·exact .inl ⟨e',he',h⟩
  ·exact .inr h
 ·rintro (⟨e',he',h⟩ | h)
  ·exact ⟨e',by simp [he'],h⟩
  ·exact ⟨e,by simp,h⟩
theorem M0.all (hc:ak g) (hA:bn g ss) {i j0:Nat} {t:au} {r:SQ} (ht:(bm g ss)[i]? = some t) (hnx:eW ss t.st.toNat t.sym = some (j0:Int)) (hr:ss[j0]? = some r) (z:Int):M0 g nn ss j0 r.2.2 z↔z∈bX (bm g ss).length (iR g nn ss i):=by
 rw [cK]
 constructor
 ·rintro ⟨e,he,h1,h2⟩
  have hpos:0 < vX g ss ⟨(j0:Int),e.sym⟩:=by
   obtain ⟨k,hk⟩:=W3 he
   have:=FR hr hk (F6 h1)
   rw [A5 hA this]; omega
  obtain ⟨u,hu,hu2⟩:=xM hA hpos
  refine ⟨u,by omega,(Wt.1 hu2).1,?_⟩
  unfold iR
  rw [ht,hu2]
  simp [hnx,h1]
 ·rintro ⟨u,rfl,hu,h⟩
  unfold iR at h
  rw [ht,Wv hu] at h
  simp only [WL,WH] at h
  obtain ⟨h1,h2⟩:=h
  have hu2:(bm g ss)[u]? = some (bm g ss)[u]:=Wv hu
  obtain ⟨i',q',k',e',hi',hq',he',hge,hte⟩:=iQ (Wu hu2)
  have e1:(i' : Int) = j0:=by
   rw [hnx] at h1
   have:=Option.some.inj h1
   rw [hte] at this
   exact this.symm
  have e1:i' = j0:=by omega
  subst e1
  rw [hr] at hq'; cases hq'
  refine ⟨e',Wu he',by rw [hte] at h2; exact h2,?_⟩
  rw [<- hte,A5 hA hu2]
end
end Go.V
namespace Go.Proofs.YtndaepmjkbmjmaaGreatDoor
variable {w:YC} {L:List ay} {g:af} {x:GA} {ss:List SQ} {nn:List Bool}
theorem TL {t:au} {j0:Nat} (h0:0<=t.st) (h:eW ss t.st.toNat t.sym = some (j0:Int)):TF ss t = (j0:Int) + 1:=by
 unfold TF; rw [WB (by omega),h]
theorem My {n kw kc k1 k4:Nat} {w0:YC} (hw:OW (hp w) g ss nn kw) (hcl:ak g) (hA:bn g ss) (hnn:jb g nn) (hkc:av (hp w) (aM kc) [.pointer (some (aM kw))]) (B:GB (hp w) k1 x) (hTl:g.T = x.tl) (hn:(bm g ss).length = n) (hn2:n<=33280)
  (hR:bW n (λ_ _=>False) 0 k4 (all w) w0) :
  aA Tryz.prog xO [.func (.func bh) (Array.mk []) (Array.mk [.pointer (some (aM k4))]),.pointer (some (aM kc)),.pointer (some (aM k1))] w0 λv w'=>v = .tuple (Array.mk [])/\∃ B,B<=4611686018427387/\bW n (λi z=>z∈bX n (iR g nn ss i)) B k4 (all w) w':=by
 obtain ⟨x',o,c,a,int,ol,cl,ka,kt,on,cn,kp,ma,mt,mp,rk,hg,hs,rT,hma,hN,hmt,hTo,rN,_,_⟩:=hw.ex
 rw [hn] at rk rT
 have hkl:=hA.yX hcl
 obtain ⟨sT,sN,sP,_,_,_⟩:=hcl.ct
 have h256:=hA.dn.2.1
 have g0:Gr w w0:=hR.gw
 refine uW ⟨_,hkc.cell0 g0,_,_,_,rk.cell g0 (j:=8) rfl,λz w'=>∃ (i B:Nat),z = i/\i<=n/\B<=i * 130/\bW n (λj z=>j < i/\z∈bX n (iR g nn ss j)) B k4 (all w) w',λz _=>n - z.toNat,
  ⟨0,0,rfl,WC _,WC _,hR.iff λj z _=>⟨λh=>h.elim,λh=>absurd h.1 (by omega)⟩⟩,?_⟩
 clear hR
 rintro _ _ w1 ⟨i,B0,rfl,hi,hB0,hR⟩
 have g1:Gr w w1:=hR.gw
 refine ae (λh1=>?_) λh1=>?_
 rotate_left
 ·have h1:i = n:=by have:=Ws h1; omega
  subst h1
  exact ⟨rfl,B0,by omega,hR.iff λj z hj=>⟨λh=>h.2,λh=>⟨hj,h⟩⟩⟩
 have h1:i < n:=by have:=Wr h1; omega
 obtain ⟨t,tad,ht,hta,rt⟩:=tj rT h1
 obtain ⟨i0,q0,k0,e0,hi0,hq0,he0,hge,hte⟩:=iQ (Wu ht)
 have hnx:eW ss t.st.toNat t.sym = some e0.to:=by rw [hte]; exact oq hA hq0 he0
 obtain ⟨hto1,hto2⟩:=iP hcl hA hnx
 obtain ⟨j0,hj0⟩ : ∃ j0:Nat,e0.to = j0:=⟨e0.to.toNat,by omega⟩
 rw [hj0] at hnx hto2
 have hto:j0 < ss.length:=by omega
 obtain ⟨r,hr⟩ : ∃ r,ss[j0]? = some r:=⟨_,Wv hto⟩
 have hrl:=(hkl r (Wu hr)).2
 have hst0:0<=t.st:=by rw [hte]; exact W7 _
 have hk:TF ss t = (j0:Int) + 1:=TL hst0 hnx
 obtain ⟨o9,c9,es,hes,hrow,h⟩:=hR
 refine aq hta h1 ⟨_,_,rt.at g1 rfl,ah h λk3 w2 h=>bu h rfl (by simp [aV]) λw3 h=>?_⟩
 intro w4 hd
 have h:=h.eq (aB hd)
 have g4:Gr w w4:=aU 4 h.l
 have r3:av (hp w4) (aM k3) [.int .i64 t.st,.int .i64 t.sym]:=ai 0 h.l
 refine ⟨λu=>Gr w4 u,Gr.refl _,_,λu s=>hkc.cell0 (sub.trans g4 s),_,λu s=>rk.cell (sub.trans g4 s) (j:=10) rfl,_,_,λu s=>r3.at s rfl,(dj (κ:=au) hmt g4 aQ (rfl:aj Ty _ = .map _ _) ew rfl rfl t).mono ?_⟩
 rintro _ w8 ⟨rfl,e8⟩
 rw [e8,hTo.all,hk]
 obtain ⟨sad,eo,rs,_,re⟩:=hs j0 r hr
 have e9:((j0:Int) + 1) - 1 = (j0:Int):=by omega
 refine ⟨_,rfl,Gr.refl _,⟨by omega,by omega⟩,_,hkc.cell0 g4,_,_,_,rk.cell g4 (j:=5) rfl,?_⟩
 rw [e9]
 have hR:bW n (λj z=>j < i/\z∈bX n (iR g nn ss j)) B0 k4 (all w) w4:=⟨o9,c9,es,hes,hrow,h.pick 4 [1,2,3]⟩
 clear h hrow
 refine aq eo hto ⟨_,_,_,rs.cell g4 (j:=1) rfl,λz w'=>∃ (k B1:Nat),z = k/\k<=r.2.2.length/\B1<=B0 + k/\bW n (λj z=>j < i/\z∈bX n (iR g nn ss j)\/j = i/\M0 g nn ss j0 (r.2.2.take k) z) B1 k4 (all w) w',λz _=>r.2.2.length - z.toNat,
  ⟨0,B0,rfl,WC _,WO _,hR.iff λj z _=>⟨.inl,λh=>h.elim id λh=>by obtain ⟨_,e,he,_⟩:=h; simp at he⟩⟩,?_⟩
 clear hR
 rintro _ _ w9 ⟨k,B1,rfl,hk2,hB1,hR⟩
 have g9:Gr w w9:=hR.gw
 refine ae (λh2=>?_) λh2=>?_
 rotate_left
 ·have h2:k = r.2.2.length:=by have:=Ws h2; omega
  rw [h2,WT] at hR
  refine ⟨⟨by omega,by omega⟩,⟨i + 1,B1,by simp,h1,by omega,hR.iff λj z _=>?_⟩,bx h1⟩
  rw [M0.all hcl hA ht hnx hr,hn]
  constructor
  ·rintro (⟨h1,h2⟩ | ⟨rfl,h2⟩)
   ·exact ⟨by omega,h2⟩
   ·exact ⟨by omega,h2⟩
  ·rintro ⟨h1,h2⟩
   by_cases e:j = i
   ·exact .inr ⟨e,by rw [e] at h2; exact h2⟩
   ·exact .inl ⟨by omega,h2⟩
 have h2:k < r.2.2.length:=by have:=Wr h2; omega
 obtain ⟨e,ead,he,hea,red⟩:=lr re h2
 have htk:r.2.2.take (k + 1) = r.2.2.take k ++ [e]:=by rw [Wz,he]; rfl
 obtain ⟨hs1,hs2,_⟩:=fm hcl hA hr he
 obtain ⟨o10,c10,es10,hes10,hrow10,h⟩:=hR
 refine aq hea h2 ⟨_,_,red.at g9 rfl,ah h λk8 w10 h=>bu h rfl (by simp [aV]) λw11 h=>?_⟩
 intro w12 hd2
 have h:=h.eq (aB hd2)
 have g12:Gr w w12:=aU 4 h.l
 have r8:av (hp w12) (aM k8) [.int .i64 e.sym,.int .i64 e.to]:=ai 0 h.l
 have hR:bW n (λj z=>j < i/\z∈bX n (iR g nn ss j)\/j = i/\M0 g nn ss j0 (r.2.2.take k) z) B1 k4 (all w) w12:=⟨o10,c10,es10,hes10,hrow10,h.pick 4 [1,2,3]⟩
 have skip:uO g nn e.sym≠true->ax ((k:Int) + 1)/\(∃ (k' B1' : Nat),(k:Int) + 1 = k'/\k'<=r.2.2.length/\B1'<=B0 + k'/\bW n (λj z=>j < i/\z∈bX n (iR g nn ss j)\/j = i/\M0 g nn ss j0 (r.2.2.take k') z) B1' k4 (all w) w12)/\r.2.2.length - ((k:Int) + 1).toNat < r.2.2.length - (k:Int).toNat:=λhv=>by
  refine ⟨⟨by omega,by omega⟩,⟨k + 1,B1,by simp,h2,by omega,hR.iff λj z _=>?_⟩,bx h2⟩
  rw [htk,M0.snoc]
  simp [hv]
 refine ⟨λu=>Gr w12 u,Gr.refl _,_,λu s=>r8.cell0 s,_,_,_,λu s=>B.c0 (sub.trans g12 s),ae (λh3=>?_) λh3=>skip λhv=>?_⟩
 rotate_left
 ·have:=F6 hv
  have:=Ws h3
  omega
 have h3:(g.T:Int)<=e.sym:=by rw [hTl]; exact Wr h3
 obtain ⟨m,hm⟩ : ∃ m:Nat,e.sym - (x.tl:Int) = m:=⟨(e.sym - (x.tl:Int)).toNat,by omega⟩
 have hmN:m < g.N:=by omega
 have hvan:uO g nn e.sym = aO nn m:=by
  unfold uO
  rw [W4 h3,X9,show e.sym.toNat - g.T = m by omega]
 obtain ⟨bb,hbb⟩ : ∃ bb,nn[m]? = some bb:=⟨_,Wv (by rw [hnn.1]; exact hmN)⟩
 have hfn:aO nn m = bb:=by unfold aO; rw [Ww,hbb]; rfl
 obtain ⟨bb',bad,hb1,hba,hb2⟩:=rN.cF hmN
 rw [hbb] at hb1; cases hb1
 refine ⟨_,λu s=>hkc.cell0 (sub.trans g12 s),_,_,_,λu s=>rk.cell (sub.trans g12 s) (j:=11) rfl,_,λu s=>r8.cell0 s,_,_,_,λu s=>B.c0 (sub.trans g12 s),⟨by omega,by omega⟩,?_⟩
 rw [hm]
 refine aw hba hmN ⟨bb,λu s=>hb2 _ (sub.trans g12 s),ae (λh4=>?_) λh4=>skip (by rw [hvan,hfn,h4]; simp)⟩
 subst h4
 have hat:=FR hr he h3
 obtain ⟨u0,hu0,hu1⟩:=xM hA (t:=⟨(j0:Int),e.sym⟩) (by rw [A5 hA hat]; omega)
 have hul:u0 < n:=by rw [<- hn]; exact (Wt.1 hu1).1
 intro w20 hd3
 have h:=h.eq (aB hd3)
 have g20:Gr w w20:=aU 4 h.l
 have r8:av (hp w20) (aM k8) [.int .i64 e.sym,.int .i64 e.to]:=ai 0 h.l
 have hR:=hR.gr (Gr.drawn hd3)
 refine ⟨λu=>Gr w20 u,Gr.refl _,_,λu s=>hkc.cell0 (sub.trans g20 s),_,λu s=>rk.cell (sub.trans g20 s) (j:=9) rfl,_,λu s=>r8.cell0 s,(dj (κ:=au) hma g20 aQ (rfl:aj Ty _ = .map _ _) ew rfl rfl ⟨(j0:Int),e.sym⟩).mono ?_⟩
 rintro _ w24 ⟨rfl,e24⟩
 rw [e24,hN.all,hu0]
 have e25:((u0:Int) + 1) - 1 = (u0:Int):=by omega
 refine ⟨_,rfl,Gr.refl _,⟨by omega,by omega⟩,bJ.2 ⟨rfl,?_⟩⟩
 rw [e25]
 refine (OY (a:=i) hR h1 (by omega)).mono ?_
 rintro _ w25 ⟨rfl,hR⟩
 refine ⟨rfl,⟨by omega,by omega⟩,⟨k + 1,B1 + 1,by simp,h2,by omega,hR.iff λj z _=>?_⟩,bx h2⟩
 rw [htk,M0.snoc,hu0]
 constructor
 ·rintro ((h | h) | ⟨rfl,rfl⟩)
  ·exact .inl h
  ·exact .inr ⟨h.1,.inl h.2⟩
  ·exact .inr ⟨rfl,.inr ⟨by rw [hvan,hfn],rfl⟩⟩
 ·rintro (h | ⟨rfl,h | h⟩)
  ·exact .inl (.inl h)
  ·exact .inl (.inr ⟨rfl,h⟩)
  ·exact .inr ⟨rfl,by omega⟩
end Go.Proofs.YtndaepmjkbmjmaaGreatDoor
namespace Go.V
theorem OX.list {n:Nat} {f:Nat->Nat->Bool} {ds:List (Lq Int)} (h:OX n (λi z=>z∈bX n (f i)) ds):ds.map (·.2) = (List.range n).map λi=>bX n (f i):=by
 obtain ⟨h1,h2⟩:=h
 apply Xs
 intro i
 rw [Wx,Wx]
 by_cases hi:i < n
 ·have hd:ds[i]? = some ds[i]:=Wv (by omega)
  rw [hd,XV hi]
  obtain ⟨r1,r2⟩:=h2 i _ hd
  exact congrArg some (xK r1 (oy n (f i)) r2)
 ·rw [WR (by omega),WR (by simp; omega)]; rfl
theorem bW.has {n B k:Nat} {P:Nat->Int->Prop} {h0 h1:Hp} {w:YC} (h:bW n P B k [V.has h1] w) (s:sub h0 h1):bW n P B k [V.has h0] w:=by
 obtain ⟨o,c,es,h2,h3,h4⟩:=h
 exact ⟨o,c,es,h2,h3,zT (L:=[_,_,_]) (M:=[V.has h1]) (N:=[V.has h0]) (λh hs=>bC (sub.trans s (jf hs))) h4⟩
theorem bW.VN {n B k:Nat} {P:Nat->Int->Prop} {L:List ay} {w:YC} (h:bW n P B k L w):∃ h0,aC L h0/\sub h0 (hp w)/\bW n P B k [V.has h0] w:=by
 obtain ⟨o,c,es,q1,q2,h1,h2,d1,s1,s2,ha,h3,h4,d2,s3,s4,hb,h5,h6,d3,s5,s6,hc,hl⟩:=h
 exact ⟨h6,hl,s6.trans (s4.trans s2),o,c,es,q1,q2,h1,h2,d1,s1,s2,ha,h3,h4,d2,s3,s4,hb,h5,h6,d3,s5,s6,hc,bC (sub.refl _)⟩
theorem bW.sb {n B k:Nat} {P:Nat->Int->Prop} {h0:Hp} {w:YC} (h:bW n P B k [V.has h0] w):sub h0 (hp w):=by
 obtain ⟨o,c,es,h1,h2,h3⟩:=h
 exact aU 3 h3.l
section
variable {g:af} {ss:List SQ}
theorem Ey (hc:ak g) (hA:bn g ss) {i m:Nat} {q:SQ} {p:aH} (hq:ss[i]? = some q) (hp:g.prods[m]? = some p) (hy:nZ g q.1.2 ⟨(m:Int),0⟩):p.right.length<=256:=by
 obtain ⟨j,r,_,e2,e3⟩:=pH hc hA hp p.right.length 0 (by omega) i q hq (by simpa using hy)
 obtain ⟨_,_,_,hP2,_,_⟩:=hc.ct
 have hd:=(di (g:=g) (by omega) j).dots j _ (fl hA e2).1
 have hj:=(Wt.1 e2).1
 have h256:=hA.dn.2.1
 have:=e3.dot (d:=j) hd (W7 _)
 simp at this
 omega
theorem CE (hc:ak g) (hA:bn g ss) {i:Nat} {t:au} (ht:(bm g ss)[i]? = some t) {m:Nat} {p:aH} (hp:g.prods[m]? = some p) (hl:p.left = t.sym):∃ (i0:Nat) (q:SQ),t.st = i0/\ss[i0]? = some q/\nZ g q.1.2 ⟨(m:Int),0⟩:=by
 obtain ⟨i0,q0,k0,e0,hi0,hq0,he0,hge,hte⟩:=iQ (Wu ht)
 obtain ⟨_,_,j,r,_,_,hr,hrk,hne⟩:=fm hc hA hq0 he0
 obtain ⟨x,hx⟩:=XP _ hne
 obtain ⟨y,h1,h2,_⟩:=cJ.1 hx
 refine ⟨i0,q0,by rw [hte],hq0,.step h1 (by rw [h2]; omega) hp ?_⟩
 rw [hl,h2,hte]
theorem OZ (hc:ak g) (hA:bn g ss) {q:Int} {row:List Int} {k:Nat} {s:Int} (h0:0<=q) (h1:q < ss.length) (hs:row[k]? = some s):TF ss ⟨b9 ss q (row.take k),s⟩ - 1 = b9 ss q (row.take (k + 1)):=by
 have hn:∀ i s j,eW ss i s = some j->0<=j/\j < ss.length:=λi s j h=>iP hc hA h
 rw [bA hs,tp hn _ _ _ h0 h1]
 unfold TF
 rcases xI hn (row.take k) q h0 h1 with e | ⟨e1,e2⟩
 ·rw [e,WJ (by show (-1:Int) < 0; omega),WJ rfl]; rfl
 ·rw [WB (by show ¬b9 ss q (row.take k) < 0; omega),WB (by omega),jn]
  show (match eW ss (b9 ss q (row.take k)).toNat s with | some j=>j + 1 | none=>0) - 1 = _
  cases eW ss (b9 ss q (row.take k)).toNat s with
  | none=>rfl
  | some j=>show j + 1 - 1 = j; omega
end
end Go.V
namespace Go.Proofs.YtndaepmjkbmjmaaGreatDoor
variable {w:YC} {L:List ay} {g:af} {x:GA} {ss:List SQ} {nn:List Bool}
theorem tB (hc:ak g) (hA:bn g ss):(bm g ss).length<=33280:=by
 have hk:∀ q∈ss,q.2.2.length<=130:=λq hq=>(hA.yX hc q hq).2
 have h1:=xH (g:=g) hk ss.length
 have h2:=hA.dn.2.1
 show (uj g ss ss.length).length<=_
 omega
theorem RA (hg:gR (hp w) g x) (hb:ik g) (ht:eF (hp w)):aA Tryz.prog lB [.agg ⟨x.cells⟩] w λv w'=>∃ (ss:List SQ) (ask int f:Int) (nn:List Bool) (o:YB) (c:Nat) (ds:List (Lq Int)),v = .tuple #[.slice o ds.length c,.int .i64 f]/\qY g ss ask int f/\(f = 0->jb g nn)/\ds.map (·.2) = q8 g nn ss/\St w' (own 1 o ds.length c (ds.map dO) :: aG (ds.map (dp 1 iv)) :: all w):=by
 refine zd (cN hg λk1 w1 gw hg B=>?_)
 refine ⟨_,_,_,_,_,_,_,_,_,_,_,_,_,B.row (sub.refl _),(JY hg hb (eJ.mono gw ht)).mono ?_⟩
 rintro _ w2 ⟨ss,ask,int,f,p,rfl,hR,g2,h0,hn⟩
 refine ⟨_,_,rfl,ah (St.all w2) λk10 w3 h=>bj h (by simp) λw4 h=>?_⟩
 have g24:Gr w2 w4:=h.aZ
 have r10:av (hp w4) (aM k10) [.pointer p]:=ai 0 h.l
 clear h
 have g14:=g2.trans g24
 refine ae (λh1=>?_) λh1=>?_
 ·have h1:f≠0:=by simpa using h1
  have hz:ss = []:=by rcases hR with ⟨_,e,_⟩ | ⟨_,_,e,_⟩ | ⟨_,_,_,_,e⟩ <;> first | exact e | exact absurd e h1
  subst hz
  exact ⟨[],ask,int,f,[],none,0,[],rfl,hR,λh=>absurd h h1,rfl,az 1 ((St.flat (M:=[])).2 (St.here (gw.trans g14)))⟩
 have h1:f = 0:=by simpa using h1
 subst h1
 obtain ⟨hc,hA⟩:=hR.Mv rfl
 obtain ⟨k,nn,rfl,hnn,hw⟩:=h0 rfl
 have hw:=hw.mono g24
 have B4:GB (hp w4) k1 x:=⟨λs=>B.c0 (sub.trans g14 s),λs=>B.c1 (sub.trans g14 s),λs=>B.c2 (sub.trans g14 s),λs=>B.c3 (sub.trans g14 s),λs=>B.c4 (sub.trans g14 s),λs=>B.row (sub.trans g14 s)⟩
 have hnl:=tB hc hA
 refine ⟨_,r10.cell0 (sub.refl _),(Ld (P:=λi z=>z∈bX (bm g ss).length (iR g nn ss i)) hw rfl hnl rfl λk4 w0 hR0=>My hw hc hA hnn r10 B4 hg.t.1 rfl hnl hR0).mono ?_⟩
 rintro _ w5 ⟨o,c,ds,rfl,hds,h⟩
 have hdl:=hds.1
 refine ⟨_,_,_,rfl,ss,ask,int,0,nn,o,c,ds,by rw [hdl],hR,λ_=>hnn,hds.list,?_⟩
 rw [hdl]
 exact St.KM h (bC (gw.trans g14))
theorem RB {kw k1:Nat} {s:Int} (hw:OW (hp w) g ss nn kw) (hnn:jb g nn) (hc:ak g) (r1:av (hp w) (aM k1) [.pointer (some (aM kw))]) (hs0:0<=s) (hs1:s < g.T + g.N):aA Tryz.prog fp [.int .i64 s,.pointer (some (aM k1))] w λv w'=>v = .bool (!uO g nn s)/\Gr w w':=by
 obtain ⟨x',o,c,a,int,ol,cl,ka,kt,on,cn,kp,ma,mt,mp,rk,hg,hs,rT,hma,hN,hmt,hTo,rN,_,_⟩:=hw.ex
 obtain ⟨sT,sN,sP,_,_,_⟩:=hc.ct
 have hTl:g.T = x'.tl:=hg.t.1
 refine j5 ?_
 intro w1 hd
 have g1:Gr w w1:=Gr.drawn hd
 refine ⟨λu=>Gr w1 u,Gr.refl _,_,λu s=>r1.cell0 (sub.trans g1 s),_,_,_,λu s=>rk.cell0 (sub.trans g1 s),ae (λh3=>⟨?_,g1⟩) λh3=>?_⟩
 ·have h3:¬(g.T:Int)<=s:=by have:=Wr h3; omega
  unfold uO
  rw [Xm h3]; rfl
 have h3:(g.T:Int)<=s:=by have:=Ws h3; omega
 obtain ⟨m,hm⟩ : ∃ m:Nat,s - (x'.tl:Int) = m:=⟨(s - (x'.tl:Int)).toNat,by omega⟩
 have hmN:m < g.N:=by omega
 obtain ⟨bb,bad,hb1,hba,hb2⟩:=rN.cF hmN
 refine ⟨_,λu s=>r1.cell0 (sub.trans g1 s),_,_,_,λu s=>rk.cell (sub.trans g1 s) (j:=11) rfl,_,λu s=>r1.cell0 (sub.trans g1 s),_,_,_,λu s=>rk.cell0 (sub.trans g1 s),⟨by omega,by omega⟩,?_⟩
 rw [hm]
 refine aw hba hmN ⟨bb,λu s=>hb2 _ (sub.trans g1 s),?_,g1⟩
 unfold uO
 rw [W4 h3,X9,show s.toNat - g.T = m by omega]
 have hfn:aO nn m = bb:=ju hb1
 rw [hfn]
theorem JZ {kw l c:Nat} {a:YB} {row:List Int} (hw:OW (hp w) g ss nn kw) (hnn:jb g nn) (hc:ak g) (hr:a_ (hp w) row a l) (hl:l<=4611686018427387904) (hrow:∀ s∈row,0<=s/\s < g.T + g.N):aA Tryz.prog oB [.pointer (some (aM kw)),.slice a l c] w λv w'=>v = .bool (Az g nn row)/\Gr w w':=by
 refine mg (ah (St.all w) λk1 w1 h=>?_)
 have g1:Gr w w1:=h.aZ
 have r1:av (hp w1) (aM k1) [.pointer (some (aM kw))]:=ai 0 h.l
 clear h
 have hr:=hr.mono g1
 have hw:=hw.mono g1
 refine dc ?_
 have key:aA Tryz.prog eH [.slice a l c,.func (.func fp) #[] #[.pointer (some (aM k1))]] w1 λv w'=>(∃ n:Int,v = .int .i64 n/\(decide (0<=n) = !Az g nn row))/\Gr w1 w':=by
  refine dN ?_
  refine ⟨λn w'=>∃ j:Nat,n = j/\j<=l/\Az g nn (row.take j) = true/\Gr w1 w',λn _=>l - n.toNat,⟨0,rfl,by omega,rfl,Gr.refl _⟩,?_⟩
  rintro _ n w2 ⟨j,rfl,hj,ha,g2⟩
  refine ae (λh1=>?_) λh1=>?_
  ·have h1:j < l:=by have:=Wr h1; omega
   obtain ⟨y,ad,hy1,hya,hy2⟩:=hr.cF h1
   have hym:=Wu hy1
   refine aw hya h1 ⟨y,hy2 _ g2,bJ.2 ⟨rfl,(RB (hw.mono g2) hnn hc (r1.mono g2) (hrow y hym).1 (hrow y hym).2).mono ?_⟩⟩
   rintro _ w3 ⟨rfl,g3⟩
   refine ⟨_,rfl,ae (λh2=>⟨⟨_,rfl,?_⟩,g2.trans g3⟩) λh2=>⟨⟨by omega,by omega⟩,⟨j + 1,by simp,by omega,?_,g2.trans g3⟩,bx h1⟩⟩
   ·have hv:uO g nn y = false:=by simpa using h2
    have:Az g nn row = false:=by
     unfold Az
     refine Bool.eq_false_iff.2 λh=>?_
     have:=X5.1 h y hym
     rw [hv] at this; cases this
    rw [this]; simp
   ·unfold Az at ha ⊢
    rw [bA hy1,List.all_append,ha]
    simpa using h2
  ·have h1:j = l:=by have:=Ws h1; omega
   subst h1
   rw [WN (by have:=hr.1; omega)] at ha
   exact ⟨⟨_,rfl,by rw [ha]; rfl⟩,g2⟩
 refine key.mono ?_
 rintro _ w2 ⟨⟨n,rfl,hn⟩,g2⟩
 refine ⟨n,rfl,_,rfl,?_,g1.trans g2⟩
 rw [hn,Bool.not_not]
theorem Le {J:Nat->YC->Prop} {H:Hp} {kw l c:Nat} {a:YB} {row:List Int} {q:Int} {fg:FuncId} {fc:List Value} (hw:OW H g ss nn kw) (hc:ak g) (hA:bn g ss) (hr:a_ H row a l) (hl:l<=4611686018427387904) (h0:0<=q) (h1:q < ss.length) (hF:Fn fg = true)
  (hJ0:J 0 w) (hJs:∀ k u,J k u->sub H (hp u)) (hst:∀ (k:Nat) (u:YC) (s:Int),row[k]? = some s->J k u->aA Tryz.prog fg (.int .i64 (b9 ss q (row.take k)) :: .int .i64 (k:Int) :: fc) u λv u'=>v = .tuple (Array.mk [])/\J (k + 1) u') :
  aA Tryz.prog tz [.pointer (some (aM kw)),.int .i64 q,.slice a l c,.func (.func fg) (Array.mk []) (Array.mk fc)] w λv w'=>v = .int .i64 (b9 ss q row)/\J l w':=by
 obtain ⟨x',o,c',a',int,ol,cl,ka,kt,on,cn,kp,ma,mt,mp,rk,hg,hs,rT,hma,hN,hmt,hTo,rN,_,_⟩:=hw.ex
 have hrl:=hr.1
 have h256:=hA.dn.2.1
 have hn:∀ i s j,eW ss i s = some j->0<=j/\j < ss.length:=λi s j h=>iP hc hA h
 refine pM ⟨λst z w'=>∃ k:Nat,z = k/\k<=l/\st = b9 ss q (row.take k)/\J k w',λ_ z _=>l - z.toNat,⟨0,rfl,WC _,rfl,hJ0⟩,?_⟩
 rintro _ _ _ w1 ⟨k,rfl,hk,rfl,hJ⟩
 refine ae (λh2=>?_) λh2=>?_
 rotate_left
 ·have h2:k = l:=by have:=Ws h2; omega
  subst h2
  exact ⟨by rw [WN (by omega)],hJ⟩
 have h2:k < l:=by have:=Wr h2; omega
 have s1:=hJs _ _ hJ
 obtain ⟨y,ad,hy1,hya,hy2⟩:=hr.cF h2
 refine aw hya h2 ⟨y,hy2 _ s1,bJ.2 ⟨hF,(hst k w1 y hy1 hJ).mono ?_⟩⟩
 rintro _ w2 ⟨rfl,hJ⟩
 have s2:=hJs _ _ hJ
 refine ⟨rfl,_,rk.cell s2 (j:=10) rfl,(dj (κ:=au) hmt s2 aQ (rfl:aj Ty _ = .map _ _) ew rfl rfl ⟨b9 ss q (row.take k),y⟩).mono ?_⟩
 rintro _ w3 ⟨rfl,rfl⟩
 rw [hTo.all]
 have e:=OZ hc hA h0 h1 hy1
 have hw2:=xI hn (row.take (k + 1)) q h0 h1
 refine ⟨_,rfl,⟨by omega,by omega⟩,⟨by omega,by omega⟩,⟨k + 1,by simp,h2,e,hJ⟩,bx h2⟩
end Go.Proofs.YtndaepmjkbmjmaaGreatDoor
namespace Go.V
section
variable {g:af} {ss:List SQ} {nn:List Bool}
def HZ (g:af) (nn:List Bool) (ss:List SQ) (t:au) (p:aH) (k j:Nat):Prop:=∃ (k' : Nat) (s:Int),k' < k/\p.right[k']? = some s/\vX g ss ⟨b9 ss t.st (p.right.take k'),s⟩ = (j:Int) + 1/\Az g nn (p.right.drop (k' + 1)) = true
def xP (g:af) (nn:List Bool) (ss:List SQ) (t:au) (ms:List Nat) (j:Nat):Prop:=∃ m∈ms,∃ p,g.prods[m]? = some p/\HZ g nn ss t p p.right.length j
theorem HZ.succ {t:au} {p:aH} {k j:Nat} {s:Int} (hs:p.right[k]? = some s):HZ g nn ss t p (k + 1) j↔HZ g nn ss t p k j\/(vX g ss ⟨b9 ss t.st (p.right.take k),s⟩ = (j:Int) + 1/\Az g nn (p.right.drop (k + 1)) = true):=by
 unfold HZ
 constructor
 ·rintro ⟨k',s',h1,h2,h3⟩
  by_cases e:k' = k
  ·subst e; rw [hs] at h2; cases h2; exact .inr h3
  ·exact .inl ⟨k',s',by omega,h2,h3⟩
 ·rintro (⟨k',s',h1,h2⟩ | h)
  ·exact ⟨k',s',by omega,h2⟩
  ·exact ⟨k,s,by omega,hs,h⟩
theorem xP.snoc {t:au} {ms:List Nat} {m j:Nat} {p:aH} (hp:g.prods[m]? = some p):xP g nn ss t (ms ++ [m]) j↔xP g nn ss t ms j\/HZ g nn ss t p p.right.length j:=by
 unfold xP
 constructor
 ·rintro ⟨m',h1,p',h2,h3⟩
  rw [Wy,WW] at h1
  rcases h1 with h1 | rfl
  ·exact .inl ⟨m',h1,p',h2,h3⟩
  ·rw [hp] at h2; cases h2; exact .inr h3
 ·rintro (⟨m',h1,h⟩ | h)
  ·exact ⟨m',by simp [h1],h⟩
  ·exact ⟨m,by simp,p,hp,h⟩
theorem H0 (hA:bn g ss) {t:au} {j:Nat}:vX g ss t = (j:Int) + 1↔(bm g ss)[j]? = some t:=by
 constructor
 ·intro h
  obtain ⟨u,hu,hu2⟩:=xM hA (t:=t) (by omega)
  have:u = j:=by omega
  subst this; exact hu2
 ·exact A5 hA
theorem xP.iff (hA:bn g ss) {i j:Nat} {t:au} (ht:(bm g ss)[i]? = some t):xP g nn ss t (Db g g.prods.length t.sym) j↔xL g nn ss j i = true:=by
 unfold xL
 rw [ht]
 simp only [XL,WY,WL,WH]
 constructor
 ·rintro ⟨m,hm,p,hp,k,s,hk,hs,hn,hv⟩
  obtain ⟨h0,p',hp',hl⟩:=iT.1 hm
  rw [hp] at hp'; cases hp'
  refine ⟨m,(Wt.1 hp).1,by omega,?_⟩
  rw [hp]
  simp only [WL,WH,XL,WY]
  refine ⟨hl,k,hk,?_,hv⟩
  rw [(H0 hA).1 hn,Ww,hs]; rfl
 ·rintro ⟨m,hm,h0,h⟩
  cases hp:g.prods[m]? with
  | none=>rw [hp] at h; cases h
  | some p =>
   rw [hp] at h
   simp only [WL,WH,XL,WY] at h
   obtain ⟨hl,k,hk,hn,hv⟩:=h
   have hs:p.right[k]? = some p.right[k]:=Wv hk
   refine ⟨m,iT.2 ⟨by omega,p,hp,hl⟩,p,hp,k,_,hk,hs,?_,hv⟩
   rw [H0 hA,hn,Ww,hs]; rfl
def zh (g:af) (nn:List Bool) (ss:List SQ) (i:Nat) (j:Nat) (z:Int):Prop:=∃ (i' : Nat) (t:au),i' < i/\z = i'/\(bm g ss)[i']? = some t/\xP g nn ss t (Db g g.prods.length t.sym) j
theorem zh.succ {i j:Nat} {z:Int} {t:au} (ht:(bm g ss)[i]? = some t):zh g nn ss (i + 1) j z↔zh g nn ss i j z\/(z = i/\xP g nn ss t (Db g g.prods.length t.sym) j):=by
 unfold zh
 constructor
 ·rintro ⟨i',t',h1,h2,h3,h4⟩
  by_cases e:i' = i
  ·subst e; rw [ht] at h3; cases h3; exact .inr ⟨h2,h4⟩
  ·exact .inl ⟨i',t',by omega,h2,h3,h4⟩
 ·rintro (⟨i',t',h1,h2⟩ | ⟨h1,h2⟩)
  ·exact ⟨i',t',by omega,h2⟩
  ·exact ⟨i,t,by omega,h1,ht,h2⟩
theorem zh.all (hA:bn g ss) {j:Nat} {z:Int}:zh g nn ss (bm g ss).length j z↔z∈bX (bm g ss).length (xL g nn ss j):=by
 rw [cK]
 constructor
 ·rintro ⟨i,t,h1,h2,h3,h4⟩
  exact ⟨i,h2,h1,(xP.iff hA h3).1 h4⟩
 ·rintro ⟨i,h2,h1,h4⟩
  have h3:(bm g ss)[i]? = some (bm g ss)[i]:=Wv h1
  exact ⟨i,_,h1,h2,h3,(xP.iff hA h3).2 h4⟩
end
end Go.V
namespace Go.Proofs.YtndaepmjkbmjmaaGreatDoor
variable {w:YC} {L:List ay} {g:af} {x:GA} {ss:List SQ} {nn:List Bool}
theorem O0 {H:Hp} {n kw kc kr ke ki k4 i k rl rc B:Nat} {ra:YB} {row:List Int} {st s:Int} {P:Nat->Int->Prop} (hw:OW H g ss nn kw) (hnn:jb g nn) (hc:ak g) (hA:bn g ss) (r1:av H (aM kc) [.pointer (some (aM kw))]) (r2:av H (aM kr) [.slice ra rl rc]) (r3:av H (aM ke) [.func (.func bh) (Array.mk []) (Array.mk [.pointer (some (aM k4))])]) (r4:av H (aM ki) [.int .i64 (i:Int)])
  (hr:a_ H row ra rl) (hlc:rl<=rc) (hl:rl<=4611686018427387904) (hrow:∀ s∈row,0<=s/\s < g.T + g.N) (hs:row[k]? = some s) (hn:(bm g ss).length = n) (hn2:n<=33280) (hB:B<=4611686018427) (hR:bW n P B k4 [has H] w) :
  aA Tryz.prog oz [.int .i64 st,.int .i64 (k:Int),.pointer (some (aM kc)),.pointer (some (aM kr)),.pointer (some (aM ke)),.pointer (some (aM ki))] w λv w'=>v = .tuple (Array.mk [])/\∃ B',B'<=B + 1/\bW n (λj z=>P j z\/z = i/\vX g ss ⟨st,s⟩ = (j:Int) + 1/\Az g nn (row.drop (k + 1)) = true) B' k4 [has H] w':=by
 obtain ⟨x',o,c',a',int,ol,cl,ka,kt,on,cn,kp,ma,mt,mp,rk,hg,hss,rT,hma,hN,hmt,hTo,rN,_,_⟩:=hw.ex
 have hkl:k < rl:=by have:=hr.1; have:=(Wt.1 hs).1; omega
 have s0:=hR.sb
 refine me ?_
 intro w1 hd
 have hR:=hR.gr (Gr.drawn hd)
 have s1:=hR.sb
 obtain ⟨y,ad,hy1,hya,hy2⟩:=hr.cF hkl
 rw [hs] at hy1; cases hy1
 refine ⟨λu=>Gr w1 u,Gr.refl _,_,λu g=>r1.cell0 (sub.trans s1 g),_,λu g=>rk.cell (sub.trans s1 g) (j:=9) rfl,_,_,_,λu g=>r2.cell0 (sub.trans s1 g),aw hya hkl ⟨s,λu g=>hy2 _ (sub.trans s1 g),(dj (κ:=au) hma s1 aQ (rfl:aj Ty _ = .map _ _) ew rfl rfl ⟨st,s⟩).mono ?_⟩⟩
 rintro _ w6 ⟨rfl,e6⟩
 rw [hN.all]
 refine ⟨_,rfl,by rw [e6]; exact Gr.refl _,?_⟩
 intro w7 hd2
 have hR:=hR.gr (by rw [<- e6]; exact Gr.drawn hd2:Gr w1 w7)
 have s7:=hR.sb
 refine ⟨λu=>Gr w7 u,Gr.refl _,ae (λh1=>?_) λh1=>?_⟩
 rotate_left
 ·refine ⟨rfl,B,by omega,hR.iff λj z _=>⟨.inl,λh=>h.elim id λh=>?_⟩⟩
  have:=Ws h1
  omega
 have h1:=Wr h1
 obtain ⟨u0,hu0,hu1⟩:=xM hA h1
 have hul:u0 < n:=by rw [<- hn]; exact (Wt.1 hu1).1
 have ek:(k:Int) + 1 = ((k + 1:Nat):Int):=by omega
 refine ⟨_,λu g=>r1.cell0 (sub.trans s7 g),_,_,_,λu g=>r2.cell0 (sub.trans s7 g),⟨by omega,by omega⟩,?_⟩
 rw [ek]
 refine dG (by omega) hlc ((JZ (hw.mono s7) hnn hc ((hr.drop (k:=k + 1) (m:=rc) (by omega) hlc).mono s7) (by omega) λs hs=>hrow s (XH hs)).mono ?_)
 rintro _ w10 ⟨rfl,g10⟩
 have hR:=hR.gr g10
 have s10:=hR.sb
 refine ⟨_,rfl,g10,ae (λh2=>?_) λh2=>?_⟩
 rotate_left
 ·exact ⟨rfl,B,by omega,hR.iff λj z _=>⟨.inl,λh=>h.elim id λh=>by rw [h.2.2] at h2; cases h2⟩⟩
 have eu:vX g ss ⟨st,s⟩ - 1 = (u0:Int):=by omega
 refine ⟨_,_,r3.cell0 s10,⟨by omega,by omega⟩,_,r4.cell0 s10,bJ.2 ⟨rfl,?_⟩⟩
 rw [eu]
 refine (OY (a:=u0) hR hul (by omega)).mono ?_
 rintro _ w11 ⟨rfl,hR⟩
 refine ⟨rfl,rfl,B + 1,by omega,hR.iff λj z _=>?_⟩
 constructor
 ·rintro (h | ⟨rfl,rfl⟩)
  ·exact .inl h
  ·exact .inr ⟨rfl,hu0,h2⟩
 ·rintro (h | ⟨rfl,h,_⟩)
  ·exact .inl h
  ·exact .inr ⟨by omega,rfl⟩
theorem RC {n kw kc k1 k4:Nat} {w0:YC} (hw:OW (hp w) g ss nn kw) (hc:ak g) (hA:bn g ss) (hnn:jb g nn) (hkc:av (hp w) (aM kc) [.pointer (some (aM kw))]) (B:GB (hp w) k1 x) (hgx:gR (hp w) g x) (hn:(bm g ss).length = n) (hn2:n<=33280)
  (hR:bW n (λ_ _=>False) 0 k4 (all w) w0) :
  aA Tryz.prog tA [.func (.func bh) (Array.mk []) (Array.mk [.pointer (some (aM k4))]),.pointer (some (aM kc)),.pointer (some (aM k1))] w0 λv w'=>v = .tuple (Array.mk [])/\∃ B,B<=4611686018427387/\bW n (λj z=>z∈bX n (xL g nn ss j)) B k4 (all w) w':=by
 obtain ⟨x',o,c,a,int,ol,cl,ka,kt,on,cn,kp,ma,mt,mp,rk,hg,hs,rT,hma,hN,hmt,hTo,rN,hmp,hby⟩:=hw.ex
 rw [hn] at rk rT
 have hkl:=hA.yX hc
 obtain ⟨sT,sN,sP,_,_,_⟩:=hc.ct
 have h256:=hA.dn.2.1
 have pl:=hgx.p.1
 refine pR ?_
 obtain ⟨oo,co,es,q1,q2,h⟩:=hR
 refine ah h λke w1 h=>?_
 have hR:bW n (λ_ _=>False) 0 k4 (aK ke [.func (.func bh) (Array.mk []) (Array.mk [.pointer (some (aM k4))])] :: all w) w1:=⟨oo,co,es,q1,q2,h.pick 4 [1,2,3,0]⟩
 clear h q1 q2
 obtain ⟨he,hel,_,hR⟩:=hR.VN
 have rE:av he (aM ke) [.func (.func bh) (Array.mk []) (Array.mk [.pointer (some (aM k4))])]:=ai 0 hel
 have swe:sub (hp w) he:=aU 1 hel
 have s1:=sub.trans swe hR.sb
 refine ⟨_,hkc.cell0 s1,_,_,_,rk.cell s1 (j:=8) rfl,λz w'=>∃ (i B:Nat),z = i/\i<=n/\B<=i * 30000/\bW n (zh g nn ss i) B k4 [has he] w',λz _=>n - z.toNat,
  ⟨0,0,rfl,WC _,WC _,hR.iff λj z _=>⟨λh=>h.elim,λh=>by obtain ⟨_,_,h,_⟩:=h; omega⟩⟩,?_⟩
 clear hR s1
 rintro _ _ w2 ⟨i,B0,rfl,hi,hB0,hR⟩
 have s2:=sub.trans swe hR.sb
 refine ae (λh1=>?_) λh1=>?_
 rotate_left
 ·have h1:i = n:=by have:=Ws h1; omega
  subst h1
  refine ⟨rfl,B0,by omega,(hR.has swe).iff λj z _=>?_⟩
  rw [<- hn]; exact zh.all hA
 have h1:i < n:=by have:=Wr h1; omega
 obtain ⟨t,tad,ht,hta,rt⟩:=tj rT h1
 obtain ⟨i0,q0,k0,e0,hi0,hq0,he0,hge,hte⟩:=iQ (Wu ht)
 have hst0:0<=t.st:=by rw [hte]; exact W7 _
 have hst1:t.st < ss.length:=by rw [hte]; show (i0:Int) < _; omega
 obtain ⟨oo,co,es,q1,q2,h⟩:=hR
 refine aq hta h1 ⟨_,_,rt.at s2 rfl,ah h λki w3 h=>ah h λk5 w4 h=>bj (h.pick 2 [1,0]) (by simp) λw5 h=>bu (h.pick 2 [1,0]) rfl (by simp [aV]) λw6 h=>?_⟩
 have h:St w6 (aK k5 [.int .i64 t.st,.int .i64 t.sym] :: aK ki [.int .i64 (i:Int)] :: aK k4 [.slice oo n co] :: own 1 oo n co (es.map dO) :: aG (es.map (dp 1 iv)) :: [has he]):=h
 have hR:bW n (zh g nn ss i) B0 k4 (aK k5 [.int .i64 t.st,.int .i64 t.sym] :: aK ki [.int .i64 (i:Int)] :: [has he]) w6:=⟨oo,co,es,q1,q2,h.pick 5 [2,3,4,0,1]⟩
 clear h q1 q2
 intro w7 hd
 have hR:=hR.gr (Gr.drawn hd)
 obtain ⟨hi0,hil,_,hR⟩:=hR.VN
 have r5:av hi0 (aM k5) [.int .i64 t.st,.int .i64 t.sym]:=ai 0 hil
 have rI:av hi0 (aM ki) [.int .i64 (i:Int)]:=ai 1 hil
 have sei:sub he hi0:=aU 2 hil
 have s7:=hR.sb
 have sw7:=sub.trans swe (sub.trans sei s7)
 refine ⟨λu=>Gr w7 u,Gr.refl _,_,λu g=>hkc.cell0 (sub.trans sw7 g),_,λu g=>rk.cell (sub.trans sw7 g) (j:=12) rfl,_,λu g=>r5.cell (sub.trans s7 g) (j:=1) rfl,(dj (κ:=Int) hmp sw7 aQ (rfl:aj Ty _ = .map _ _) (sD.BQ bB) rfl rfl t.sym).mono ?_⟩
 rintro _ w11 ⟨rfl,e11⟩
 obtain ⟨ba,bc,hb1,hb2⟩:=hby t.sym
 rw [hb1]
 generalize hbs:Db g g.prods.length t.sym = bys at *
 have hbl:bys.length<=97:=by rw [<- hbs]; exact W0 (A4 _ _ _) sP
 refine ⟨_,_,_,rfl,by rw [e11]; exact Gr.refl _,λz w'=>∃ (m B:Nat),z = m/\m<=bys.length/\B<=B0 + m * 300/\bW n (λj z=>zh g nn ss i j z\/z = i/\xP g nn ss t (bys.take m) j) B k4 [has hi0] w',λz _=>bys.length - z.toNat,
  ⟨0,B0,rfl,WC _,by omega,by rw [e11]; exact hR.iff λj z _=>⟨.inl,λh=>h.elim id λh=>by obtain ⟨_,m,hm,_⟩:=h; simp at hm⟩⟩,?_⟩
 clear hR e11 hd s7 sw7
 rintro _ _ w12 ⟨m,B1,rfl,hm,hB1,hR⟩
 have s12:=hR.sb
 have sw12:=sub.trans swe (sub.trans sei s12)
 refine ae (λh2=>?_) λh2=>?_
 rotate_left
 ·have h2:m = bys.length:=by have:=Ws h2; omega
  rw [h2,WT] at hR
  refine ⟨⟨by omega,by omega⟩,⟨i + 1,B1,by simp,h1,by omega,(hR.has sei).iff λj z _=>?_⟩,bx h1⟩
  rw [zh.succ ht,hbs]
 have h2:m < bys.length:=by have:=Wr h2; omega
 obtain ⟨pm,hpm⟩ : ∃ pm,bys[m]? = some pm:=⟨_,Wv h2⟩
 obtain ⟨_,p,hp,hpl⟩:=iT.1 (hbs ▸ Wu hpm)
 have hpml:pm < x.pl:=by have:=(Wt.1 hp).1; omega
 have hpr:=Wu hp
 obtain ⟨i0',q',e1',hq',hcl'⟩:=CE hc hA ht hp hpl
 have hrl:=Ey hc hA hq' hp hcl'
 obtain ⟨bv,bad,hbv,hba,hbc⟩:=hb2.cF h2
 rw [Wx,hpm] at hbv
 cases hbv
 obtain ⟨p',pad,pvs,hp1,hpa,hp2,ra,rl,rc,rfl,hrc,hp3⟩:=hgx.p.get hpml
 rw [hp] at hp1; cases hp1
 have rl1:=hp3.1
 refine aw hba h2 ⟨_,hbc _ sw12,_,_,_,B.c4 sw12,aq hpa hpml ⟨_,_,_,hp2.cell sw12 (j:=1) rfl,?_⟩⟩
 obtain ⟨oo,co,es,q1,q2,h⟩:=hR
 refine ah h λkr w13 h=>bj h (by simp) λw14 h=>?_
 have hR:bW n (λj z=>zh g nn ss i j z\/z = i/\xP g nn ss t (bys.take m) j) B1 k4 (aK kr [.slice ra rl rc] :: [has hi0]) w14:=⟨oo,co,es,q1,q2,h.pick 4 [1,2,3,0]⟩
 clear h q1 q2
 obtain ⟨hm0,hml,_,hR⟩:=hR.VN
 have rR:av hm0 (aM kr) [.slice ra rl rc]:=ai 0 hml
 have sim:sub hi0 hm0:=aU 1 hml
 have s14:=hR.sb
 have swm:=sub.trans swe (sub.trans sei sim)
 have sw14:=sub.trans swm s14
 have hrow:∀ s∈p.right,0<=s/\s < g.T + g.N:=λs hs=>by have:=hc.sym hpr hs; omega
 refine ⟨_,hkc.cell0 sw14,_,r5.cell0 (sub.trans sim s14),_,_,_,rR.cell0 s14,(Le (J:=λk u=>∃ B',B'<=B1 + k/\bW n (λj z=>(zh g nn ss i j z\/z = i/\xP g nn ss t (bys.take m) j)\/z = i/\HZ g nn ss t p k j) B' k4 [has hm0] u) (hw.mono swm) hc hA (hp3.mono swm) (by omega) hst0 hst1 rfl
  ⟨B1,by omega,hR.iff λj z _=>⟨.inl,λh=>h.elim id λh=>by obtain ⟨_,_,_,h,_⟩:=h; omega⟩⟩ (λk u ⟨_,_,h⟩=>h.sb) λk u s hs ⟨B',hB',h⟩=>?_).mono ?_⟩
 ·have hkl:k < p.right.length:=(Wt.1 hs).1
  refine (O0 (hw.mono swm) hnn hc hA (hkc.mono swm) rR (rE.mono (sub.trans sei sim)) (rI.mono sim) (hp3.mono swm) hrc (by omega) hrow hs hn hn2 (by omega) h).mono ?_
  rintro _ u' ⟨rfl,B2,hB2,h⟩
  refine ⟨rfl,B2,by omega,h.iff λj z _=>?_⟩
  rw [HZ.succ hs]
  constructor
  ·rintro ((h | h) | h)
   ·exact .inl h
   ·exact .inr ⟨h.1,.inl h.2⟩
   ·exact .inr ⟨h.1,.inr h.2⟩
  ·rintro (h | ⟨h,h2 | h2⟩)
   ·exact .inl (.inl h)
   ·exact .inl (.inr ⟨h,h2⟩)
   ·exact .inr ⟨h,h2⟩
 rintro _ w15 ⟨rfl,B',hB',hR⟩
 have htk:bys.take (m + 1) = bys.take m ++ [pm]:=by rw [Wz,hpm]; rfl
 refine ⟨_,rfl,⟨by omega,by omega⟩,⟨m + 1,B',by simp,h2,by omega,(hR.has sim).iff λj z _=>?_⟩,bx h2⟩
 rw [htk,xP.snoc hp,<- rl1]
 constructor
 ·rintro ((h | h) | h)
  ·exact .inl h
  ·exact .inr ⟨h.1,.inl h.2⟩
  ·exact .inr ⟨h.1,.inr h.2⟩
 ·rintro (h | ⟨h,h2 | h2⟩)
  ·exact .inl (.inl h)
  ·exact .inl (.inr ⟨h,h2⟩)
  ·exact .inr ⟨h,h2⟩
end Go.Proofs.YtndaepmjkbmjmaaGreatDoor
namespace Go.V
section
variable {κ α : Type} [DecidableEq κ] {sz:Nat} {f:List α->List Value} {s t:κ}
theorem O1 {q:Lq α}:∀ {ps:List (κ × Lq α)},(ps.map Prod.fst).Nodup->c_ s ps = some q->(mO sz f ps).Perm (dp sz f q :: mO sz f (ps.filter λe=>decide (e.1≠s)))
 | [],_,h=>by cases h
 | (a,u) :: m,hn,h=>by
  rw [Xf,Xp] at hn
  unfold c_ at h
  by_cases e:s = a
  ·subst e
   rw [WJ rfl] at h
   cases h
   have e2:((s,q) :: m).filter (λe=>decide (e.1≠s)) = m:=by
    rw [XE,WB (by simp)]
    refine List.filter_eq_self.2 λx hx=>?_
    simp only [WH]
    exact λh=>hn.1 (WS.2 ⟨x,hx,h⟩)
   rw [e2]; exact .refl _
  ·rw [WB e] at h
   have e2:((a,u) :: m).filter (λe=>decide (e.1≠s)) = (a,u) :: m.filter λe=>decide (e.1≠s):=by
    rw [XE,WJ (by simpa using X2 e)]
   rw [e2]
   exact (List.Perm.cons _ (O1 hn.2 h)).trans (.swap _ _ _)
theorem H3 (h:t≠s) (ps:List (κ × Lq α)):c_ t (ps.filter λe=>decide (e.1≠s)) = c_ t ps:=by
 induction ps with
 | nil=>rfl
 | cons x m ih =>
  obtain ⟨a,u⟩:=x
  rw [XE]
  by_cases e:a = s
  ·subst e
   have e2:c_ t ((a,u) :: m) = c_ t m:=by show (if t = a then some u else c_ t m) = _; rw [WB h]
   rw [WB (by simp),ih,e2]
  ·rw [WJ (by simpa using e)]
   show (if t = a then some u else c_ t (m.filter λe=>decide (e.1≠s))) = (if t = a then some u else c_ t m)
   rw [ih]
end
section
variable {g:af} {ss:List SQ}
theorem Mz (i:Nat) (f:Nat->Bool):bX (i + 1) f = bX i f ++ if f i = true then [(i:Int)] else []:=by
 unfold bX
 rw [XD,W5,WZ]
 congr 1
 by_cases h:f i = true <;> simp [h]
theorem jq {q m i:Nat} {t:au} (ht:(bm g ss)[i]? = some t):dw g ss q m i = true↔m∈Db g g.prods.length t.sym/\∃ p,g.prods[m]? = some p/\b9 ss t.st p.right = q:=by
 rw [iT]
 unfold dw
 rw [ht]
 cases hp:g.prods[m]? with
 | none=>simp
 | some p =>
  simp only [WL,WH,Option.some.injEq]
  constructor
  ·rintro ⟨⟨h1,h2⟩,h3⟩
   exact ⟨⟨by omega,p,rfl,h2⟩,p,rfl,h3⟩
  ·rintro ⟨⟨h1,p',rfl,h2⟩,p'',rfl,h3⟩
   exact ⟨⟨by omega,h2⟩,h3⟩
def V6 (g:af) (ss:List SQ) (ps:List (au × Lq Int)) (i:Nat) (t:au) (ms:List Nat):Prop:=(ps.map Prod.fst).Nodup/\(∀ k,(gq k ps).length<=i + 1)/\∀ q m:Nat,gq ⟨(q:Int),(m:Int)⟩ ps = bX i (dw g ss q m) ++ if m∈ms/\(∃ p,g.prods[m]? = some p/\b9 ss t.st p.right = q) then [(i:Int)] else []
abbrev gW:=(Int × Int) × Lq Int
def O2 (b:gW):List Value:=[.int .i64 b.1.1,.int .i64 b.1.2,dO b.2]
def cH (bs:List gW):List Value:=bs.flatMap O2
def ny (bs:List gW):List ay:=bs.map λb=>dp 1 iv b.2
def J0 (b:gW):iS:=⟨b.1.1,b.1.2,b.2.2⟩
theorem A8 (bs:List gW):(cH bs).length = bs.length * 3:=mS (f:=O2) (n:=3) (λ_=>rfl) bs
theorem A9 (xs ys:List gW):cH (xs ++ ys) = cH xs ++ cH ys:=Xe
theorem zi (g:af) (ss:List SQ) (q:Nat):∀ j,(dm g ss q j).length<=j
 | 0=>by simp [dm]
 | j + 1=>by
  have:=zi g ss q j
  rw [vY,WA]
  have h2:(tw g ss q j).length<=1:=by unfold tw; split <;> simp
  omega
def AA (g:af) (ss:List SQ) (q:Nat):List iS:=(List.range q).flatMap λq=>dm g ss q g.prods.length
theorem uo (g:af) (ss:List SQ) (q:Nat):AA g ss (q + 1) = AA g ss q ++ dm g ss q g.prods.length:=by unfold AA; rw [XD,Xe]; simp
theorem tC (g:af) (ss:List SQ):∀ q,(AA g ss q).length<=q * g.prods.length
 | 0=>by simp [AA]
 | q + 1=>by
  have:=tC g ss q
  have:=zi g ss q g.prods.length
  rw [uo,WA,XU]
  omega
end
end Go.V
namespace Go.Proofs.YtndaepmjkbmjmaaGreatDoor
variable {w:YC} {L:List ay} {g:af} {x:GA} {ss:List SQ} {nn:List Bool}
theorem J1 (hg:gR (hp w) g x) (hb:ik g) (ht:eF (hp w)):aA Tryz.prog iU [.agg ⟨x.cells⟩] w λv w'=>∃ (ss:List SQ) (ask int f:Int) (nn:List Bool) (o:YB) (c:Nat) (ds:List (Lq Int)),v = .tuple #[.slice o ds.length c,.int .i64 f]/\qY g ss ask int f/\(f = 0->jb g nn)/\ds.map (·.2) = uP g nn ss/\St w' (own 1 o ds.length c (ds.map dO) :: aG (ds.map (dp 1 iv)) :: all w):=by
 refine uT (cN hg λk1 w1 gw hg B=>?_)
 refine ⟨_,_,_,_,_,_,_,_,_,_,_,_,_,B.row (sub.refl _),(JY hg hb (eJ.mono gw ht)).mono ?_⟩
 rintro _ w2 ⟨ss,ask,int,f,p,rfl,hR,g2,h0,hn⟩
 refine ⟨_,_,rfl,ah (St.all w2) λk10 w3 h=>bj h (by simp) λw4 h=>?_⟩
 have g24:Gr w2 w4:=h.aZ
 have r10:av (hp w4) (aM k10) [.pointer p]:=ai 0 h.l
 clear h
 have g14:=g2.trans g24
 refine ae (λh1=>?_) λh1=>?_
 ·have h1:f≠0:=by simpa using h1
  have hz:ss = []:=by rcases hR with ⟨_,e,_⟩ | ⟨_,_,e,_⟩ | ⟨_,_,_,_,e⟩ <;> first | exact e | exact absurd e h1
  subst hz
  exact ⟨[],ask,int,f,[],none,0,[],rfl,hR,λh=>absurd h h1,rfl,az 1 ((St.flat (M:=[])).2 (St.here (gw.trans g14)))⟩
 have h1:f = 0:=by simpa using h1
 subst h1
 obtain ⟨hc,hA⟩:=hR.Mv rfl
 obtain ⟨k,nn,rfl,hnn,hw⟩:=h0 rfl
 have hw:=hw.mono g24
 have B4:GB (hp w4) k1 x:=⟨λs=>B.c0 (sub.trans g14 s),λs=>B.c1 (sub.trans g14 s),λs=>B.c2 (sub.trans g14 s),λs=>B.c3 (sub.trans g14 s),λs=>B.c4 (sub.trans g14 s),λs=>B.row (sub.trans g14 s)⟩
 have hnl:=tB hc hA
 refine ⟨_,r10.cell0 (sub.refl _),(Ld (P:=λi z=>z∈bX (bm g ss).length (xL g nn ss i)) hw rfl hnl rfl λk4 w0 hR0=>RC hw hc hA hnn r10 B4 (hg.mono g14) rfl hnl hR0).mono ?_⟩
 rintro _ w5 ⟨o,c,ds,rfl,hds,h⟩
 have hdl:=hds.1
 refine ⟨_,_,_,rfl,ss,ask,int,0,nn,o,c,ds,by rw [hdl],hR,λ_=>hnn,hds.list,?_⟩
 rw [hdl]
 exact St.KM h (bC (gw.trans g14))
theorem J2 (hg:gR (hp w) g x) (hb:ik g) (htb:eF (hp w)):aA Tryz.prog xN [.agg ⟨x.cells⟩] w λv w'=>∃ (ss:List SQ) (ask int f:Int) (o:YB) (c:Nat) (ds:List gW),v = .tuple #[.slice o ds.length c,.int .i64 f]/\qY g ss ask int f/\ds.map J0 = pJ g ss/\St w' (own 3 o ds.length c (cH ds) :: aG (ny ds) :: all w):=by
 refine uR (cN hg λk1 w1 gw hg B=>?_)
 refine ⟨_,_,_,_,_,_,_,_,_,_,_,_,_,B.row (sub.refl _),(JY hg hb (eJ.mono gw htb)).mono ?_⟩
 rintro _ w2 ⟨ss,ask,int,f,p,rfl,hR,g12,h0,hn⟩
 refine ⟨_,_,rfl,ae (λh1=>?_) λh1=>?_⟩
 ·have h1:f≠0:=by simpa using h1
  have hz:ss = []:=by rcases hR with ⟨_,e,_⟩ | ⟨_,_,e,_⟩ | ⟨_,_,_,_,e⟩ <;> first | exact e | exact absurd e h1
  subst hz
  exact ⟨[],ask,int,f,none,0,[],rfl,hR,rfl,az 3 ((St.flat (M:=[])).2 (St.here (gw.trans g12)))⟩
 have h1:f = 0:=by simpa using h1
 subst h1
 obtain ⟨hc,hA⟩:=hR.Mv rfl
 obtain ⟨kw,nn,rfl,hnn,hw⟩:=h0 rfl
 have hnl:=tB hc hA
 obtain ⟨x',o,c,a,int',ol,cl,ka,kt,on,cn,kp,ma,mt,mp,rk,hg',hs,rT,hma,hN,hmt,hTo,rN,hmp,hby⟩:=hw.ex
 have hkl:=hA.yX hc
 obtain ⟨sT,sN,sP,_,_,_⟩:=hc.ct
 have h256:=hA.dn.2.1
 have pl:=hg.p.1
 have hgx:=hg.mono g12
 refine ml (St.all w2) λkb w3 h=>?_
 have h:=dD (κ:=au) h
 have g23:Gr w2 w3:=aU 1 h.l
 refine ⟨_,_,_,rk.cell g23 (j:=8) rfl,λz w'=>∃ (i:Nat) (ps:List (au × Lq Int)),z = i/\i<=(bm g ss).length/\V6 g ss ps i ⟨0,0⟩ []/\St w' (mapA kb (mV ps) :: aG (mO 1 iv ps) :: all w2),λz _=>(bm g ss).length - z.toNat,
  ⟨0,[],rfl,WC _,⟨by simp,λk=>WC _,λq m=>by simp [gq,c_,bX]⟩,?_⟩,?_⟩
 ·exact ((St.flat (M:=[])).2 h).swap
 clear h
 rintro _ _ w4 ⟨i,ps,rfl,hi,hBk,h⟩
 have s4:sub (hp w2) (hp w4):=aU 2 h.l
 refine ae (λh1=>?_) λh1=>?_
 ·have h1:i < (bm g ss).length:=by have:=Wr h1; omega
  obtain ⟨t,tad,ht,hta,rt⟩:=tj rT h1
  obtain ⟨i0,q0,k0,e0,hi0,hq0,he0,hge,hte⟩:=iQ (Wu ht)
  have hst0:0<=t.st:=by rw [hte]; exact W7 _
  have hst1:t.st < ss.length:=by rw [hte]; show (i0:Int) < _; omega
  refine aq hta h1 ⟨_,_,rt.at s4 rfl,ah h λk13 w5 h=>bu h rfl (by simp [aV]) λw6 h=>?_⟩
  intro w7 hd
  have h:=h.eq (aB hd)
  have s7:sub (hp w2) (hp w7):=aU 3 h.l
  have r13:av (hp w7) (aM k13) [.int .i64 t.st,.int .i64 t.sym]:=ai 0 h.l
  refine ⟨λu=>Gr w7 u,Gr.refl _,_,λu g=>rk.cell (sub.trans s7 g) (j:=12) rfl,_,λu g=>r13.cell g (j:=1) rfl,(dj (κ:=Int) hmp s7 aQ (rfl:aj Ty _ = .map _ _) (sD.BQ bB) rfl rfl t.sym).mono ?_⟩
  rintro _ w10 ⟨rfl,e10⟩
  obtain ⟨ba,bc,hb1,hb2⟩:=hby t.sym
  rw [hb1]
  have hnd:(Db g g.prods.length t.sym).Nodup:=by
   unfold Db MY
   exact (List.nodup_range.filter _).filter _
  have hiff:∀ m,m∈Db g g.prods.length t.sym↔0 < m/\∃ p,g.prods[m]? = some p/\p.left = t.sym:=λm=>iT
  have hbb:∀ q m:Nat,dw g ss q m i = true↔m∈Db g g.prods.length t.sym/\∃ p,g.prods[m]? = some p/\b9 ss t.st p.right = q:=λq m=>jq ht
  generalize hbs:Db g g.prods.length t.sym = bys at *
  have hbl:bys.length<=97:=by rw [<- hbs]; exact W0 (A4 _ _ _) sP
  refine ⟨_,_,_,rfl,by rw [e10]; exact Gr.refl _,λz w'=>∃ (M:Nat) (ps:List (au × Lq Int)),z = M/\M<=bys.length/\V6 g ss ps i t (bys.take M)/\St w' (mapA kb (mV ps) :: aG (mO 1 iv ps) :: aK k13 [.int .i64 t.st,.int .i64 t.sym] :: all w2),λz _=>bys.length - z.toNat,
   ⟨0,ps,rfl,WC _,⟨hBk.1,hBk.2.1,λq m=>by rw [hBk.2.2 q m]; simp⟩,by rw [e10]; exact h.pick 3 [1,2,0]⟩,?_⟩
  clear h hBk e10 hd r13 s7
  rintro _ _ w11 ⟨M,ps,rfl,hM,hBk,h⟩
  have s11:sub (hp w2) (hp w11):=aU 3 h.l
  refine ae (λh2=>?_) λh2=>?_
  rotate_left
  ·have h2:M = bys.length:=by have:=Ws h2; omega
   rw [h2,WT] at hBk
   refine ⟨⟨by omega,by omega⟩,⟨i + 1,ps,by simp,h1,⟨hBk.1,λk=>by have:=hBk.2.1 k; omega,λq m=>?_⟩,h.pick 3 [0,1]⟩,bx h1⟩
   rw [hBk.2.2 q m,Mz]
   by_cases e:dw g ss q m i = true
   ·rw [WJ e,WJ ((hbb q m).1 e)]; simp
   ·rw [WB e,WB (λh=>e ((hbb q m).2 h))]; simp
  have h2:M < bys.length:=by have:=Wr h2; omega
  obtain ⟨pm,hpm⟩ : ∃ pm,bys[M]? = some pm:=⟨_,Wv h2⟩
  obtain ⟨_,p,hpq,hpl⟩:=(hiff pm).1 (Wu hpm)
  have hpml:pm < x.pl:=by have:=(Wt.1 hpq).1; omega
  obtain ⟨i0',q',e1',hq',hcl'⟩:=CE hc hA ht hpq hpl
  have hrl:=Ey hc hA hq' hpq hcl'
  obtain ⟨bv,bad,hbv,hba,hbc⟩:=hb2.cF h2
  rw [Wx,hpm] at hbv
  cases hbv
  obtain ⟨p',pad,pvs,hp1,hpa,hp2,ra,rl,rc,rfl,hrc,hp3⟩:=hgx.p.get hpml
  rw [hpq] at hp1; cases hp1
  have rl1:=hp3.1
  obtain ⟨jw,_,hjw,_,_⟩:=pH hc hA hpq p.right.length 0 (by omega) i0' q' hq' (by simpa using hcl')
  rw [List.drop_zero,<- e1'] at hjw
  refine aw hba h2 ⟨_,hbc _ s11,?_⟩
  intro w12 hd
  have h:=h.eq (aB hd)
  have s12:sub (hp w2) (hp w12):=aU 3 h.l
  have r13:av (hp w12) (aM k13) [.int .i64 t.st,.int .i64 t.sym]:=ai 2 h.l
  refine ⟨λu=>Gr w12 u,Gr.refl _,_,λu g=>r13.cell0 g,_,_,_,λu g=>B.c4 (sub.trans g12 (sub.trans s12 g)),aq hpa hpml ⟨_,_,_,λu g=>hp2.cell (sub.trans s12 g) (j:=1) rfl,(Le (J:=λk u=>hp u = hp w12) (H:=hp w2) hw hc hA hp3 (by omega) hst0 hst1 rfl rfl (λk u e=>by rw [e]; exact s12) λk u s hs e=>?_).mono ?_⟩⟩
  ·exact pP ⟨rfl,e⟩
  rintro _ w16 ⟨rfl,e16⟩
  have h:=h.eq e16
  refine ⟨_,rfl,Gr.of_eq e16,ah h λk20 w17 h=>bu h rfl (by simp [aV]) λw18 h=>?_⟩
  refine ⟨_,_,(ai 0 h.l).at (sub.refl _) rfl,ah h λk21 w19 h=>?_⟩
  refine (map_take (κ:=au) aQ (rfl:aj Ty _ = .map _ _) ew rfl rfl (h.pick 3 [2,0,1]) ⟨b9 ss t.st p.right,(pm:Int)⟩).mono ?_
  rintro _ w20 ⟨n,rfl,h⟩
  obtain ⟨q,M',e1,e2,hq,back⟩:=mu rfl (h.pick 4 [3,0,1,2]) ⟨b9 ss t.st p.right,(pm:Int)⟩
  have hql:q.2.length<=i + 1:=by rw [e2]; exact hBk.2.1 _
  rw [e1] at hq ⊢
  refine ⟨_,_,_,_,rfl,?_⟩
  refine (aN (us:=iv q.2) aQ (rfl:aj Ty _ = .slice _) (rfl:aj Ty _ = .slice _) rfl rfl rfl (hq.pick 5 [3,0,1,2,4]) rfl (by simp [aV]) (by show (q.2.length + 1) * 8<=_; omega) (by omega)).mono ?_
  rintro _ w21 ⟨o',c',rfl,h⟩
  refine ⟨_,_,_,rfl,(HV (h.pick 5 [3,0,2]) _).mono ?_⟩
  rintro _ w22 h
  rw [um] at h
  have h:=vK back (q.2 ++ [(i:Int)]) (by simp) (by simp [iv]) h
  have htk:bys.take (M + 1) = bys.take M ++ [pm]:=by rw [Wz,hpm]; rfl
  have hnot:pm∉bys.take M:=λhm=>by
   obtain ⟨M2,hM2⟩:=W3 hm
   have hM3:=(Wt.1 hM2).1
   rw [WV] at hM3
   rw [XB,WJ (by omega)] at hM2
   have:=(List.getElem?_inj (i:=M2) (j:=M) (by omega) hnd).1 (by rw [hM2,hpm])
   omega
  refine ⟨⟨by omega,by omega⟩,⟨M + 1,j3 ⟨b9 ss t.st p.right,(pm:Int)⟩ ((o',c'),q.2 ++ [(i:Int)]) ps,by simp,h2,⟨FF _ hBk.1,λk=>?_,λq2 m=>?_⟩,?_⟩,bx h2⟩
  ·rw [jN]
   by_cases e:k = (⟨b9 ss t.st p.right,(pm:Int)⟩ : au)
   ·rw [WJ e]
    show (q.2 ++ [(i:Int)]).length<=i + 1
    have h5:q.2.length<=i:=by
     rw [e2]
     rw [hjw,hBk.2.2 jw pm,WB (λh=>hnot h.1),W2]
     exact jQ _ _
    rw [WA,Yr]; omega
   ·rw [WB e]; exact hBk.2.1 k
  ·rw [jN,htk]
   by_cases e:(⟨(q2:Int),(m:Int)⟩ : au) = ⟨b9 ss t.st p.right,(pm:Int)⟩
   ·rw [WJ e]
    have e3:(q2:Int) = b9 ss t.st p.right:=congrArg au.st e
    have e4:m = pm:=by have:(m:Int) = pm:=congrArg au.sym e; omega
    subst e4
    show q.2 ++ [(i:Int)] = _
    rw [e2,<- e,hBk.2.2 q2 m,WB (λh=>hnot h.1),W2,WJ ⟨by simp,p,hpq,e3.symm⟩]
   ·rw [WB e,hBk.2.2 q2 m]
    congr 1
    by_cases h5:m∈bys.take M/\∃ p,g.prods[m]? = some p/\b9 ss t.st p.right = q2
    ·rw [WJ h5,WJ ⟨by simp [h5.1],h5.2⟩]
    ·rw [WB h5,WB ?_]
     rintro ⟨h6,p2,h7,h8⟩
     rw [Wy,WW] at h6
     rcases h6 with h6 | rfl
     ·exact h5 ⟨h6,p2,h7,h8⟩
     ·rw [hpq] at h7; cases h7
      exact e (by rw [<- h8])
  ·exact h
 have h1:i = (bm g ss).length:=by have:=Ws h1; omega
 subst h1
 have hget:∀ q m:Nat,gq ⟨(q:Int),(m:Int)⟩ ps = bX (bm g ss).length (dw g ss q m):=λq m=>by rw [hBk.2.2 q m]; simp
 have hkn:=hBk.1
 clear hBk
 have hP2:∀ q,q<=ss.length->q * g.prods.length<=256 * 97:=λq hq=>Yg (by omega) sP
 refine ⟨_,_,_,rk.cell s4 (j:=5) rfl,λo n c z w'=>∃ (q:Nat) (bs:List gW) (rs:List (au × Lq Int)),z = q/\q<=ss.length/\n = bs.length/\bs.map J0 = AA g ss q/\(rs.map Prod.fst).Nodup/\(∀ k:au,(q:Int)<=k.st->c_ k rs = c_ k ps)/\St w' (own 3 o n c (cH bs) :: aG (ny bs) :: mapA kb (mV ps) :: aG (mO 1 iv rs) :: all w2),λ_ _ _ z _=>ss.length - z.toNat,
  ⟨0,[],ps,rfl,WC _,rfl,rfl,hkn,λ_ _=>rfl,az 3 ((St.flat (M:=[])).2 h)⟩,?_⟩
 clear h s4
 rintro _ o14 _ c14 _ w23 ⟨q,bs,rs,rfl,hq,rfl,hbs,hrn,hrs,h⟩
 have s23:sub (hp w2) (hp w23):=aU 4 h.l
 have hbl:bs.length<=24832:=by
  have h1:=tC g ss q
  rw [<- hbs,WE] at h1
  have:=hP2 q hq
  omega
 refine ae (λh1=>?_) λh1=>?_
 rotate_left
 ·have h1:q = ss.length:=by have:=Ws h1; omega
  subst h1
  refine gV (gp (fa h) ⟨_,_,_,rfl,ss,ask,int,0,_,_,bs,rfl,hR,hbs,?_⟩)
  have h:=gn h
  exact St.KM (h.pick 5 [0,1,4]) (bC (gw.trans g12))
 have h1:q < ss.length:=by have:=Wr h1; omega
 refine ⟨_,_,_,B.c4 (sub.trans g12 s23),λo n c z w'=>∃ (m:Nat) (bs:List gW) (rs:List (au × Lq Int)),z = m/\m<=x.pl/\n = bs.length/\bs.map J0 = AA g ss q ++ dm g ss q m/\(rs.map Prod.fst).Nodup/\(∀ k:au,((q:Int) < k.st\/(k.st = q/\(m:Int)<=k.sym))->c_ k rs = c_ k ps)/\St w' (own 3 o n c (cH bs) :: aG (ny bs) :: mapA kb (mV ps) :: aG (mO 1 iv rs) :: all w2),λ_ _ _ z _=>x.pl - z.toNat,
  ⟨0,bs,rs,rfl,WC _,rfl,by rw [hbs]; simp [dm],hrn,λk hk=>hrs k (by rcases hk with hk | hk <;> omega),h⟩,?_⟩
 clear h s23 hbs hrn hrs hbl
 rintro _ o16 _ c16 _ w24 ⟨m,bs,rs,rfl,hm,rfl,hbs,hrn,hrs,h⟩
 have hbl:bs.length<=25000:=by
  have h1:=tC g ss q
  have h2:=zi g ss q m
  have h3:=congrArg List.length hbs
  rw [WE,WA] at h3
  have:=hP2 q hq
  omega
 refine ae (λh2=>?_) λh2=>?_
 rotate_left
 ·have h2:m = x.pl:=by have:=Ws h2; omega
  subst h2
  refine ⟨⟨by omega,by omega⟩,⟨q + 1,bs,rs,by simp,h1,rfl,?_,hrn,λk hk=>hrs k (.inl (by omega)),h⟩,bx h1⟩
  rw [hbs,uo,pl]
 have h2:m < x.pl:=by have:=Wr h2; omega
 have hgm:=hget q m
 refine (jK (κ:=au) aQ (rfl:aj Ty _ = .map _ _) ew rfl rfl (h.pick 3 [2]) ⟨(q:Int),(m:Int)⟩).mono ?_
 rintro _ w25 ⟨rfl,e25⟩
 rw [gv]
 have hrow:dm g ss q (m + 1) = dm g ss q m ++ tw g ss q m:=vY g ss q m
 have hskip:bX (bm g ss).length (dw g ss q m) = []->ax ((m:Int) + 1)/\(∃ (m' : Nat) (bs' : List gW) (rs' : List (au × Lq Int)),(m:Int) + 1 = m'/\m'<=x.pl/\bs.length = bs'.length/\bs'.map J0 = AA g ss q ++ dm g ss q m'/\(rs'.map Prod.fst).Nodup/\(∀ k:au,((q:Int) < k.st\/(k.st = q/\(m' : Int)<=k.sym))->c_ k rs' = c_ k ps)/\St w25 (own 3 o16 bs.length c16 (cH bs') :: aG (ny bs') :: mapA kb (mV ps) :: aG (mO 1 iv rs') :: all w2))/\x.pl - ((m:Int) + 1).toNat < x.pl - (m:Int).toNat:=λe=>by
  refine ⟨⟨by omega,by omega⟩,⟨m + 1,bs,rs,by simp,h2,rfl,?_,hrn,λk hk=>hrs k (hk.elim .inl λhk=>.inr ⟨hk.1,by have:=hk.2; omega⟩),by rw [e25]; exact h⟩,bx h2⟩
  rw [hrow,hbs]
  unfold tw
  rw [WJ e]; simp
 cases hgq:c_ (⟨(q:Int),(m:Int)⟩ : au) ps with
 | none =>
  have e:bX (bm g ss).length (dw g ss q m) = []:=by rw [<- hgm]; unfold gq; rw [hgq]
  exact ⟨_,_,_,rfl,Ma (by simp) (hskip e)⟩
 | some r =>
  have er:r.2 = bX (bm g ss).length (dw g ss q m):=by rw [<- hgm]; unfold gq; rw [hgq]
  refine ⟨_,_,_,rfl,ae (λh3=>?_) λh3=>?_⟩
  rotate_left
  ·refine hskip ?_
   rw [<- er]
   exact WU (by have:=Ws h3; omega)
  have h3:0 < r.2.length:=by have:=Wr h3; omega
  have hne:bX (bm g ss).length (dw g ss q m)≠[]:=by rw [<- er]; intro e; rw [e] at h3; simp at h3
  have hgr:c_ (⟨(q:Int),(m:Int)⟩ : au) rs = some r:=by rw [hrs _ (.inr ⟨rfl,Int.le_refl _⟩)]; exact hgq
  have h:=h.eq (by rw [e25] : hp w25 = hp w24)
  have h4:=(St.flat.1 (h.pick 4 [3,0,1,2])).perm ((O1 (sz:=1) (f:=iv) hrn hgr).append_right _)
  have h:St w25 (own 1 r.1.1 r.2.length r.1.2 (iv r.2) :: aG (mO 1 iv (rs.filter λe=>decide (e.1≠(⟨(q:Int),(m:Int)⟩ : au)))) :: own 3 o16 bs.length c16 (cH bs) :: aG (ny bs) :: mapA kb (mV ps) :: all w2):=(St.flat.2 (h4.perm Xo.symm)).swap
  clear h4
  refine dr (gp (fa h) ⟨_,_,_,rfl,?_⟩)
  have h:=gn h
  refine ah h λk34 w27 h=>?_
  have z1:(bs.length + 1) * 40<=140737488355328/\bs.length < 9223372036854775807:=by omega
  refine (aN (us:=cH bs) aQ (rfl:aj Ty _ = .slice _) (rfl:aj Ty _ = .slice _) rfl rfl rfl (h.pick 6 [0,3,1,2,4,5]) rfl (by simp [aV]) z1.1 z1.2).mono ?_
  rintro _ w28 ⟨o17,c17,rfl,h⟩
  have hnew:J0 (((q:Int),(m:Int)),((gE r.1.1 0 r.2.length 1,r.2.length),r.2)) = ⟨(q:Int),(m:Int),bX (bm g ss).length (dw g ss q m)⟩:=by unfold J0; rw [er]
  refine ⟨_,_,_,rfl,⟨by omega,by omega⟩,⟨m + 1,bs ++ [(((q:Int),(m:Int)),((gE r.1.1 0 r.2.length 1,r.2.length),r.2))],rs.filter λe=>decide (e.1≠(⟨(q:Int),(m:Int)⟩ : au)),by simp,h2,by simp,?_,(hrn.sublist (List.Sublist.map _ List.filter_sublist)),λk hk=>?_,?_⟩,bx h2⟩
  ·rw [WZ,hbs,hrow]
   unfold tw
   rw [WB hne]
   simp [hnew]
  ·rw [H3 (s:=(⟨(q:Int),(m:Int)⟩ : au)) ?_]
   ·exact hrs k (hk.elim .inl λhk=>.inr ⟨hk.1,by have:=hk.2; omega⟩)
   ·intro e
    subst e
    rcases hk with hk | hk
    ·exact absurd hk (by show ¬(q:Int) < q; omega)
    ·have:=hk.2; simp at this; omega
  ·have h:=St.snoc (h.pick 6 [2,4,0,5,3])
   have h3:St w28 (own 3 o17 (bs.length + 1) c17 (cH bs ++ [.int .i64 (q:Int),.int .i64 (m:Int),.slice (gE r.1.1 0 r.2.length 1) r.2.length r.2.length]) :: aG (ny bs ++ [own 1 (gE r.1.1 0 r.2.length 1) r.2.length r.2.length (iv r.2)]) :: mapA kb (mV ps) :: aG (mO 1 iv (rs.filter λe=>decide (e.1≠(⟨(q:Int),(m:Int)⟩ : au)))) :: all w2):=h.pick 2 [1,0]
   rw [A9,show ny (bs ++ [(((q:Int),(m:Int)),((gE r.1.1 0 r.2.length 1,r.2.length),r.2))]) = ny bs ++ [own 1 (gE r.1.1 0 r.2.length 1) r.2.length r.2.length (iv r.2)] by unfold ny; rw [WZ]; rfl]
   exact h3
end Go.Proofs.YtndaepmjkbmjmaaGreatDoor
namespace Go.V
instance:oP iS:={ n:=3,rd:=λh x vs=>∃ (a:YB) (c:Nat),vs = [.int .i64 x.st,.int .i64 x.prod,.slice a x.tr.length c]/\a_ h x.tr a x.tr.length,mono:=λs ⟨a,c,e,r⟩=>⟨a,c,e,r.mono s⟩,len:=λ⟨_,_,e,_⟩=>by rw [e]; rfl }
section
variable {w:YC} {L:List ay} {o:YB} {c:Nat}
theorem TM {ds:List (Lq Int)} (h:St w (own 1 o ds.length c (ds.map dO) :: aG (ds.map (dp 1 iv)) :: L)):a_ (hp w) (ds.map (·.2)) o ds.length:=by
 have hr:=fB 0 h.l
 refine ⟨by simp,λi x hi=>?_⟩
 rw [Wx] at hi
 cases hd:ds[i]? with
 | none=>rw [hd] at hi; cases hi
 | some p =>
  rw [hd] at hi
  simp only [Xw,Option.some.injEq] at hi
  subst hi
  have hA:(ds.map (dp 1 iv))[i]? = some (dp 1 iv p):=by rw [Wx,hd]; rfl
  have h2:=St.out (h.pick 2 [1]) hA
  have hle:p.2.length<=p.1.2:=fa h2
  have rp:a_ (hp w) p.2 p.1.1 p.2.length:=dS rfl (fB 0 h2.l)
  rcases hr with e | ⟨ad,e,hc⟩
  ·rw [List.map_eq_nil_iff] at e; subst e; simp at hd
  ·refine ⟨ad,[dO p],e,λj v hj=>?_,p.1.1,p.2.length,p.1.2,rfl,hle,rp⟩
   cases j with
   | zero =>
    simp at hj; subst hj
    rw [add_add,aJ]
    have:=hc i (dO p) (by rw [Wx,hd]; rfl)
    rw [show i * oP.n (List Int) + 0 = i from by show i * 1 + 0 = i; omega]
    exact this
   | succ j=>simp at hj
theorem O3 {h:Hp} {xss:List (List Int)} {i l:Nat} (r:a_ h xss o l) (hi:i < l):∃ x ad a c,xss[i]? = some x/\o = some ad/\(∀ u:YC,sub h (hp u)->u.cell? (ad.add i) = some (.slice a x.length c))/\a_ h x a x.length:=by
 obtain ⟨x,ad,vs,hx,ha,hr,a,l',c',rfl,hle,hx2⟩:=r.get hi
 have hl:=hx2.1
 subst hl
 refine ⟨x,ad,a,c',hx,ha,λu s=>?_,hx2⟩
 have:=hr.cell0 s
 rwa [aJ,show i * oP.n (List Int) = i from XR i] at this
theorem VO {ds:List gW} (h:St w (own 3 o ds.length c (cH ds) :: aG (ny ds) :: L)):a_ (hp w) (ds.map J0) o ds.length:=by
 have hr:=fB 0 h.l
 refine ⟨by simp,λi x hi=>?_⟩
 rw [Wx] at hi
 cases hd:ds[i]? with
 | none=>rw [hd] at hi; cases hi
 | some p =>
  rw [hd] at hi
  simp only [Xw,Option.some.injEq] at hi
  subst hi
  have hA:(ny ds)[i]? = some (dp 1 iv p.2):=by unfold ny; rw [Wx,hd]; rfl
  have h2:=St.out (h.pick 2 [1]) hA
  have rp:a_ (hp w) p.2.2 p.2.1.1 p.2.2.length:=dS rfl (fB 0 h2.l)
  rcases hr with e | ⟨ad,e,hc⟩
  ·have h1:=congrArg List.length e
   rw [A8,Xk] at h1
   have:=(Wt.1 hd).1; omega
  ·exact ⟨ad,O2 p,e,bQ (n:=3) (λ_=>rfl) ds ad hc i p hd,p.2.1.1,p.2.1.2,rfl,rp⟩
theorem O4 {h:Hp} {xs:List iS} {l i:Nat} (r:a_ h xs o l) (hi:i < l):∃ x ad a c,xs[i]? = some x/\o = some ad/\av h (ad.add (cY i 3)) [.int .i64 x.st,.int .i64 x.prod,.slice a x.tr.length c]/\a_ h x.tr a x.tr.length:=by
 obtain ⟨x,ad,vs,hx,ha,hr,a,c',rfl,hx2⟩:=r.get hi
 exact ⟨x,ad,a,c',hx,ha,hr,hx2⟩
end
section
variable {g:af} {nn:List Bool} {ss ss' : List SQ}
theorem O5 (h:bz ss = bz ss') (i k:Nat):iR g nn ss i k = iR g nn ss' i k:=by
 unfold iR
 rw [tn h]
 have e:∀ i s,eW ss i s = eW ss' i s:=λi s=>FO h i s
 simp only [e]
theorem RD (h:bz ss = bz ss') (i k:Nat):xL g nn ss i k = xL g nn ss' i k:=by
 unfold xL
 rw [tn h]
 have e:∀ q l,b9 ss q l = b9 ss' q l:=λq l=>FQ h l q
 simp only [e]
theorem O6 (h:bz ss = bz ss') (q m i:Nat):dw g ss q m i = dw g ss' q m i:=by
 unfold dw
 rw [tn h]
 have e:∀ q l,b9 ss q l = b9 ss' q l:=λq l=>FQ h l q
 simp only [e]
theorem Lf (h:bz ss = bz ss'):q8 g nn ss = q8 g nn ss':=by
 unfold q8
 rw [tn h]
 refine XJ λi _=>?_
 rw [show iR g nn ss i = iR g nn ss' i from funext λk=>O5 h i k]
theorem Lg (h:bz ss = bz ss'):uP g nn ss = uP g nn ss':=by
 unfold uP
 rw [tn h]
 refine XJ λi _=>?_
 rw [show xL g nn ss i = xL g nn ss' i from funext λk=>RD h i k]
theorem RE (h:bz ss = bz ss') (q m:Nat):tw g ss q m = tw g ss' q m:=by
 unfold tw
 rw [tn h,show dw g ss q m = dw g ss' q m from funext λk=>O6 h q m k]
theorem Lh (h:bz ss = bz ss'):pJ g ss = pJ g ss':=by
 unfold pJ
 rw [FP h]
 have e:∀ q j,dm g ss q j = dm g ss' q j:=λq j=>by unfold dm; rw [show tw g ss q = tw g ss' q from funext λm=>RE h q m]
 simp only [e]
end
end Go.V
namespace Go.V.bR
inductive Rc (E:Nat->List Nat):Nat->Nat->Prop
 | refl (a:Nat):Rc E a a
 | step {a b c:Nat}:b∈E a->Rc E b c->Rc E a c
theorem Rc.trans {E:Nat->List Nat} {a b c:Nat} (h:Rc E a b):Rc E b c->Rc E a c:=by
 induction h with
 | refl=>exact id
 | step h _ ih=>exact λk=>.step h (ih k)
theorem Rc.one {E:Nat->List Nat} {a b:Nat} (h:b∈E a):Rc E a b:=.step h (.refl b)
def Good (E:Nat->List Nat) (gs:List (List Nat)):Prop :=
 gs.flatten.Nodup/\∀ g1 g g2,gs = g1 ++ g :: g2->g≠[]/\(∀ a∈g,∀ b∈g,Rc E a b)/\∀ a∈g,∀ b∈E a,b∈g\/b∈g1.flatten
theorem Good.nil (E:Nat->List Nat):Good E []:=⟨by simp,λg1 g g2 h=>by simp at h⟩
theorem Good.snoc {E:Nat->List Nat} {gs:List (List Nat)} {g:List Nat} (h:Good E gs) (hn:g≠[]) (hd:g.Nodup) (hx:∀ a∈g,a∉gs.flatten)
  (hr:∀ a∈g,∀ b∈g,Rc E a b) (he:∀ a∈g,∀ b∈E a,b∈g\/b∈gs.flatten):Good E (gs ++ [g]):=by
 refine ⟨?_,?_⟩
 ·rw [List.flatten_append,Xb]
  refine ⟨h.1,by simpa using hd,?_⟩
  intro a ha b hb e
  subst e
  exact hx a (by simpa using hb) ha
 ·intro g1 g' g2 e
  rcases List.eq_nil_or_concat g2 with rfl | ⟨g3,x,rfl⟩
  ·obtain ⟨rfl,e2⟩:=List.append_inj' e rfl
   simp only [List.cons.injEq,and_true] at e2
   subst e2
   exact ⟨hn,hr,he⟩
  ·rw [List.concat_eq_append,<- List.cons_append,<- WG] at e
   obtain ⟨e1,e2⟩:=List.append_inj' e rfl
   exact h.2 g1 g' g3 e1
theorem Good.to {E:Nat->List Nat} {gs:List (List Nat)} (h:Good E gs) {a b:Nat} (hw:Rc E a b) :
  ∀ g1 g g2,gs = g1 ++ g :: g2->a∈g->b∈(g1 ++ [g]).flatten:=by
 induction hw with
 | refl a=>intro g1 g g2 _ ha; simp [ha]
 | @step a b c hb hc ih =>
  intro g1 g g2 e ha
  rcases (h.2 g1 g g2 e).2.2 a ha b hb with hb | hb
  ·exact ih g1 g g2 e hb
  ·obtain ⟨x,hx,hbx⟩:=List.mem_flatten.1 hb
   obtain ⟨y1,y2,rfl⟩:=Yq hx
   have:=ih y1 x (y2 ++ g :: g2) (by rw [e]; simp) hbx
   simp only [List.flatten_append,List.flatten_cons,List.flatten_nil,W2,Wy] at this ⊢
   rcases this with h | h
   ·exact Or.inl (Or.inl h)
   ·exact Or.inl (Or.inr (Or.inl h))
theorem H4 {gs:List (List Nat)} (h:gs.flatten.Nodup) {g1 g2:List (List Nat)} {g:List Nat} (e:gs = g1 ++ g :: g2) {a:Nat} (ha:a∈g):a∉g1.flatten/\a∉g2.flatten:=by
 subst e
 rw [List.flatten_append,List.flatten_cons,Xb,Xb] at h
 refine ⟨λh1=>h.2.2 a h1 a (by simp [ha]) rfl,λh1=>h.2.1.2.2 a ha a h1 rfl⟩
abbrev Sc:=Nat × Nat × List Nat
def aE:List Sc->List Nat
 | []=>[]
 | (n,_,r) :: t=>aE t ++ n :: r
structure Wf (E:Nat->List Nat) (low:Nat->Nat) (op:List Nat) (D:Nat->Prop) (b n k:Nat) (r:List Nat):Prop where
 le:k<=(E n).length
 top:low n<=b + 1
 lo:∀ v∈r,low n<=low v
 pos:∀ v∈n :: r,0 < low v
 at_:∀ v∈r,∀ i,op[i]? = some v->low v<=i
 rc:∀ v∈r,Rc E n v
 to:∀ v∈n :: r,∃ u,op[low v - 1]? = some u/\Rc E v u
 ed:∀ v∈r,∀ m∈E v,D m\/∃ i,op[i]? = some m/\low n<=i + 1
 en:∀ j m,j < k->(E n)[j]? = some m->D m\/∃ i,op[i]? = some m/\low n<=i + 1
def OK (E:Nat->List Nat) (low:Nat->Nat) (op:List Nat) (D:Nat->Prop):List Sc->Prop
 | []=>True
 | (n,k,r) :: t=>Wf E low op D (aE t).length n k r/\(∀ u k' r' t',t = (u,k',r') :: t'->Rc E u n)/\OK E low op D t
theorem bV {t:List Sc} {n k:Nat} {r:List Nat}:(aE ((n,k,r) :: t)).length = (aE t).length + 1 + r.length:=by simp [aE]; omega
theorem OK.mono {E:Nat->List Nat} {low low' : Nat->Nat} {op op' : List Nat} {D D' : Nat->Prop}:∀ (t:List Sc),OK E low op D t ->
  (∀ v∈aE t,low' v = low v)->(∀ i v:Nat,op[i]? = some v->op'[i]? = some v\/D' v)->(∀ i v:Nat,op'[i]? = some v->v∈aE t->op[i]? = some v)->(∀ i:Nat,i < (aE t).length->op'[i]? = op[i]?)->op.Nodup->(∀ v:Nat,D v->D' v) ->
  (∀ i:Nat,i < (aE t).length->op[i]? = (aE t)[i]?)->OK E low' op' D' t
 | [],_,_,_,_,_,_,_,_=>trivial
 | (n,k,r) :: t,⟨s,hu,ht⟩,hl,ho,hb,hi,nd,hD,hp=>by
  have hn:low' n = low n:=hl n (by simp [aE])
  have hr:∀ v∈r,low' v = low v:=λv hv=>hl v (by simp [aE,hv])
  have hnr:∀ v∈n :: r,low' v = low v:=λv hv=>hl v (by simp only [aE,Wy]; exact Or.inr hv)
  refine ⟨⟨s.le,by rw [hn]; exact s.top,λv hv=>by rw [hn,hr v hv]; exact s.lo v hv,λv hv=>by rw [hnr v hv]; exact s.pos v hv,?_,s.rc,?_,?_,?_⟩,hu,?_⟩
  ·intro v hv i h
   rw [hr v hv]
   exact s.at_ v hv i (hb i v h (by simp [aE,hv]))
  ·intro v hv
   obtain ⟨u,h1,h2⟩:=s.to v hv
   refine ⟨u,?_,h2⟩
   rw [hnr v hv,hi _ ?_,h1]
   rw [bV]
   have hp':=s.pos v hv
   rcases WM.1 hv with rfl | hv
   ·have:=s.top; omega
   ·have hv2:v∈aE ((n,k,r) :: t):=by simp [aE,hv]
    obtain ⟨i,hi1,hi2⟩:=List.getElem_of_mem hv2
    have:=s.at_ v hv i (by rw [hp i hi1,Wv hi1,hi2])
    rw [bV] at hi1
    omega
  ·intro v hv m hm
   rcases s.ed v hv m hm with h | ⟨i,h1,h2⟩
   ·exact Or.inl (hD m h)
   ·rcases ho i m h1 with h | h
    ·exact Or.inr ⟨i,h,by rw [hn]; exact h2⟩
    ·exact Or.inl h
  ·intro j m hj hm
   rcases s.en j m hj hm with h | ⟨i,h1,h2⟩
   ·exact Or.inl (hD m h)
   ·rcases ho i m h1 with h | h
    ·exact Or.inr ⟨i,h,by rw [hn]; exact h2⟩
    ·exact Or.inl h
  ·refine OK.mono t ht (λv hv=>hl v (by simp [aE,hv])) ho (λi v h hv=>hb i v h (by simp [aE,hv])) (λi h=>hi i (by rw [bV]; omega)) nd hD ?_
   intro i h
   rw [hp i (by rw [bV]; omega)]
   simp only [aE]
   rw [WI h]
def AB (f:Nat->Nat) (i x:Nat):Nat->Nat:=λj=>if j = i then x else f j
theorem bf (f:Nat->Nat) (i x:Nat):AB f i x i = x:=by simp [AB]
theorem da {f:Nat->Nat} {i x j:Nat} (h:j≠i):AB f i x j = f j:=by simp [AB,h]
structure Inv (E:Nat->List Nat) (N:Nat) (low:Nat->Nat) (S:List Sc) (gs:List (List Nat)):Prop where
 ok:OK E low (aE S) (·∈gs.flatten) S
 nd:(aE S ++ gs.flatten).Nodup
 lt:∀ v∈aE S ++ gs.flatten,v < N
 un:∀ v,v < N->(low v = 0↔v∉aE S ++ gs.flatten)
 dn:∀ v∈gs.flatten,low v = N + 1
 good:Good E gs
theorem O7:∀ (l m:List Nat),l.Nodup->(∀ v∈l,v∈m)->l.length<=m.length
 | [],_,_,_=>WC _
 | a :: l,m,h,hs=>by
  have ha:=hs a (by simp)
  rw [Xp] at h
  have:=O7 l (m.erase a) h.2 (λv hv=>(List.mem_erase_of_ne (λe:v = a=>h.1 (e ▸ hv))).2 (hs v (by simp [hv])))
  rw [List.length_erase_of_mem ha] at this
  have:=List.length_pos_of_mem ha
  simp only [Xj]; omega
theorem O8 {l:List Nat} {N:Nat} (h1:l.Nodup) (h2:∀ v∈l,v < N):l.length<=N:=by
 have:=O7 l (List.range N) h1 (λv hv=>WY.2 (h2 v hv))
 simpa using this
variable {E:Nat->List Nat} {N:Nat} {low:Nat->Nat} {S t:List Sc} {gs:List (List Nat)} {D:Nat->Prop} {op:List Nat}
theorem H5 {l:List Nat} (h:l.Nodup) {i j:Nat} {v:Nat} (h1:l[i]? = some v) (h2:l[j]? = some v):i = j:=by
 obtain ⟨a,h1⟩:=Wt.1 h1
 obtain ⟨b,h2⟩:=Wt.1 h2
 exact (List.getElem_inj h).1 (h1.trans h2.symm)
theorem OK.to:∀ (S:List Sc),OK E low op D S->∀ v∈aE S,0 < low v/\∃ u,op[low v - 1]? = some u/\Rc E v u
 | [],_,v,hv=>by simp [aE] at hv
 | (n,k,r) :: t,⟨s,_,h⟩,v,hv=>by
  simp only [aE,Wy] at hv
  rcases hv with hv | hv
  ·exact OK.to t h v hv
  ·exact ⟨s.pos v hv,s.to v hv⟩
theorem OK.SD:∀ (S:List Sc),OK E low op D S->op.Nodup->(∀ i:Nat,i < (aE S).length->op[i]? = (aE S)[i]?)->∀ v∈aE S,∀ i:Nat,op[i]? = some v->low v<=i + 1
 | [],_,_,_,v,hv=>by simp [aE] at hv
 | (n,k,r) :: t,⟨s,_,h⟩,nd,hp,v,hv=>by
  intro i hi
  simp only [aE,Wy] at hv
  rcases hv with hv | hv
  ·refine OK.SD t h nd (λj hj=>?_) v hv i hi
   rw [hp j (by rw [bV]; omega)]
   simp only [aE]
   rw [WI hj]
  ·rcases WM.1 hv with rfl | hv
   ·have h1:op[(aE t).length]? = some v:=by
     rw [hp _ (by rw [bV]; omega)]
     simp [aE]
    have:=H5 nd hi h1
    have:=s.top
    omega
   ·have:=s.at_ v hv i hi
    omega
theorem Inv.TN (h:Inv E N low S gs):(aE S).Nodup:=(Xb.1 h.nd).1
theorem Inv.len (h:Inv E N low S gs):(aE S).length<=N:=O8 h.TN λv hv=>h.lt v (by simp [hv])
theorem Inv.seen (h:Inv E N low S gs) {v:Nat} (hv:v < N) (hl:low v≠0):v∈aE S\/v∈gs.flatten:=by
 have:=mt (h.un v hv).2 hl
 simp only [Wy] at this
 exact Xv λe=>this e
theorem Inv.root (h:Inv E N low [] gs) {m:Nat} (hm:m < N) (h0:low m = 0):Inv E N (AB low m 1) [(m,0,[])] gs:=by
 have hx:=(h.un m hm).1 h0
 simp only [aE,Xd] at hx
 have hne:∀ v,v∈gs.flatten->v≠m:=λv hv e=>hx (e ▸ hv)
 refine ⟨⟨⟨by simp,by simp [aE,bf],by simp,?_,by simp,by simp,?_,by simp,by simp⟩,by simp,trivial⟩,?_,?_,?_,?_,h.good⟩
 ·intro v hv
  simp only [WW] at hv
  rw [hv,bf]; omega
 ·intro v hv
  simp only [WW] at hv
  subst hv
  exact ⟨v,by simp [bf,aE],.refl v⟩
 ·have:=h.nd
  simp only [aE,Xd,List.singleton_append,Xp] at this ⊢
  exact ⟨hx,this⟩
 ·intro v hv
  simp only [aE,Xd,List.singleton_append,WM] at hv
  rcases hv with rfl | hv
  ·exact hm
  ·exact h.lt v (by simpa [aE] using hv)
 ·intro v hv
  simp only [aE,Xd,List.singleton_append,WM]
  by_cases e:v = m
  ·subst e; simp [bf]
  ·rw [da e,h.un v hv]; simp [aE,e]
 ·intro v hv
  rw [da (hne v hv)]
  exact h.dn v hv
theorem Inv.push {n k m:Nat} {r:List Nat} (h:Inv E N low ((n,k,r) :: t) gs) (hk:(E n)[k]? = some m) (hm:m < N) (h0:low m = 0) :
  Inv E N (AB low m ((aE ((n,k,r) :: t)).length + 1)) ((m,0,[]) :: (n,k + 1,r) :: t) gs:=by
 have hx:=(h.un m hm).1 h0
 have hxo:m∉aE ((n,k,r) :: t):=λe=>hx (by simp only [Wy]; exact Or.inl e)
 have hxg:m∉gs.flatten:=λe=>hx (by simp only [Wy]; exact Or.inr e)
 have ho:aE ((m,0,[]) :: (n,k + 1,r) :: t) = aE ((n,k,r) :: t) ++ [m]:=rfl
 have hmono:=OK.mono (low':=AB low m ((aE ((n,k,r) :: t)).length + 1)) (op':=aE ((n,k,r) :: t) ++ [m]) (D':=(·∈gs.flatten)) _ h.ok
  (λv hv=>da λe=>hxo (e ▸ hv))
  (λi v hi=>Or.inl (by rw [WI (by obtain ⟨a,_⟩:=Wt.1 hi; exact a)]; exact hi))
  (λi v hi hv=>by
   by_cases hl:i < (aE ((n,k,r) :: t)).length
   ·rwa [WI hl] at hi
   ·rw [WK (by omega)] at hi
    have hi:=Wu hi
    simp only [WW] at hi
    exact absurd (hi ▸ hv) hxo)
  (λi hi=>WI hi) h.TN (λ_ h=>h) (λ_ _=>rfl)
 obtain ⟨s,hu,ht⟩:=hmono
 have hle:k < (E n).length:=(Wt.1 hk).1
 refine ⟨⟨⟨by simp,?_,by simp,?_,by simp,by simp,?_,by simp,by simp⟩,?_,⟨⟨hle,s.top,s.lo,s.pos,s.at_,s.rc,s.to,s.ed,?_⟩,hu,ht⟩⟩,?_,?_,?_,?_,h.good⟩
 ·rw [bf]; exact WO _
 ·intro v hv
  simp only [WW] at hv
  rw [hv,bf]; omega
 ·intro v hv
  simp only [WW] at hv
  subst hv
  refine ⟨v,?_,.refl v⟩
  rw [bf,ho]
  simp
 ·intro u k' r' t' e
  cases e
  exact Rc.one (Wu hk)
 ·intro j v hj hv
  by_cases e:j = k
  ·subst e
   rw [hk] at hv
   cases hv
   refine Or.inr ⟨(aE ((n,j,r) :: t)).length,by rw [ho,WK (WO _)]; simp,?_⟩
   have h1:=s.top
   have h2:(aE ((n,j,r) :: t)).length = (aE t).length + 1 + r.length:=bV
   omega
  ·exact s.en j v (by omega) hv
 ·rw [ho]
  have:=h.nd
  rw [WG,Xb] at *
  refine ⟨this.1,?_,?_⟩
  ·simp only [List.singleton_append,Xp]
   exact ⟨hxg,this.2.1⟩
  ·intro a ha b hb e
   simp only [List.singleton_append,WM] at hb
   rcases hb with rfl | hb
   ·exact hxo (e ▸ ha)
   ·exact this.2.2 a ha b hb e
 ·intro v hv
  rw [ho] at hv
  simp only [Wy,WW] at hv
  rcases hv with (hv | rfl) | hv
  ·exact h.lt v (by simp only [Wy]; exact Or.inl hv)
  ·exact hm
  ·exact h.lt v (by simp only [Wy]; exact Or.inr hv)
 ·intro v hv
  rw [ho]
  by_cases e:v = m
  ·subst e; simp [bf]
  ·rw [da e,h.un v hv]; simp [e]
 ·intro v hv
  have e:v≠m:=λe=>hxg (e ▸ hv)
  rw [da e]
  exact h.dn v hv
theorem Inv.TO {n k:Nat} {r:List Nat} (h:Inv E N low ((n,k,r) :: t) gs):n∉aE t/\n∉r/\n∉gs.flatten/\(∀ v∈r,v∉aE t):=by
 have:=h.nd
 simp only [aE,Xb,Xp,Wy,WM] at this
 obtain ⟨⟨h1,h2,h3⟩,h4,h5⟩:=this
 exact ⟨λe=>h3 n e n (Or.inl rfl) rfl,h2.1,λe=>h5 n (Or.inr (Or.inl rfl)) n e rfl,λv hv e=>h3 v e v (Or.inr hv) rfl⟩
theorem Inv.look {n k m:Nat} {r:List Nat} (h:Inv E N low ((n,k,r) :: t) gs) (hk:(E n)[k]? = some m) (hm:m < N) (h0:low m≠0) :
  Inv E N (AB low n (min (low n) (low m))) ((n,k + 1,r) :: t) gs:=by
 obtain ⟨x1,x2,x3,x4⟩:=h.TO
 obtain ⟨s,hu,ht⟩:=h.ok
 have hle:k < (E n).length:=(Wt.1 hk).1
 have hr:∀ v∈r,v≠n:=λv hv e=>x2 (e ▸ hv)
 have hlen:=h.len
 rw [bV] at hlen
 have htop:=s.top
 have hpn:=s.pos n (by simp)
 have hmin:AB low n (min (low n) (low m)) n<=low n:=by rw [bf]; omega
 have hdone:m∈gs.flatten->min (low n) (low m) = low n:=λe=>by rw [h.dn m e]; omega
 have hmono:=OK.mono (low':=AB low n (min (low n) (low m))) (op':=aE ((n,k,r) :: t)) (D':=(·∈gs.flatten)) _ ht
  (λv hv=>da λe=>x1 (e ▸ hv)) (λi v hi=>Or.inl hi) (λi v hi _=>hi) (λi hi=>rfl) h.TN (λ_ h=>h)
  (λi hi=>by simp only [aE]; rw [WI hi])
 refine ⟨⟨⟨hle,by omega,?_,?_,?_,s.rc,?_,?_,?_⟩,hu,hmono⟩,h.nd,h.lt,?_,?_,h.good⟩
 ·intro v hv
  rw [da (hr v hv)]
  exact W0 hmin (s.lo v hv)
 ·intro v hv
  by_cases e:v = n
  ·subst e; rw [bf]; omega
  ·rw [da e]; exact s.pos v hv
 ·intro v hv
  rw [da (hr v hv)]
  exact s.at_ v hv
 ·intro v hv
  by_cases e:v = n
  ·subst e
   rw [bf]
   by_cases hc:low v<=low m
   ·rw [Yk hc]; exact s.to v (by simp)
   ·rw [Nat.min_eq_right (by omega)]
    rcases h.seen hm h0 with hs | hs
    ·obtain ⟨_,u,h1,h2⟩:=OK.to _ h.ok m hs
     exact ⟨u,h1,.step (Wu hk) h2⟩
    ·have:=hdone hs; omega
  ·rw [da e]; exact s.to v hv
 ·intro v hv x hx
  rcases s.ed v hv x hx with h1 | ⟨i,h1,h2⟩
  ·exact Or.inl h1
  ·exact Or.inr ⟨i,h1,W0 hmin h2⟩
 ·intro j x hj hx
  by_cases e:j = k
  ·subst e
   rw [hk] at hx; cases hx
   rcases h.seen hm h0 with hs | hs
   ·obtain ⟨i,hi1,hi2⟩:=List.getElem_of_mem hs
    have hi3:(aE ((n,j,r) :: t))[i]? = some m:=by rw [Wv hi1,hi2]
    refine Or.inr ⟨i,hi3,?_⟩
    have:=OK.SD _ h.ok h.TN (λ_ _=>rfl) m hs i hi3
    rw [bf]; omega
   ·exact Or.inl hs
  ·rcases s.en j x (by omega) hx with h1 | ⟨i,h1,h2⟩
   ·exact Or.inl h1
   ·exact Or.inr ⟨i,h1,W0 hmin h2⟩
 ·intro v hv
  by_cases e:v = n
  ·subst e
   rw [bf]
   have h1:v∈aE ((v,k + 1,r) :: t) ++ gs.flatten:=by simp [aE]
   constructor
   ·intro h2; omega
   ·intro h2; exact absurd h1 h2
  ·rw [da e]; exact h.un v hv
 ·intro v hv
  have e:v≠n:=λe=>x3 (e ▸ hv)
  rw [da e]
  exact h.dn v hv
theorem Inv.merge {n k u ku:Nat} {r ru:List Nat} (h:Inv E N low ((n,k,r) :: (u,ku,ru) :: t) gs) (hk:k = (E n).length) (hne:low n≠(aE ((u,ku,ru) :: t)).length + 1) :
  Inv E N (AB low u (min (low u) (low n))) ((u,ku,ru ++ n :: r) :: t) gs:=by
 obtain ⟨x1,x2,x3,x4⟩:=h.TO
 obtain ⟨s,hu,s2,hu2,ht⟩:=h.ok
 have ho:aE ((u,ku,ru ++ n :: r) :: t) = aE ((n,k,r) :: (u,ku,ru) :: t):=by simp [aE]
 have hru:u∉aE t/\u∉ru/\u≠n/\u∉r/\u∉gs.flatten:=by
  have:=h.nd
  simp only [aE,Xb,Xp,Wy,WM] at this
  obtain ⟨⟨⟨h1,h2,h3⟩,h4,h5⟩,h6,h7⟩:=this
  exact ⟨λe=>h3 u e u (Or.inl rfl) rfl,h2.1,h5 u (Or.inr (Or.inl rfl)) n (Or.inl rfl),λe=>h5 u (Or.inr (Or.inl rfl)) u (Or.inr e) rfl,λe=>h7 u (Or.inl (Or.inr (Or.inl rfl))) u e rfl⟩
 obtain ⟨y1,y2,y3,y4,y5⟩:=hru
 have hmin:AB low u (min (low u) (low n)) u<=low u:=by rw [bf]; omega
 have hmin2:AB low u (min (low u) (low n)) u<=low n:=by rw [bf]; omega
 have hlow:∀ v,v≠u->AB low u (min (low u) (low n)) v = low v:=λv e=>da e
 have hn:AB low u (min (low u) (low n)) n = low n:=hlow n (X2 y3)
 have hr:∀ v∈r,AB low u (min (low u) (low n)) v = low v:=λv hv=>hlow v λe=>y4 (e ▸ hv)
 have hru:∀ v∈ru,AB low u (min (low u) (low n)) v = low v:=λv hv=>hlow v λe=>y2 (e ▸ hv)
 have hpn:=s.pos n (by simp)
 have hpu:=s2.pos u (by simp)
 have hmono:=OK.mono (low':=AB low u (min (low u) (low n))) (op':=aE ((n,k,r) :: (u,ku,ru) :: t)) (D':=(·∈gs.flatten)) _ ht
  (λv hv=>da λe=>y1 (e ▸ hv)) (λi v hi=>Or.inl hi) (λi v hi _=>hi) (λi hi=>rfl) h.TN (λ_ h=>h)
  (λi hi=>by simp only [aE]; rw [WG,WI hi])
 have hposn:(aE ((n,k,r) :: (u,ku,ru) :: t))[(aE ((u,ku,ru) :: t)).length]? = some n:=by simp only [aE]; simp
 refine ⟨?_,by rw [ho]; exact h.nd,by rw [ho]; exact h.lt,?_,?_,h.good⟩
 ·rw [ho]
  refine ⟨⟨s2.le,W0 hmin s2.top,?_,?_,?_,?_,?_,?_,?_⟩,hu2,hmono⟩
  ·intro v hv
   simp only [Wy,WM] at hv
   rcases hv with hv | rfl | hv
   ·rw [hru v hv]; exact W0 hmin (s2.lo v hv)
   ·rw [hn]; exact hmin2
   ·rw [hr v hv]; exact W0 hmin2 (s.lo v hv)
  ·intro v hv
   by_cases e:v = u
   ·subst e; rw [bf]; omega
   ·rw [hlow v e]
    simp only [Wy,WM] at hv
    rcases hv with hv | hv | rfl | hv
    ·exact absurd hv e
    ·exact s2.pos v (by simp [hv])
    ·exact hpn
    ·exact s.pos v (by simp [hv])
  ·intro v hv i hi
   simp only [Wy,WM] at hv
   rcases hv with hv | rfl | hv
   ·rw [hru v hv]; exact s2.at_ v hv i hi
   ·rw [hn]
    have:=H5 h.TN hi hposn
    have:=s.top
    omega
   ·rw [hr v hv]; exact s.at_ v hv i hi
  ·intro v hv
   have h1:=hu u ku ru t rfl
   simp only [Wy,WM] at hv
   rcases hv with hv | rfl | hv
   ·exact s2.rc v hv
   ·exact h1
   ·exact h1.trans (s.rc v hv)
  ·intro v hv
   by_cases e:v = u
   ·subst e
    rw [bf]
    by_cases hc:low v<=low n
    ·rw [Yk hc]; exact s2.to v (by simp)
    ·rw [Nat.min_eq_right (by omega)]
     obtain ⟨x,h1,h2⟩:=s.to n (by simp)
     exact ⟨x,h1,(hu v ku ru t rfl).trans h2⟩
   ·rw [hlow v e]
    simp only [Wy,WM] at hv
    rcases hv with hv | hv | rfl | hv
    ·exact absurd hv e
    ·exact s2.to v (by simp [hv])
    ·exact s.to v (by simp)
    ·exact s.to v (by simp [hv])
  ·intro v hv x hx
   simp only [Wy,WM] at hv
   rcases hv with hv | rfl | hv
   ·rcases s2.ed v hv x hx with h1 | ⟨i,h1,h2⟩
    ·exact Or.inl h1
    ·exact Or.inr ⟨i,h1,W0 hmin h2⟩
   ·obtain ⟨j,hj1,hj2⟩:=List.getElem_of_mem hx
    rcases s.en j x (by omega) (by rw [Wv hj1,hj2]) with h1 | ⟨i,h1,h2⟩
    ·exact Or.inl h1
    ·exact Or.inr ⟨i,h1,W0 hmin2 h2⟩
   ·rcases s.ed v hv x hx with h1 | ⟨i,h1,h2⟩
    ·exact Or.inl h1
    ·exact Or.inr ⟨i,h1,W0 hmin2 h2⟩
  ·intro j x hj hx
   rcases s2.en j x hj hx with h1 | ⟨i,h1,h2⟩
   ·exact Or.inl h1
   ·exact Or.inr ⟨i,h1,W0 hmin h2⟩
 ·intro v hv
  rw [ho]
  by_cases e:v = u
  ·subst e
   rw [bf]
   have h1:v∈aE ((n,k,r) :: (v,ku,ru) :: t) ++ gs.flatten:=by simp [aE]
   constructor
   ·intro h2; omega
   ·intro h2; exact absurd h1 h2
  ·rw [hlow v e]; exact h.un v hv
 ·intro v hv
  rw [hlow v λe=>y5 (e ▸ hv)]
  exact h.dn v hv
variable {E:Nat->List Nat} {N:Nat} {low:Nat->Nat} {S t:List Sc} {gs:List (List Nat)}
theorem Inv.VP {n k u ku:Nat} {r ru:List Nat} (h:Inv E N low ((n,k,r) :: (u,ku,ru) :: t) gs) (hl:low n = (aE ((u,ku,ru) :: t)).length + 1):min (low u) (low n) = low u:=by
 obtain ⟨s,hu,s2,hu2,ht⟩:=h.ok
 have:=s2.top
 rw [bV] at hl
 omega
theorem Inv.pop {n k:Nat} {r:List Nat} (h:Inv E N low ((n,k,r) :: t) gs) (hk:k = (E n).length) (hl:low n = (aE t).length + 1) :
  Inv E N (λv=>if v∈n :: r then N + 1 else low v) t (gs ++ [n :: r]):=by
 obtain ⟨s,hu,ht⟩:=h.ok
 have hnd:=h.nd
 simp only [aE,Xb,Wy] at hnd
 obtain ⟨⟨h1,h2,h3⟩,h4,h5⟩:=hnd
 have hop:aE ((n,k,r) :: t) = aE t ++ n :: r:=rfl
 have hin:∀ (i m:Nat),(aE ((n,k,r) :: t))[i]? = some m->low n<=i + 1->m∈n :: r:=by
  intro i m hi hle
  rw [hop,WK (by omega)] at hi
  exact Wu hi
 have back:∀ p:Nat,∀ i:Nat,i < p->∀ v:Nat,v∈n :: r->(aE ((n,k,r) :: t))[i]? = some v->Rc E v n:=by
  intro p
  induction p with
  | zero=>intro i hi; omega
  | succ p ih =>
   intro i hi v hv hiv
   rcases WM.1 hv with rfl | hr
   ·exact .refl _
   ·have a1:=s.at_ v hr i hiv
    have a2:=s.lo v hr
    obtain ⟨u,b1,b2⟩:=s.to v hv
    have a3:=s.pos v hv
    exact b2.trans (ih (low v - 1) (by omega) u (hin _ u b1 (by omega)) b1)
 have back:∀ v∈n :: r,Rc E v n:=by
  intro v hv
  obtain ⟨i,hi1,hi2⟩:=List.getElem_of_mem (show v∈aE ((n,k,r) :: t) by rw [hop]; exact List.mem_append_right _ hv)
  exact back (i + 1) i (by omega) v hv (by rw [Wv hi1,hi2])
 have fwd:∀ v∈n :: r,Rc E n v:=by
  intro v hv
  rcases WM.1 hv with rfl | hr
  ·exact .refl _
  ·exact s.rc v hr
 have hg:Good E (gs ++ [n :: r]):=by
  refine h.good.snoc (by simp) h2 (λa ha hb=>h5 a (Or.inr ha) a hb rfl) (λa ha b hb=>(back a ha).trans (fwd b hb)) ?_
  intro a ha b hb
  rcases WM.1 ha with rfl | hr
  ·obtain ⟨j,hj1,hj2⟩:=List.getElem_of_mem hb
   rcases s.en j b (by omega) (by rw [Wv hj1,hj2]) with h1 | ⟨i,h1,h2⟩
   ·exact Or.inr h1
   ·exact Or.inl (hin i b h1 h2)
  ·rcases s.ed a hr b hb with h1 | ⟨i,h1,h2⟩
   ·exact Or.inr h1
   ·exact Or.inl (hin i b h1 h2)
 have hdis:∀ v∈aE t,v∉n :: r:=λv hv e=>h3 v hv v e rfl
 have hfl:∀ v,v∈(gs ++ [n :: r]).flatten↔v∈gs.flatten\/v∈n :: r:=by intro v; rw [List.flatten_append,Wy,List.flatten_singleton]
 have hmono:=OK.mono (low':=λv=>if v∈n :: r then N + 1 else low v) (op':=aE t) (D':=(·∈(gs ++ [n :: r]).flatten)) _ ht
  (λv hv=>by simp only [WB (hdis v hv)])
  (λi v hi=>by
   by_cases hb:i < (aE t).length
   ·rw [hop,WI hb] at hi
    exact Or.inl hi
   ·rw [hop,WK (by omega)] at hi
    exact Or.inr ((hfl v).2 (Or.inr (Wu hi))))
  (λi v hi _=>by
   rw [hop,WI (Wt.1 hi).1]
   exact hi)
  (λi hi=>by rw [hop,WI hi]) h.TN (λv hv=>(hfl v).2 (Or.inl hv))
  (λi hi=>by rw [hop,WI hi])
 refine ⟨hmono,?_,?_,?_,?_,hg⟩
 ·rw [Xb]
  refine ⟨h1,hg.1,?_⟩
  intro a ha b hb e
  subst e
  rcases (hfl a).1 hb with hb | hb
  ·exact h5 a (Or.inl ha) a hb rfl
  ·exact hdis a ha hb
 ·intro v hv
  rw [Wy,hfl] at hv
  refine h.lt v ?_
  rw [hop,Wy,Wy]
  rcases hv with hv | hv | hv
  ·exact Or.inl (Or.inl hv)
  ·exact Or.inr hv
  ·exact Or.inl (Or.inr hv)
 ·intro v hv
  rw [Wy,hfl]
  by_cases e:v∈n :: r
  ·simp only [WJ e]
   constructor
   ·intro h; omega
   ·intro h; exact absurd (Or.inr (Or.inr e)) h
  ·simp only [WB e]
   rw [h.un v hv,hop,Wy,Wy]
   constructor
   ·intro a b
    rcases b with b | b | b
    ·exact a (Or.inl (Or.inl b))
    ·exact a (Or.inr b)
    ·exact e b
   ·intro a b
    rcases b with (b | b) | b
    ·exact a (Or.inl b)
    ·exact e b
    ·exact a (Or.inr (Or.inl b))
 ·intro v hv
  rcases (hfl v).1 hv with hv | hv
  ·by_cases e:v∈n :: r
   ·simp only [WJ e]
   ·simp only [WB e]; exact h.dn v hv
  ·simp only [WJ hv]
theorem Inv.start (E:Nat->List Nat) (N:Nat):Inv E N (λ_=>0) [] []:=⟨trivial,by simp [aE],by simp [aE],by simp [aE],by simp,Good.nil E⟩
def todo (E:Nat->List Nat) (N:Nat) (low:Nat->Nat) (S:List Sc):Nat :=
 ((List.range N).map λv=>if low v = 0 then (E v).length + 2 else 0).sum + (S.map λs=>(E s.1).length + 1 - s.2.1).sum
theorem TP {l:List Nat} {f g:Nat->Nat} (h:∀ v∈l,f v<=g v):(l.map f).sum<=(l.map g).sum:=by
 induction l with
 | nil=>simp
 | cons a l ih =>
  have h1:=h a (by simp)
  have h2:=ih λv hv=>h v (by simp [hv])
  simp only [Xf,Yz]; omega
theorem TQ {l:List Nat} {f g:Nat->Nat} (h:∀ v∈l,f v<=g v) {a d:Nat} (ha:a∈l) (hd:f a + d<=g a):(l.map f).sum + d<=(l.map g).sum:=by
 induction l with
 | nil=>simp at ha
 | cons b l ih =>
  simp only [Xf,Yz]
  rcases WM.1 ha with rfl | ha
  ·have:=TP (l:=l) λv hv=>h v (by simp [hv])
   omega
  ·have h1:=h b (by simp)
   have h2:=ih (λv hv=>h v (by simp [hv])) ha
   omega
theorem MA {n k m:Nat} {r:List Nat} (h:Inv E N low ((n,k,r) :: t) gs) (hk:(E n)[k]? = some m) (hm:m < N) (h0:low m = 0) (x:Nat) (hx:x≠0) :
  todo E N (AB low m x) ((m,0,[]) :: (n,k + 1,r) :: t) < todo E N low ((n,k,r) :: t):=by
 have hle:k < (E n).length:=(Wt.1 hk).1
 have:=TQ (l:=List.range N) (f:=λv=>if AB low m x v = 0 then (E v).length + 2 else 0) (g:=λv=>if low v = 0 then (E v).length + 2 else 0) (a:=m) (d:=(E m).length + 2)
  (λv _=>by
   by_cases e:v = m
   ·subst e; simp [bf,hx]
   ·rw [da e]; exact WO _) (WY.2 hm) (by simp [bf,hx,h0])
 unfold todo
 simp only [Xf,Yz]
 omega
theorem zj {low' : Nat->Nat} (h:∀ v,v < N->(low' v = 0↔low v = 0)):((List.range N).map λv=>if low' v = 0 then (E v).length + 2 else 0).sum = ((List.range N).map λv=>if low v = 0 then (E v).length + 2 else 0).sum:=by
 congr 1
 refine XJ λv hv=>?_
 have:=h v (WY.1 hv)
 by_cases e:low v = 0
 ·simp [e,this.2 e]
 ·simp [e,mt this.1 e]
end Go.V.bR
namespace Go.Proofs.YtndaepmjkbmjmaaGreatDoor
abbrev H6:FuncId:=27
def DG:bg:={ rngs:=[],loops:=[(9,[(7,(.one .slice)),(31,(.one (.int .i64)))]),(13,[(42,(.one (.int .i64)))])],joins:=[],blocks:=[] }
theorem DH {a:YB} {b c:Nat} {d:YB} {e f:Nat} {g:YB} {i j:Nat} {k:Int} {l:YB} {m n:Nat} {w:YC} {R:Value->WP} (h:new w (oC [vS a b c,vS d e f,vS g i j,iI k,vS l m n] 27) λk1 w1=>∃ o1 k2 k3 o2 k4 k5 o3 k6 k7 n1 o4 k8 k9,rA w1 (aM k1) 5 [vS o1 k2 k3,vS o2 k4 k5,vS o3 k6 k7,iI n1,vS o4 k8 k9]/\rE 57 [vG [vS o1 k2 k3,vS o2 k4 k5,vS o3 k6 k7,iI n1,vS o4 k8 k9]] w1 λv1 w2=>∃ o5 k10 k11 n2,v1 = vU [vS o5 k10 k11,iI n2]/\br (n2 != 0) (R (vU [vS none 0 0,iI n2]) w2) (∃ o6 k12 k13 o7 k14 k15 o8 k16 k17 n3 o9 k18 k19,rA w2 (aM k1) 5 [vS o6 k12 k13,vS o7 k14 k15,vS o8 k16 k17,iI n3,vS o9 k18 k19]/\rE 58 [vG [vS o6 k12 k13,vS o7 k14 k15,vS o8 k16 k17,iI n3,vS o9 k18 k19]] w2 λv2 w3=>∃ o10 k20 k21 n4,v2 = vU [vS o10 k20 k21,iI n4]/\br (n4 != 0) (R (vU [vS none 0 0,iI n4]) w3) (∃ (x1:lP [(7,fX),(31,aD)]),∃ (x2:lN [(7,fX),(31,aD)]),x1 none 0 0 0 w3/\∀ (I1:Nat->Value) (o11:YB) (k22 k23:Nat) (n5:Int) (w4:YC),x1 o11 k22 k23 n5 w4->br (decide (n5 < (k20:Int))) (idx o10 k20 n5 3 λa1=>∃ n6 n7 o12 k24 k25,rA w4 a1 3 [iI n6,iI n7,vS o12 k24 k25]/\new w4 (oC [iI 0,iI 0,vS none 0 0] 117) λk26 w5=>fL w5 (aM k26) [iI n6,iI n7,vS o12 k24 k25] λw6=>∃ o13 k27 k28,cL w6 (aM k1) (vS o13 k27 k28)/\rE 59 [iI (k27:Int),vS none 0 0] w6 λv3 w7=>∃ o14,v3 = vP o14/\∃ o15 k29 k30,cL w7 (Addr.add (aM k26) 2) (vS o15 k29 k30)/\∃ (x3:lP [(42,aD)]),∃ (x4:lN [(42,aD)]),x3 0 w7/\∀ (I2:Nat->Value) (n8:Int) (w8:YC),x3 n8 w8->br (decide (n8 < (k29:Int))) (idx o15 k29 n8 1 λa2=>∃ n9,cL w8 a2 (iI n9)/\idx o5 k10 n9 1 λa3=>∃ o16 k31 k32,cL w8 a3 (vS o16 k31 k32)/\rE 60 [vP o14,vS o16 k31 k32] w8 λv4 w9=>∃ n10,v4 = iI n10/\ax (n8 + 1)/\x3 (n8 + 1) w9/\x4 (n8 + 1) w9 < x4 n8 w8) (∀ w10,drawn w8 w10->∃ (I3:WP),I3 w10/\∃ n11,(∀ w11,I3 w11->cL w11 (aM k26) (iI n11))/\∃ n12,(∀ w12,I3 w12->cL w12 (Addr.add (aM k26) 1) (iI n12))/\rE 61 [vP o14] w10 λv5 w13=>∃ o17 k33 k34,v5 = vS o17 k33 k34/\I3 w13/\new w13 (oC [iI n11,iI n12,vS o17 k33 k34] 58) λk35 w14=>I3 w14/\rS (ir 48 (Array.mk [vS o11 k22 k23,vS (some (aM k35)) 1 1])) w14 λv6 w15=>∃ o18 k36 k37,v6 = vS o18 k36 k37/\I3 w15/\ax (n5 + 1)/\x1 o18 k36 k37 (n5 + 1) w15/\x2 o18 k36 k37 (n5 + 1) w15 < x2 o11 k22 k23 n5 w4)) (rE 62 [vS o11 k22 k23] w4 λv7 w16=>∃ o19 k38 k39,v7 = vS o19 k38 k39/\R (vU [vS o19 k38 k39,iI 0]) w16)))):aA Tryz.prog 27 [(.agg #[(.slice a b c),(.slice d e f),(.slice g i j),(.int .i64 k),(.slice l m n)])] w R:=rv Tryz.func27 DG (by kernel_rfl) h
abbrev zk:FuncId:=57
def v_:bg:={ rngs:=[],loops:=[],joins:=[],blocks:=[] }
theorem wb {a:YB} {b c:Nat} {d:YB} {e f:Nat} {g:YB} {i j:Nat} {k:Int} {l:YB} {m n:Nat} {w:YC} {R:Value->WP} (h:new w (oC [vS a b c,vS d e f,vS g i j,iI k,vS l m n] 27) λk1 w1=>∀ w2,drawn w1 w2->∃ (I1:WP),I1 w2/\∃ o1 k2 k3 o2 k4 k5 o3 k6 k7 n1 o4 k8 k9,(∀ w3,I1 w3->rA w3 (aM k1) 5 [vS o1 k2 k3,vS o2 k4 k5,vS o3 k6 k7,iI n1,vS o4 k8 k9])/\rE 102 [] w2 λv1 w4=>∃ o5 k10 k11,v1 = vS o5 k10 k11/\∃ (I2:WP),I2 w4/\(∀ w5,I2 w5->I1 w5)/\idx o5 k10 1 2 λa1=>∃ g1 x1 g2 x2,(∀ w6,I2 w6->rA w6 a1 2 [Value.func (Fn.func g1) (Array.mk []) (Array.mk x1),Value.func (Fn.func g2) (Array.mk []) (Array.mk x2)])/\rE 103 [vG [Value.func (Fn.func g1) (Array.mk []) (Array.mk x1),Value.func (Fn.func g2) (Array.mk []) (Array.mk x2)],vG [vS o1 k2 k3,vS o2 k4 k5,vS o3 k6 k7,iI n1,vS o4 k8 k9]] w4 λv2 w7=>∃ o6 k12 k13 n2,v2 = vU [vS o6 k12 k13,iI n2]/\I2 w7/\R (vU [vS o6 k12 k13,iI n2]) w7):aA Tryz.prog 57 [(.agg #[(.slice a b c),(.slice d e f),(.slice g i j),(.int .i64 k),(.slice l m n)])] w R:=rv Tryz.func57 v_ (by kernel_rfl) h
def gX:bg:={ rngs:=[],loops:=[],joins:=[],blocks:=[] }
theorem gY {a:YB} {b c:Nat} {w:YC} {R:Value->WP} (h:uw a b c none (some (b:Int)) (some (b:Int)) 3 λ(o1:YB) (k1 k2:Nat)=>R (vS o1 k1 k2) w):aA Tryz.prog 62 [(.slice a b c)] w R:=rv Tryz.func62 gX (by kernel_rfl) h
abbrev zl:FuncId:=102
def we:bg:={ rngs:=[],loops:=[],joins:=[],blocks:=[] }
theorem wg  {w:YC} {R:Value->WP} (h:new w (oC [Value.func (Fn.func 158) (Array.mk []) (Array.mk []),Value.func (Fn.func 159) (Array.mk []) (Array.mk []),Value.func (Fn.func 160) (Array.mk []) (Array.mk []),Value.func (Fn.func 161) (Array.mk []) (Array.mk [])] 172) λk1 w1=>R (vS (some (aM k1)) 2 2) w1):aA Tryz.prog 102 [] w R:=rv Tryz.func102 we (by kernel_rfl) h
abbrev pU:FuncId:=103
def mZ:bg:={ rngs:=[],loops:=[],joins:=[],blocks:=[] }
theorem m_ {a:FuncId} {b:List Value} {c:FuncId} {d:List Value} {e:YB} {f g:Nat} {i:YB} {j k:Nat} {l:YB} {m n:Nat} {o:Int} {p:YB} {q s:Nat} {w:YC} {R:Value->WP} (h:new w (oC [Value.func (Fn.func a) (Array.mk []) (Array.mk b),Value.func (Fn.func c) (Array.mk []) (Array.mk d)] 172) λk1 w1=>new w1 (oC [vS e f g,vS i j k,vS l m n,iI o,vS p q s] 27) λk2 w2=>∃ g1 x1,cL w2 (aM k1) (Value.func (Fn.func g1) (Array.mk []) (Array.mk x1))/\∃ o1 k3 k4 o2 k5 k6 o3 k7 k8 n1 o4 k9 k10,rA w2 (aM k2) 5 [vS o1 k3 k4,vS o2 k5 k6,vS o3 k7 k8,iI n1,vS o4 k9 k10]/\wI (Proofs.YtndaepmjkbmjmaaGreatDoor.Fn g1) (rE g1 (vG [vS o1 k3 k4,vS o2 k5 k6,vS o3 k7 k8,iI n1,vS o4 k9 k10] :: x1) w2 λv1 w3=>∃ o5 k11 k12 n2,v1 = vU [vS o5 k11 k12,iI n2]/\br (n2 != 0) (R (vU [vS none 0 0,iI n2]) w3) (∃ g2 x2,cL w3 (Addr.add (aM k1) 1) (Value.func (Fn.func g2) (Array.mk []) (Array.mk x2))/\∃ o6 k13 k14 o7 k15 k16 o8 k17 k18 n3 o9 k19 k20,rA w3 (aM k2) 5 [vS o6 k13 k14,vS o7 k15 k16,vS o8 k17 k18,iI n3,vS o9 k19 k20]/\wI (Proofs.YtndaepmjkbmjmaaGreatDoor.Fn g2) (rE g2 (vG [vS o6 k13 k14,vS o7 k15 k16,vS o8 k17 k18,iI n3,vS o9 k19 k20] :: x2) w3 λv2 w4=>∃ o10 k21 k22 n4,v2 = vU [vS o10 k21 k22,iI n4]/\br (n4 != 0) (R (vU [vS none 0 0,iI n4]) w4) (rE 162 [vS o10 k21 k22,vS o5 k11 k12] w4 λv3 w5=>∃ o11 k23 k24 n5,v3 = vU [vS o11 k23 k24,iI n5]/\R (vU [vS o11 k23 k24,iI n5]) w5))))):aA Tryz.prog 103 [(.agg #[(.func (.func a) #[] ⟨b⟩),(.func (.func c) #[] ⟨d⟩)]),(.agg #[(.slice e f g),(.slice i j k),(.slice l m n),(.int .i64 o),(.slice p q s)])] w R:=rv Tryz.func103 mZ (by kernel_rfl) h
abbrev tD:FuncId:=160
def zm:bg:={ rngs:=[],loops:=[],joins:=[],blocks:=[] }
theorem zn {a:YB} {b c:Nat} {d:YB} {e f:Nat} {g:YB} {i j:Nat} {k:Int} {l:YB} {m n:Nat} {w:YC} {R:Value->WP} (h:new w (oC [vS a b c,vS d e f,vS g i j,iI k,vS l m n] 27) λk1 w1=>∀ w2,drawn w1 w2->∃ (I1:WP),I1 w2/\∃ o1 k2 k3 o2 k4 k5 o3 k6 k7 n1 o4 k8 k9,(∀ w3,I1 w3->rA w3 (aM k1) 5 [vS o1 k2 k3,vS o2 k4 k5,vS o3 k6 k7,iI n1,vS o4 k8 k9])/\rE 102 [] w2 λv1 w4=>∃ o5 k10 k11,v1 = vS o5 k10 k11/\∃ (I2:WP),I2 w4/\(∀ w5,I2 w5->I1 w5)/\idx o5 k10 0 2 λa1=>∃ g1 x1 g2 x2,(∀ w6,I2 w6->rA w6 a1 2 [Value.func (Fn.func g1) (Array.mk []) (Array.mk x1),Value.func (Fn.func g2) (Array.mk []) (Array.mk x2)])/\rE 103 [vG [Value.func (Fn.func g1) (Array.mk []) (Array.mk x1),Value.func (Fn.func g2) (Array.mk []) (Array.mk x2)],vG [vS o1 k2 k3,vS o2 k4 k5,vS o3 k6 k7,iI n1,vS o4 k8 k9]] w4 λv2 w7=>∃ o6 k12 k13 n2,v2 = vU [vS o6 k12 k13,iI n2]/\I2 w7/\R (vU [vS o6 k12 k13,iI n2]) w7):aA Tryz.prog 160 [(.agg #[(.slice a b c),(.slice d e f),(.slice g i j),(.int .i64 k),(.slice l m n)])] w R:=rv Tryz.func160 zm (by kernel_rfl) h
abbrev AD:FuncId:=162
def xQ:bg:={ rngs:=[],loops:=[(4,[(22,(.one (.int .i64)))])],joins:=[(2,[(19,(.one .bool))])],blocks:=[] }
theorem xR {a:YB} {b c:Nat} {d:YB} {e f:Nat} {w:YC} {R:Value->WP} (h:new w (oC [vS a b c] 71) λk1 w1=>new w1 (oC [vS d e f] 71) λk2 w2=>∃ (x1:lP [(19,mE)]),(∃ o1 k3 k4,World.cell? w2 (aM k1) = some (vS o1 k3 k4)/\rE 208 [vS o1 k3 k4] w2 λv1 w3=>∃ b1,v1 = vB b1/\br (!b1) (x1 true w3) (∃ o2 k5 k6,World.cell? w3 (aM k2) = some (vS o2 k5 k6)/\∃ o3 k7 k8,World.cell? w3 (aM k1) = some (vS o3 k7 k8)/\x1 ((k5:Int) != (k7:Int)) w3))/\∀ (I1:Nat->Value) (b2:Bool) (w4:YC),x1 b2 w4->br b2 (R (vU [vS none 0 0,iI 1]) w4) (∃ o4 k9 k10,World.cell? w4 (aM k2) = some (vS o4 k9 k10)/\∃ (x2:lP [(22,aD)]),∃ (x3:lN [(22,aD)]),x2 0 w4/\∀ (I2:Nat->Value) (n1:Int) (w5:YC),x2 n1 w5->br (decide (n1 < (k9:Int))) (idx o4 k9 n1 1 λa1=>∃ o5 k11 k12,World.cell? w5 a1 = some (vS o5 k11 k12)/\rE 209 [vS o5 k11 k12,Value.func (Fn.func 210) (Array.mk []) (Array.mk [])] w5 λv2 w6=>∃ b3,v2 = vB b3/\br b3 (R (vU [vS none 0 0,iI 1]) w6) (ax (n1 + 1)/\x2 (n1 + 1) w6/\x3 (n1 + 1) w6 < x3 n1 w5)) (∃ o6 k13 k14,World.cell? w5 (aM k1) = some (vS o6 k13 k14)/\wG (k13:Int) (k13:Int) 8/\new w5 (Obj.cells (Array.mk (jB (Int.toNat (k13:Int)) [vP none])) 118) λk15 w7=>new w7 (oC [vS none 0 0] 286) λk16 w8=>st1 w8 (aM k16) (vS (some (aM k15)) (Int.toNat (k13:Int)) (Int.toNat (k13:Int))) λw9=>∃ o7 k17 k18,World.cell? w9 (aM k1) = some (vS o7 k17 k18)/\wG (k17:Int) (k17:Int) 24/\new w9 (Obj.cells (Array.mk (jB (Int.toNat (k17:Int)) [vS none 0 0])) 24) λk19 w10=>new w10 (oC [vS none 0 0] 71) λk20 w11=>st1 w11 (aM k20) (vS (some (aM k19)) (Int.toNat (k17:Int)) (Int.toNat (k17:Int))) λw12=>∃ o8 k21 k22,World.cell? w12 (aM k1) = some (vS o8 k21 k22)/\rE 211 [vS o8 k21 k22,Value.func (Fn.func 212) (Array.mk []) (Array.mk [vP (some (aM k16)),vP (some (aM k2)),vP (some (aM k1)),vP (some (aM k20))])] w12 λv3 w13=>v3 = vU []/\∃ o9 k23 k24,World.cell? w13 (aM k20) = some (vS o9 k23 k24)/\R (vU [vS o9 k23 k24,iI 0]) w13))):aA Tryz.prog 162 [(.slice a b c),(.slice d e f)] w R:=rv Tryz.func162 xQ (by kernel_rfl) h
abbrev AE:FuncId:=208
def xS:bg:={ rngs:=[],loops:=[],joins:=[],blocks:=[] }
theorem xT {a:YB} {b c:Nat} {w:YC} {R:Value->WP} (h:new w (oC [vS a b c] 71) λk1 w1=>∃ o1 k2 k3,World.cell? w1 (aM k1) = some (vS o1 k2 k3)/\rE 242 [vS o1 k2 k3,Value.func (Fn.func 243) (Array.mk []) (Array.mk [vP (some (aM k1))])] w1 λv1 w2=>∃ b1,v1 = vB b1/\R (vB !b1) w2):aA Tryz.prog 208 [(.slice a b c)] w R:=rv Tryz.func208 xS (by kernel_rfl) h
abbrev wh:FuncId:=210
def tE:bg:={ rngs:=[],loops:=[],joins:=[],blocks:=[] }
theorem tF {a:Int} {w:YC} {R:Value->WP} (h:br (decide (a < 0)) (R (vB true) w) (R (vB (decide (1024<=a))) w)):aA Tryz.prog 210 [(.int .i64 a)] w R:=rv Tryz.func210 tE (by kernel_rfl) h
abbrev CF:FuncId:=211
def zo:bg:={ rngs:=[],loops:=[(5,[(26,(.one (.int .i64)))]),(12,[]),(14,[]),(30,[(170,(.one (.int .i64)))])],joins:=[(26,[])],blocks:=[] }
theorem zp {a:YB} {b c:Nat} {d:FuncId} {e:List Value} {w:YC} {R:Value->WP} (h:wG (b:Int) (b:Int) 8/\new w (Obj.cells (Array.mk (jB (Int.toNat (b:Int)) [iI 0])) 3) λk1 w1=>new w1 (oC [vS none 0 0] 24) λk2 w2=>st1 w2 (aM k2) (vS (some (aM k1)) (Int.toNat (b:Int)) (Int.toNat (b:Int))) λw3=>ax ((b:Int) + 1)/\new w3 (oC [vS none 0 0] 24) λk3 w4=>new w4 (oC [vS none 0 0] 318) λk4 w5=>∃ (x1:lP [(26,aD)]),∃ (x2:lN [(26,aD)]),x1 0 w5/\∀ (I1:Nat->Value) (n1:Int) (w6:YC),x1 n1 w6->br (decide (n1 < (b:Int))) (∃ o1 k5 k6,World.cell? w6 (aM k2) = some (vS o1 k5 k6)/\idx o1 k5 n1 1 λa1=>∃ n2,World.cell? w6 a1 = some (iI n2)/\br (decide (0 < n2)) (ax (n1 + 1)/\x1 (n1 + 1) w6/\x2 (n1 + 1) w6 < x2 n1 w6) (new w6 (Obj.map (Array.mk []) 0) λk7 w7=>∃ o2 k8 k9,World.cell? w7 (aM k3) = some (vS o2 k8 k9)/\ax ((k8:Int) + 1)/\aX Proofs.Tryz.prog (Instr.mapUpdate 226 (Value.map (some k7)) (iI n1) (iI ((k8:Int) + 1))) w7 λ(x3:Unit) (w8:YC)=>rE 246 [iI n1,vP (some (aM k3)),vP (some (aM k2)),vP (some (aM k4))] w8 λv1 w9=>v1 = vU []/\∃ (x4:lP []),∃ (x5:lN []),x4 w9/\∀ (I2:Nat->Value) (w10:YC),x4 w10->∃ o3 k10 k11,World.cell? w10 (aM k4) = some (vS o3 k10 k11)/\br (decide (0 < (k10:Int))) (∃ o4 k12 k13,World.cell? w10 (aM k4) = some (vS o4 k12 k13)/\∃ o5 k14 k15,World.cell? w10 (aM k4) = some (vS o5 k14 k15)/\ax ((k14:Int) - 1)/\idx o4 k12 ((k14:Int) - 1) 2 λa2=>∃ (x6:lP []),∃ (x7:lN []),x6 w10/\∀ (I3:Nat->Value) (w11:YC),x6 w11->∀ w12,drawn w11 w12->∃ (I4:WP),I4 w12/\∃ n3,(∀ w13,I4 w13->World.cell? w13 (Addr.add a2 1) = some (iI n3))/\∃ n4,(∀ w14,I4 w14->World.cell? w14 a2 = some (iI n4))/\idx a b n4 1 λa3=>∃ o6 k16 k17,(∀ w15,I4 w15->World.cell? w15 a3 = some (vS o6 k16 k17))/\br (decide (n3 < (k16:Int))) (∀ w16,drawn w12 w16->∃ (I5:WP),I5 w16/\∃ n5,(∀ w17,I5 w17->World.cell? w17 a2 = some (iI n5))/\idx a b n5 1 λa4=>∃ o7 k18 k19,(∀ w18,I5 w18->World.cell? w18 a4 = some (vS o7 k18 k19))/\∃ n6,(∀ w19,I5 w19->World.cell? w19 (Addr.add a2 1) = some (iI n6))/\idx o7 k18 n6 1 λa5=>∃ n7,(∀ w20,I5 w20->World.cell? w20 a5 = some (iI n7))/\∃ n8,World.cell? w16 (Addr.add a2 1) = some (iI n8)/\ax (n8 + 1)/\st1 w16 (Addr.add a2 1) (iI (n8 + 1)) λw21=>∃ o8 k20 k21,World.cell? w21 (aM k2) = some (vS o8 k20 k21)/\idx o8 k20 n7 1 λa6=>∃ n9,World.cell? w21 a6 = some (iI n9)/\br (n9 == 0) (∃ o9 k22 k23,World.cell? w21 (aM k3) = some (vS o9 k22 k23)/\ax ((k22:Int) + 1)/\aX Proofs.Tryz.prog (Instr.mapUpdate 226 (Value.map (some k7)) (iI n7) (iI ((k22:Int) + 1))) w21 λ(x8:Unit) (w22:YC)=>rE 246 [iI n7,vP (some (aM k3)),vP (some (aM k2)),vP (some (aM k4))] w22 λv2 w23=>v2 = vU []/\x4 w23/\x5 w23 < x5 w10) (∀ w24,drawn w21 w24->∃ (I6:WP),I6 w24/\∃ o10 k24 k25,(∀ w25,I6 w25->World.cell? w25 (aM k2) = some (vS o10 k24 k25))/\∃ n10,(∀ w26,I6 w26->World.cell? w26 a2 = some (iI n10))/\∃ o11 k26 k27,(∀ w27,I6 w27->World.cell? w27 (aM k2) = some (vS o11 k26 k27))/\∃ n11,(∀ w28,I6 w28->World.cell? w28 a2 = some (iI n11))/\idx o11 k26 n11 1 λa7=>∃ n12,(∀ w29,I6 w29->World.cell? w29 a7 = some (iI n12))/\∃ o12 k28 k29,(∀ w30,I6 w30->World.cell? w30 (aM k2) = some (vS o12 k28 k29))/\idx o12 k28 n7 1 λa8=>∃ n13,(∀ w31,I6 w31->World.cell? w31 a8 = some (iI n13))/\idx o10 k24 n10 1 λa9=>st1 w24 a9 (iI (if n13 < n12 then n13 else n12)) λw32=>x6 w32/\x7 w32 < x7 w11)) (∃ n14,World.cell? w12 a2 = some (iI n14)/\∃ o13 k30 k31,World.cell? w12 (aM k4) = some (vS o13 k30 k31)/\∃ o14 k32 k33,World.cell? w12 (aM k4) = some (vS o14 k32 k33)/\ax ((k32:Int) - 1)/\uw o13 k30 k31 none (some ((k32:Int) - 1)) none 2 λ(o15:YB) (k34 k35:Nat)=>st1 w12 (aM k4) (vS o15 k34 k35) λw33=>∃ (x9:lP []),(∃ o16 k36 k37,World.cell? w33 (aM k4) = some (vS o16 k36 k37)/\br (decide (0 < (k36:Int))) (∃ o17 k38 k39,World.cell? w33 (aM k4) = some (vS o17 k38 k39)/\∃ o18 k40 k41,World.cell? w33 (aM k4) = some (vS o18 k40 k41)/\ax ((k40:Int) - 1)/\idx o17 k38 ((k40:Int) - 1) 2 λa10=>∃ n15,World.cell? w33 a10 = some (iI n15)/\∀ w34,drawn w33 w34->∃ (I7:WP),I7 w34/\∃ o19 k42 k43,(∀ w35,I7 w35->World.cell? w35 (aM k2) = some (vS o19 k42 k43))/\∃ o20 k44 k45,(∀ w36,I7 w36->World.cell? w36 (aM k2) = some (vS o20 k44 k45))/\idx o20 k44 n15 1 λa11=>∃ n16,(∀ w37,I7 w37->World.cell? w37 a11 = some (iI n16))/\∃ o21 k46 k47,(∀ w38,I7 w38->World.cell? w38 (aM k2) = some (vS o21 k46 k47))/\idx o21 k46 n14 1 λa12=>∃ n17,(∀ w39,I7 w39->World.cell? w39 a12 = some (iI n17))/\idx o19 k42 n15 1 λa13=>st1 w34 a13 (iI (if n17 < n16 then n17 else n16)) λw40=>x9 w40) (x9 w33))/\∀ (I8:Nat->Value) (w41:YC),x9 w41->∀ w42,drawn w41 w42->∃ (I9:WP),I9 w42/\∃ o22 k48 k49,(∀ w43,I9 w43->World.cell? w43 (aM k2) = some (vS o22 k48 k49))/\idx o22 k48 n14 1 λa14=>∃ n18,(∀ w44,I9 w44->World.cell? w44 a14 = some (iI n18))/\aX Proofs.Tryz.prog (Instr.lookup 226 (Value.map (some k7)) (iI n14) false) w42 λv3 w45=>∃ n19,v3 = iI n19/\I9 w45/\br (n18 == n19) (∃ o23 k50 k51,World.cell? w45 (aM k3) = some (vS o23 k50 k51)/\aX Proofs.Tryz.prog (Instr.lookup 226 (Value.map (some k7)) (iI n14) false) w45 λv4 w46=>∃ n20,v4 = iI n20/\ax (n20 - 1)/\uw o23 k50 k51 (some (n20 - 1)) none none 1 λ(o24:YB) (k52 k53:Nat)=>rE 214 [vS o24 k52 k53] w46 λv5 w47=>∃ o25 k54 k55,v5 = vS o25 k54 k55/\∃ o26 k56 k57,World.cell? w47 (aM k3) = some (vS o26 k56 k57)/\aX Proofs.Tryz.prog (Instr.lookup 226 (Value.map (some k7)) (iI n14) false) w47 λv6 w48=>∃ n21,v6 = iI n21/\ax (n21 - 1)/\uw o26 k56 k57 none (some (n21 - 1)) none 1 λ(o27:YB) (k58 k59:Nat)=>st1 w48 (aM k3) (vS o27 k58 k59) λw49=>∃ (x10:lP [(170,aD)]),∃ (x11:lN [(170,aD)]),x10 0 w49/\∀ (I10:Nat->Value) (n22:Int) (w50:YC),x10 n22 w50->br (decide (n22 < (k54:Int))) (idx o25 k54 n22 1 λa15=>∃ n23,World.cell? w50 a15 = some (iI n23)/\∃ o28 k60 k61,World.cell? w50 (aM k2) = some (vS o28 k60 k61)/\idx o28 k60 n23 1 λa16=>st1 w50 a16 (iI ((b:Int) + 1)) λw51=>ax (n22 + 1)/\x10 (n22 + 1) w51/\x11 (n22 + 1) w51 < x11 n22 w50) (wI (Proofs.YtndaepmjkbmjmaaGreatDoor.Fn d) (rE d (vS o25 k54 k55 :: e) w50 λv7 w52=>v7 = vU []/\x4 w52/\x5 w52 < x5 w10))) (x4 w45/\x5 w45 < x5 w10))) (ax (n1 + 1)/\x1 (n1 + 1) w10/\x2 (n1 + 1) w10 < x2 n1 w6))) (R (vU []) w6)):aA Tryz.prog 211 [(.slice a b c),(.func (.func d) #[] ⟨e⟩)] w R:=rv Tryz.func211 zo (by kernel_rfl) h
abbrev wi:FuncId:=212
def tG:bg:={ rngs:=[],loops:=[(2,[(19,(.one (.int .i64)))]),(7,[(30,(.one (.int .i64)))]),(11,[(45,(.one (.int .i64)))]),(19,[(68,(.one (.int .i64)))])],joins:=[],blocks:=[] }
theorem tH {a:YB} {b c:Nat} {d e f g:Addr} {w:YC} {R:Value->WP} (h:rE 59 [iI 1024,vS none 0 0] w λv1 w1=>∃ o1,v1 = vP o1/\∃ (x1:lP [(19,aD)]),∃ (x2:lN [(19,aD)]),x1 0 w1/\∀ (I1:Nat->Value) (n1:Int) (w2:YC),x1 n1 w2->br (decide (n1 < (b:Int))) (idx a b n1 1 λa1=>∃ n2,World.cell? w2 a1 = some (iI n2)/\∃ o2 k1 k2,World.cell? w2 d = some (vS o2 k1 k2)/\idx o2 k1 n2 1 λa2=>st1 w2 a2 (vP o1) λw3=>ax (n1 + 1)/\x1 (n1 + 1) w3/\x2 (n1 + 1) w3 < x2 n1 w2) (∃ (x3:lP [(30,aD)]),∃ (x4:lN [(30,aD)]),x3 0 w2/\∀ (I2:Nat->Value) (n3:Int) (w4:YC),x3 n3 w4->br (decide (n3 < (b:Int))) (idx a b n3 1 λa3=>∃ n4,World.cell? w4 a3 = some (iI n4)/\∃ o3 k3 k4,World.cell? w4 e = some (vS o3 k3 k4)/\idx o3 k3 n4 1 λa4=>∃ o4 k5 k6,World.cell? w4 a4 = some (vS o4 k5 k6)/\rE 60 [vP o1,vS o4 k5 k6] w4 λv2 w5=>∃ n5,v2 = iI n5/\∃ o5 k7 k8,World.cell? w5 f = some (vS o5 k7 k8)/\idx o5 k7 n4 1 λa5=>∃ o6 k9 k10,World.cell? w5 a5 = some (vS o6 k9 k10)/\∃ (x5:lP [(45,aD)]),∃ (x6:lN [(45,aD)]),x5 0 w5/\∀ (I3:Nat->Value) (n6:Int) (w6:YC),x5 n6 w6->br (decide (n6 < (k9:Int))) (idx o6 k9 n6 1 λa6=>∃ n7,World.cell? w6 a6 = some (iI n7)/\∃ o7 k11 k12,World.cell? w6 d = some (vS o7 k11 k12)/\idx o7 k11 n7 1 λa7=>∃ o8,World.cell? w6 a7 = some (vP o8)/\SP Proofs.YtndaepmjkbmjmaaGreatDoor.Ty (λ(x7:Sem Value) (I4:Value->Prop)=>∃ v3,Sem.run Proofs.Tryz.prog x7 w6 = Result.ok v3 w6/\I4 v3) BinOp.neq 118 (Operand.tmp 52) (Operand.tmp 53) o8 o1 λb1=>br b1 (∃ o9 k13 k14,World.cell? w6 d = some (vS o9 k13 k14)/\idx o9 k13 n7 1 λa8=>∃ o10,World.cell? w6 a8 = some (vP o10)/\new w6 (oC [vP o10] 118) λk15 w7=>rE 213 [vP o1,vS (some (aM k15)) 1 1] w7 λv4 w8=>∃ n8,v4 = iI n8/\ax (n6 + 1)/\x5 (n6 + 1) w8/\x6 (n6 + 1) w8 < x6 n6 w6) (ax (n6 + 1)/\x5 (n6 + 1) w6/\x6 (n6 + 1) w6 < x6 n6 w6)) (ax (n3 + 1)/\x3 (n3 + 1) w6/\x4 (n3 + 1) w6 < x4 n3 w4)) (rE 61 [vP o1] w4 λv5 w9=>∃ o11 k16 k17,v5 = vS o11 k16 k17/\∃ (x8:lP [(68,aD)]),∃ (x9:lN [(68,aD)]),x8 0 w9/\∀ (I5:Nat->Value) (n9:Int) (w10:YC),x8 n9 w10->br (decide (n9 < (b:Int))) (idx a b n9 1 λa9=>∃ n10,World.cell? w10 a9 = some (iI n10)/\∀ w11,drawn w10 w11->∃ (I6:WP),I6 w11/\∃ o12 k18 k19,(∀ w12,I6 w12->World.cell? w12 g = some (vS o12 k18 k19))/\rE 214 [vS o11 k16 k17] w11 λv6 w13=>∃ o13 k20 k21,v6 = vS o13 k20 k21/\I6 w13/\idx o12 k18 n10 1 λa10=>st1 w13 a10 (vS o13 k20 k21) λw14=>ax (n9 + 1)/\x8 (n9 + 1) w14/\x9 (n9 + 1) w14 < x9 n9 w10) (R (vU []) w10)))):aA Tryz.prog 212 [(.slice a b c),(.pointer (some d)),(.pointer (some e)),(.pointer (some f)),(.pointer (some g))] w R:=rv Tryz.func212 tG (by kernel_rfl) h
abbrev wj:FuncId:=243
def tI:bg:={ rngs:=[],loops:=[],joins:=[],blocks:=[] }
theorem tJ {a:YB} {b c:Nat} {d:Addr} {w:YC} {R:Value->WP} (h:rE 209 [vS a b c,Value.func (Fn.func 244) (Array.mk []) (Array.mk [vP (some d)])] w λv1 w1=>∃ b1,v1 = vB b1/\R (vB b1) w1):aA Tryz.prog 243 [(.slice a b c),(.pointer (some d))] w R:=rv Tryz.func243 tI (by kernel_rfl) h
abbrev rj:FuncId:=244
def oD:bg:={ rngs:=[],loops:=[],joins:=[],blocks:=[] }
theorem oE {a:Int} {b:Addr} {w:YC} {R:Value->WP} (h:br (decide (a < 0)) (R (vB true) w) (∃ o1 k1 k2,World.cell? w b = some (vS o1 k1 k2)/\R (vB (decide ((k1:Int)<=a))) w)):aA Tryz.prog 244 [(.int .i64 a),(.pointer (some b))] w R:=rv Tryz.func244 oD (by kernel_rfl) h
abbrev xU:FuncId:=246
def uX:bg:={ rngs:=[],loops:=[],joins:=[],blocks:=[] }
theorem uY {a:Int} {b c d:Addr} {w:YC} {R:Value->WP} (h:∃ o1 k1 k2,World.cell? w b = some (vS o1 k1 k2)/\new w (oC [iI a] 3) λk3 w1=>rS (ir 24 (Array.mk [vS o1 k1 k2,vS (some (aM k3)) 1 1])) w1 λv1 w2=>∃ o2 k4 k5,v1 = vS o2 k4 k5/\st1 w2 b (vS o2 k4 k5) λw3=>∃ o3 k6 k7,World.cell? w3 c = some (vS o3 k6 k7)/\∃ o4 k8 k9,World.cell? w3 b = some (vS o4 k8 k9)/\idx o3 k6 a 1 λa1=>st1 w3 a1 (iI (k8:Int)) λw4=>∃ o5 k10 k11,World.cell? w4 d = some (vS o5 k10 k11)/\new w4 (oC [iI a,iI 0] 320) λk12 w5=>rS (ir 318 (Array.mk [vS o5 k10 k11,vS (some (aM k12)) 1 1])) w5 λv2 w6=>∃ o6 k13 k14,v2 = vS o6 k13 k14/\st1 w6 d (vS o6 k13 k14) λw7=>R (vU []) w7):aA Tryz.prog 246 [(.int .i64 a),(.pointer (some b)),(.pointer (some c)),(.pointer (some d))] w R:=rv Tryz.func246 uX (by kernel_rfl) h
end Go.Proofs.YtndaepmjkbmjmaaGreatDoor
namespace Go.V
def IG (l:List (Nat × Nat)):List Value:=l.flatMap λx=>[.int .i64 (x.1:Int),.int .i64 (x.2:Int)]
theorem F7:∀ l,(IG l).length = l.length * 2
 | []=>rfl
 | x :: l=>by
  have:=F7 l
  unfold IG at this ⊢
  rw [Xc,WA,this]; simp; omega
theorem H7 (l:List (Nat × Nat)) (a b:Nat):IG l ++ [Value.int .i64 (a:Int),.int .i64 (b:Int)] = IG (l ++ [(a,b)]):=by simp [IG]
theorem O9 {gs:List (List Nat)} (h:∀ g∈gs,g≠[]):gs.length<=gs.flatten.length:=by
 induction gs with
 | nil=>simp
 | cons g gs ih =>
  have h1:=ih λx hx=>h x (by simp [hx])
  have h2:=XW.2 (h g (by simp))
  rw [List.flatten_cons,WA,Xj]; omega
theorem bR.Good.ne {E:Nat->List Nat} {gs:List (List Nat)} (h:bR.Good E gs):∀ g∈gs,g≠[]:=λg hg=>by
 obtain ⟨g1,g2,e⟩:=Yq hg
 exact (h.2 g1 g g2 e).1
theorem bR.Good.len {E:Nat->List Nat} {gs:List (List Nat)} {N:Nat} (h:bR.Good E gs) (hl:∀ v∈gs.flatten,v < N):gs.length<=N/\∀ g∈gs,g.length<=N:=by
 have h1:=O9 h.ne
 have h2:=bR.O8 h.1 hl
 refine ⟨by omega,λg hg=>?_⟩
 obtain ⟨g1,g2,e⟩:=Yq hg
 rw [e] at h2; simp at h2; omega
end Go.V
namespace Go.Proofs.YtndaepmjkbmjmaaGreatDoor
abbrev Ls:=(YB × Nat) × List Int
def CG (p:Ls):Value:=.slice p.1.1 p.2.length p.1.2
def zq (p:Ls):ay:=own 1 p.1.1 p.2.length p.1.2 (iv p.2)
variable {w:YC} {L:List ay}
abbrev uZ (ko kl kw bl N:Nat) (oa:YB) (oc:Nat) (wa:YB) (wc:Nat) (op low:List Nat) (wk:List (Nat × Nat)):List ay :=
 [aK ko [.slice oa op.length oc],own 1 oa op.length oc (nS op),aK kl [.slice (some ⟨bl,0,none⟩) N N],aK bl (nS low),aK kw [.slice wa wk.length wc],own 2 wa wk.length wc (IG wk)]
theorem Li {ko kl kw bl N n:Nat} {oa:YB} {oc:Nat} {wa:YB} {wc:Nat} {op low:List Nat} {wk:List (Nat × Nat)}
  (h:St w (uZ ko kl kw bl N oa oc wa wc op low wk ++ L)) (hN:low.length = N) (hn:n < N) (ho:op.length < N) (hw:wk.length < N) (hb:N * 24<=140737488355328) :
  aA Tryz.prog xU [.int .i64 (n:Int),.pointer (some (aM ko)),.pointer (some (aM kl)),.pointer (some (aM kw))] w λv w'=>v = .tuple (Array.mk []) /\
   ∃ oa oc wa wc,St w' (uZ ko kl kw bl N oa oc wa wc (op ++ [n]) (low.set n (op.length + 1)) (wk ++ [(n,0)]) ++ L):=by
 refine @uY (n:Int) (aM ko) (aM kl) (aM kw) w _ ?_
 refine ⟨_,_,_,(ai 0 h.l).cell0 (sub.refl _),ah h λk3 w1 h=>?_⟩
 refine (aN aQ (rfl:aj Ty _ = .slice _) (rfl:aj Ty _ = .slice _) rfl rfl rfl (h.pick 7 [0,2,1,3,4,5,6]) rfl (by simp [aV]) (by show (op.length + 1) * 8<=_; omega) (by omega)).mono ?_
 rintro _ w2 ⟨oa',oc',rfl,h⟩
 rw [N_] at h
 refine ⟨_,_,_,rfl,bj (h.pick 7 [2,0,3,4,5,6]) (by simp) λw3 h=>?_⟩
 refine ⟨_,_,_,(ai 2 h.l).cell0 (sub.refl _),_,_,_,(ai 0 h.l).cell0 (sub.refl _),aw rfl hn ?_⟩
 rw [aL]
 refine bj (h.pick 6 [3,0,1,2,4,5]) (by simp [nS]; omega) λw4 h=>?_
 refine ⟨_,_,_,(ai 4 h.l).cell0 (sub.refl _),ah h λk12 w5 h=>?_⟩
 refine (aN aQ (rfl:aj Ty _ = .slice _) (rfl:aj Ty _ = .slice _) rfl rfl rfl (h.pick 7 [0,6,1,2,3,4,5]) rfl (by simp [aV]) (by show (wk.length + 1) * 16<=_; omega) (by omega)).mono ?_
 rintro _ w6 ⟨wa',wc',rfl,h⟩
 refine ⟨_,_,_,rfl,bj (h.pick 7 [6,0,2,3,4,5]) (by simp) λw7 h=>⟨rfl,oa',oc',wa',wc',?_⟩⟩
 have l1:(op ++ [n]).length = op.length + 1:=by simp
 have l2:(wk ++ [(n,0)]).length = wk.length + 1:=by simp
 unfold uZ
 rw [l1,l2,<- xm,<- H7]
 exact h.pick 6 [3,4,5,2,0,1]
end Go.Proofs.YtndaepmjkbmjmaaGreatDoor
namespace Go.V
section
variable {w:YC} {L:List ay}
theorem xV {l:List (Nat × Nat)}:∀ {i n k:Nat},l[i]? = some (n,k)->(IG l)[i * 2]? = some (.int .i64 (n:Int))/\(IG l)[i * 2 + 1]? = some (.int .i64 (k:Int)):=by
 induction l with
 | nil=>intro i n k h; simp at h
 | cons x l ih =>
  intro i n k h
  have e:IG (x :: l) = Value.int .i64 (x.1:Int) :: Value.int .i64 (x.2:Int) :: IG l:=rfl
  rw [e]
  cases i with
  | zero=>simp at h; subst h; simp
  | succ i =>
   simp only [Yj] at h
   have:=ih h
   rw [show (i + 1) * 2 = i * 2 + 1 + 1 from by omega,show i * 2 + 1 + 1 + 1 = (i * 2 + 1) + 1 + 1 from rfl]
   simpa using this
theorem O_ {l:List (Nat × Nat)}:∀ {i n k:Nat} (k' : Nat),l[i]? = some (n,k)->(IG l).set (i * 2 + 1) (.int .i64 (k' : Int)) = IG (l.set i (n,k')):=by
 induction l with
 | nil=>intro i n k k' h; simp at h
 | cons x l ih =>
  intro i n k k' h
  have e:IG (x :: l) = Value.int .i64 (x.1:Int) :: Value.int .i64 (x.2:Int) :: IG l:=rfl
  rw [e]
  cases i with
  | zero=>simp at h; subst h; rfl
  | succ i =>
   simp only [Yj] at h
   rw [show (i + 1) * 2 + 1 = (i * 2 + 1) + 1 + 1 from by omega,List.set_cons_succ,List.set_cons_succ,ih k' h]; rfl
theorem St.U0 {M Q L:List ay} (h:St w (M ++ (Q ++ L))):St w (Q ++ (M ++ L)):=h.perm (by
 rw [<- WG,<- WG]; exact List.perm_append_comm.append_right L)
theorem Pa (xs:List Nat):nS xs = iv (xs.map Int.ofNat):=by simp [nS,iv]
end
def cX (S:List bR.Sc):List (Nat × Nat):=(S.map λs=>(s.1,s.2.1)).reverse
theorem b8 (n k:Nat) (r:List Nat) (t:List bR.Sc):cX ((n,k,r) :: t) = cX t ++ [(n,k)]:=by simp [cX]
theorem CH:∀ (S:List bR.Sc),(cX S).length<=(bR.aE S).length
 | []=>by simp [cX,bR.aE]
 | (n,k,r) :: t=>by
  have:=CH t
  rw [b8,bR.bV,WA]; simp; omega
def lf (low:List Nat) (v:Nat):Nat:=low.getD v 0
theorem nb {low:List Nat} {i x:Nat} (h:i < low.length):lf (low.set i x) = bR.AB (lf low) i x:=by
 funext j
 unfold lf bR.AB
 rw [Ww,XA]
 by_cases e:j = i
 ·subst e; simp [h]
 ·rw [WB (λh=>e h.symm),WB e]; exact (Ww).symm
theorem CI {low:List Nat} {i:Nat} (h:i < low.length):low[i]? = some (lf low i):=by
 unfold lf; rw [Ww,Wv h]; rfl
def wm (mp:List (Int × Value)):List bR.Sc->Prop
 | []=>True
 | (n,_,_) :: t=>assoc (n:Int) mp = some (.int .i64 (((bR.aE t).length + 1:Nat):Int))/\wm mp t
theorem wm.put {mp:List (Int × Value)} {m:Nat} {v:Value}:∀ (S:List bR.Sc),wm mp S->(∀ s∈S,s.1≠m)->wm (bK (m:Int) v mp) S
 | [],_,_=>trivial
 | (n,k,r) :: t,⟨h1,h2⟩,hn=>by
  refine ⟨?_,wm.put t h2 λs hs=>hn s (by simp [hs])⟩
  have:=hn (n,k,r) (by simp)
  rw [dC,WB (by simp at this ⊢; omega)]
  exact h1
theorem TR {S:List bR.Sc}:∀ s∈S,s.1∈bR.aE S:=by
 induction S with
 | nil=>intro s hs; simp at hs
 | cons x t ih =>
  obtain ⟨n,k,r⟩:=x
  intro s hs
  rcases WM.1 hs with rfl | hs
  ·simp [bR.aE]
  ·simp [bR.aE,ih s hs]
def En (es:List (List Int)) (n:Nat):List Nat:=(es.getD n []).map Int.toNat
def CJ (es:List (List Int)):Prop:=∀ l∈es,∀ x∈l,0<=x/\x < (es.length:Int)
theorem Pb {es:List (List Int)} {n:Nat} {l:List Int} (h:es[n]? = some l):En es n = l.map Int.toNat:=by
 unfold En; rw [Ww,h]; rfl
theorem SE {es:List (List Int)} (hR:CJ es) {n m:Nat} (h:m∈En es n):m < es.length:=by
 unfold En at h
 rw [Ww] at h
 cases hl:es[n]? with
 | none=>rw [hl] at h; simp at h
 | some l =>
  rw [hl] at h
  obtain ⟨x,hx,rfl⟩:=WS.1 h
  have:=hR l (Wu hl) x hx
  omega
def mv (low:List Nat) (n:Nat):List bR.Sc->List Nat
 | []=>low
 | (u,_,_) :: _=>low.set u (min (lf low u) (lf low n))
def fU (x:Nat) (low:List Nat) (g:List Nat):List Nat:=g.foldl (λl m=>l.set m x) low
theorem wo (x:Nat):∀ (g low:List Nat),(fU x low g).length = low.length
 | [],_=>rfl
 | m :: g,low=>by show (fU x (low.set m x) g).length = _; rw [wo x g]; simp
theorem H8 (x:Nat) (low g:List Nat) (m:Nat):fU x low (g ++ [m]) = (fU x low g).set m x:=by simp [fU]
theorem Ez (x:Nat):∀ (g low:List Nat),(∀ m∈g,m < low.length)->lf (fU x low g) = λv=>if v∈g then x else lf low v
 | [],_,_=>by funext v; simp [fU]
 | m :: g,low,h=>by
  have:=Ez x g (low.set m x) (λy hy=>by rw [W1]; exact h y (by simp [hy]))
  show lf (fU x (low.set m x) g) = _
  rw [this,nb (h m (by simp))]
  funext v
  by_cases e:v∈g
  ·simp [e]
  ·by_cases e2:v = m
   ·subst e2; simp [e,bR.AB]
   ·simp [e,e2,bR.AB]
structure WD where
 S:List bR.Sc
 low:List Nat
 gs:List (List Nat)
 mp:List (Int × Value)
 oa:YB
 oc:Nat
 wa:YB
 wc:Nat
end Go.V
namespace Go.Proofs.YtndaepmjkbmjmaaGreatDoor
variable {w:YC} {L:List ay} {es:List (List Int)} {a:YB} {N c l:Nat} {d:FuncId} {e:List Value} {Q:List (List Nat)->List ay}
theorem H9 {xs:List Int} (hr:a_ (hp w) xs a l) (hb:xs.length * 8<=140737488355328) (hb2:xs.length<=9223372036854775807):aA Tryz.prog nQ [.slice a l c] w λv w'=>∃ o c',v = .slice o xs.length c'/\St w' (own 1 o xs.length c' (iv xs) :: all w):=by
 refine lY ?_
 have hl:=hr.1
 cases a with
 | none =>
  have h0:xs = []:=by
   cases xs with
   | nil=>rfl
   | cons t ts=>obtain ⟨ad,_,e,_⟩:=hr.2 0 t rfl; cases e
  subst h0
  exact ⟨none,0,rfl,az 1 (St.all w)⟩
 | some ad =>
  refine ah (St.all w) λb w1 h1=>?_
  have h2:St w1 (own 1 (some ⟨b,0,none⟩) 0 0 [] :: all w):=iD (cs:=[]) h1 rfl rfl (WO _)
  have hr:=hr.mono h1.aZ
  refine (iH aQ (rfl:aj Ty _ = .slice _) rfl rfl rfl h2 (n:=l) (news:=iv xs) (fx aQ (rfl:aj Ty _ = .slice _) (by rw [pj,hl,XR]) (by
    rcases hr.iv with h0 | ⟨ad',e,hc⟩
    ·exact .inl (by have:=congrArg List.length h0; rw [pj,hl] at this; exact this)
    ·cases e; exact .inr ⟨ad,rfl,λj u hj=>pg (hc j u hj)⟩) (by
   intro u hu
   obtain ⟨t,_,rfl⟩:=WS.1 hu
   rfl)) (by show (0 + l) * 8<=_; omega) (by omega)).mono ?_
  rintro _ w2 ⟨a',c',rfl,h3⟩
  rw [Xx,<- hl] at h3 ⊢
  rw [Xd] at h3
  exact ⟨_,_,_,rfl,a',c',rfl,h3⟩
def Uv (ko kl kw bl km N fr:Nat) (es:List (List Int)) (Q:List (List Nat)->List ay) (L:List ay) (x:WD) (w:YC):Prop :=
 x.low.length = N/\bR.Inv (En es) N (lf x.low) x.S x.gs/\(∀ v,v<=fr->lf x.low v≠0)/\wm x.mp x.S /\
  St w (uZ ko kl kw bl N x.oa x.oc x.wa x.wc (bR.aE x.S) x.low (cX x.S) ++ (mapA km x.mp :: (Q x.gs ++ L)))
def SF (d:FuncId) (e:List Value) (es:List (List Int)) (Q:List (List Nat)->List ay):Prop :=
 ∀ (gs:List (List Nat)) (g:List Nat) (F:List ay) (w:YC) (o:YB) (gc:Nat),bR.Good (En es) (gs ++ [g])->(∀ v∈(gs ++ [g]).flatten,v < es.length) ->
  St w (own 1 o g.length gc (nS g) :: (Q gs ++ F))->aA Tryz.prog d (.slice o g.length gc :: e) w λv w'=>v = .tuple (Array.mk [])/\St w' (Q (gs ++ [g]) ++ F)
theorem TS (hfl:Fn d = true) (hD:SF d e es Q) (hE:∀ gs h,aC (Q gs ++ L) h->a_ h es a N) (hR:CJ es) (hB:∀ l∈es,l.length * 8<=140737488355328) (hb:N * 24<=140737488355328) (h:St w (Q [] ++ L)) :
  aA Tryz.prog CF [.slice a N c,.func (.func d) (Array.mk []) ⟨e⟩] w λv w'=>v = .tuple (Array.mk [])/\∃ gs,bR.Good (En es) gs/\(∀ v,v∈gs.flatten↔v < N)/\St w' (Q gs ++ L):=by
 refine @zp a N c d e w _ ?_
 have hN:es.length = N:=(hE [] _ h.l).1
 refine ⟨⟨by omega,rfl,by omega⟩,ah h λbl w1 h=>ah h λkl w2 h=>bj h (by simp) λw3 h=>⟨⟨by omega,by omega⟩,ah h λko w4 h=>ah h λkw w5 h=>?_⟩⟩
 have h:St w5 (uZ ko kl kw bl N none 0 none 0 [] (List.replicate N 0) [] ++ (Q [] ++ L)):=by
  have e1:jB (Int.toNat (N:Int)) [iI 0] = nS (List.replicate N 0):=by rw [de]; simp [nS]
  rw [e1] at h
  have h:=az 2 (az 1 h)
  exact h.pick 6 [3,1,4,5,2,0]
 refine ⟨λz w'=>∃ k:Nat,z = k/\k<=N/\∃ gs low oa oc wa wc,low.length = N/\bR.Inv (En es) N (lf low) [] gs/\(∀ v,v < k->lf low v≠0)/\St w' (uZ ko kl kw bl N oa oc wa wc [] low [] ++ (Q gs ++ L)),
  λz _=>N - z.toNat,⟨0,rfl,WC _,[],List.replicate N 0,none,0,none,0,by simp,?_,λv hv=>by omega,h⟩,?_⟩
 ·have:lf (List.replicate N 0) = λ_=>0:=by
   funext v; unfold lf; rw [Ww,XM]; split <;> rfl
  rw [this]; exact bR.Inv.start _ _
 rintro _ z w6 ⟨k,rfl,hk,gs,low,oa,oc,wa,wc,hl,hI,hs,h⟩
 refine ae (λh1=>?_) λh1=>?_
 rotate_left
 ·have h1:k = N:=by have:=Ws h1; omega
  subst h1
  refine ⟨rfl,gs,hI.good,λv=>⟨λhv=>hI.lt v (by simpa [bR.aE] using hv),λhv=>?_⟩,?_⟩
  ·have:=hI.seen hv (hs v hv)
   simpa [bR.aE] using this
  ·exact h.tail.tail.tail.tail.tail.tail
 have h1:k < N:=by have:=Wr h1; omega
 refine ⟨_,_,_,(ai 2 h.l).cell0 (sub.refl _),aw rfl h1 ⟨_,(ai 3 h.l).cell (sub.refl _) (j:=k) (iM (CI (by omega))),?_⟩⟩
 refine ae (λh2=>?_) λh2=>?_
 ·have h2:=Wr h2
  refine ⟨⟨by omega,by omega⟩,⟨k + 1,rfl,h1,gs,low,oa,oc,wa,wc,hl,hI,λv hv=>?_,h⟩,bx h1⟩
  by_cases ev:v = k
  ·subst ev; omega
  ·exact hs v (by omega)
 have h2:lf low k = 0:=by have:=Ws h2; omega
 refine ml h λkm w7 h=>?_
 have h:=dD (κ:=Int) h
 refine ⟨_,_,_,(ai 1 h.l).cell0 (sub.refl _),⟨by simp,by simp⟩,(cW (κ:=Int) aQ (rfl:aj Ty _ = .map _ _) bB h (k:Int) _).mono ?_⟩
 rintro _ w8 h
 refine (Li (n:=k) (h.pick 7 [1,2,3,4,5,6,0]) hl h1 (by simp; omega) (by simp; omega) hb).mono ?_
 rintro _ w9 ⟨rfl,oa,oc,wa,wc,h⟩
 refine ⟨rfl,λw'=>∃ x,Uv ko kl kw bl km N k es Q L x w',λw'=>Sz (Uv ko kl kw bl km N k es Q L) (λx=>bR.todo (En es) N (lf x.low) x.S) w',?_,?_⟩
 ·refine ⟨⟨[(k,0,[])],low.set k 1,gs,_,oa,oc,wa,wc⟩,by simp [hl],?_,?_,?_,h⟩
  ·show bR.Inv _ _ (lf (low.set k 1)) _ _
   rw [nb (by omega)]
   exact hI.root h1 h2
  ·intro v hv
   show lf (low.set k 1) v≠0
   rw [nb (by omega)]
   by_cases ev:v = k
   ·subst ev; rw [bR.bf]; omega
   ·rw [bR.da ev]; exact hs v (by omega)
  ·exact ⟨by show assoc _ [(_,_)] = _; simp [assoc,bR.aE],trivial⟩
 intro _ w10 hw
 obtain ⟨⟨S,low2,gs2,mp,oa,oc,wa,wc⟩,⟨hl2,hI2,hs2,hM,h⟩,hm⟩:=Fv hw
 simp only at hl2 hI2 hs2 hM h hm
 refine ⟨_,_,_,(ai 4 h.l).cell0 (sub.refl _),?_⟩
 refine ae (λh3=>?_) λh3=>?_
 rotate_left
 ·have h3:=Ws h3
  cases S with
  | cons x t=>obtain ⟨n,j,r⟩:=x; rw [b8] at h3; simp at h3
  | nil =>
   refine ⟨⟨by omega,by omega⟩,⟨k + 1,rfl,h1,gs2,low2,oa,oc,wa,wc,hl2,hI2,λv hv=>hs2 v (by omega),?_⟩,bx h1⟩
   exact h.pick 7 [0,1,2,3,4,5]
 cases S with
 | nil=>have h3:=Wr h3; simp [cX] at h3
 | cons x t =>
 obtain ⟨n,k0,r⟩:=x
 have hlen:=hI2.len
 have hwk:=CH ((n,k0,r) :: t)
 have hw1:(cX ((n,k0,r) :: t)).length = (cX t).length + 1:=by rw [b8]; simp
 have hnN:n < N:=hI2.lt n (by simp [bR.aE])
 obtain ⟨wad,hwa,_⟩:=cV (h.pick 7 [5,0,1,2,3,4,6]) (j:=(cX t).length * 2) (xV (i:=(cX t).length) (n:=n) (k:=k0) (by rw [b8]; simp)).1
 refine ⟨_,_,_,(ai 4 h.l).cell0 (sub.refl _),_,_,_,(ai 4 h.l).cell0 (sub.refl _),⟨by omega,by omega⟩,?_⟩
 have ei:((cX ((n,k0,r) :: t)).length:Int) - 1 = ((cX t).length:Int):=by omega
 rw [ei]
 refine aq hwa (by omega) ?_
 rw [aJ]
 -- the steps of one node
 let P2:Nat × List Nat->YC->Prop:=λp w'=>p.2.length = N/\bR.Inv (En es) N (lf p.2) ((n,p.1,r) :: t) gs2/\(∀ v,v<=k->lf p.2 v≠0)/\bR.todo (En es) N (lf p.2) ((n,p.1,r) :: t)<=Sz (Uv ko kl kw bl km N k es Q L) (λx=>bR.todo (En es) N (lf x.low) x.S) w10 /\
  St w' (uZ ko kl kw bl N oa oc wa wc (bR.aE ((n,p.1,r) :: t)) p.2 (cX ((n,p.1,r) :: t)) ++ (mapA km mp :: (Q gs2 ++ L)))
 refine ⟨λw'=>∃ p,P2 p w',λw'=>Sz P2 (λp=>(En es n).length - p.1) w',⟨(k0,low2),hl2,hI2,hs2,by rw [<- hm]; exact WO _,h⟩,?_⟩
 intro _ w11 hw
 obtain ⟨⟨j,low3⟩,⟨hl3,hI3,hs3,ht3,h⟩,hm3⟩:=Fv (f:=λp=>(En es n).length - p.1) hw
 simp only at hl3 hI3 hs3 ht3 h hm3
 intro w12 hd
 have h:=h.eq (aB hd)
 obtain ⟨el,hel⟩ : ∃ el,es[n]? = some el:=⟨es[n]'(by omega),Wv _⟩
 have hen:=Pb hel
 have rE0:a_ (hp w12) es a N:=hE gs2 _ h.tail.tail.tail.tail.tail.tail.tail.l
 obtain ⟨el',ead,ev,hel',hea,hrow,o6,l6,c6,rfl,hle6,hrd6⟩:=rE0.get (i:=n) hnN
 rw [hel] at hel'; cases hel'
 rw [aJ,show n * oP.n (List Int) = n from XR n] at hrow
 have hel6:el.length = l6:=hrd6.1
 have henl:(En es n).length = l6:=by rw [hen,WE]; exact hel6
 have hjle:j<=(En es n).length:=hI3.ok.1.le
 have hBl:=hB el (Wu hel)
 have hwt:(cX ((n,j,r) :: t))[(cX t).length]? = some (n,j):=by rw [b8]; simp
 have hwl:(cX ((n,j,r) :: t)).length = (cX t).length + 1:=by rw [b8]; simp
 obtain ⟨wad',hwa',hc1⟩:=cV (h.pick 7 [5,0,1,2,3,4,6]) (xV hwt).1
 obtain ⟨wad'',hwa'',hc2⟩:=cV (h.pick 7 [5,0,1,2,3,4,6]) (xV hwt).2
 rw [hwa] at hwa' hwa''
 cases hwa'; cases hwa''
 rw [<- add_add] at hc2
 have cw:∀ {u:YC} {ad:Addr} {v:Value},hp u = hp w12->w12.cell? ad = some v->u.cell? ad = some v:=λhu h=>by rw [gD hu]; exact h
 refine ⟨λu=>hp u = hp w12,rfl,(j:Int),λu hu=>cw hu hc2,(n:Int),λu hu=>cw hu hc1,aw hea hnN ⟨o6,l6,c6,λu hu=>cw hu (hrow.cell0 (sub.refl _)),?_⟩⟩
 refine ae (λh4=>?_) λh4=>?_
 ·have h4:j < l6:=by have:=Wr h4; omega
  intro w16 hd2
  have h:=h.eq (aB hd2)
  have e16:=aB hd2
  obtain ⟨mI,hmI⟩ : ∃ mI,el[j]? = some mI:=⟨el[j]'(by omega),Wv _⟩
  obtain ⟨m,rfl⟩ : ∃ m:Nat,mI = (m:Int):=⟨mI.toNat,by have:=hR el (Wu hel) mI (Wu hmI); omega⟩
  have hmE:(En es n)[j]? = some m:=by rw [hen,Wx,hmI]; rfl
  have hmN:m < N:=by have:=SE hR (Wu hmE); omega
  obtain ⟨ead5,hea5,hc5⟩:=hrd6.at hmI
  have cw:∀ {u:YC} {ad:Addr} {v:Value},hp u = hp w16->w12.cell? ad = some v->u.cell? ad = some v:=λhu h=>cw (hu.trans e16) h
  refine ⟨λu=>hp u = hp w16,rfl,(n:Int),λu hu=>cw hu hc1,aw hea hnN ⟨o6,l6,c6,λu hu=>cw hu (hrow.cell0 (sub.refl _)),(j:Int),λu hu=>cw hu hc2,aw hea5 h4 ⟨(m:Int),λu hu=>hc5 u (by rw [hu,e16]; exact sub.refl _),(j:Int),cw rfl hc2,⟨by omega,by omega⟩,?_⟩⟩⟩
  rw [add_add]
  refine pf (h.pick 7 [5,0,1,2,3,4,6]) hwa (by rw [F7]; omega) λw21 h=>?_
  have ej:((j:Int) + 1) = ((j + 1:Nat):Int):=by omega
  rw [ej,O_ (j + 1) hwt] at h
  have h:St w21 (uZ ko kl kw bl N oa oc wa wc (bR.aE ((n,j + 1,r) :: t)) low3 (cX ((n,j + 1,r) :: t)) ++ (mapA km mp :: (Q gs2 ++ L))):=by
   have e1:(cX ((n,j,r) :: t)).set (cX t).length (n,j + 1) = cX ((n,j + 1,r) :: t):=by rw [b8,b8,XT _ _ (WO _)]; simp
   have e2:(cX ((n,j + 1,r) :: t)).length = (cX ((n,j,r) :: t)).length:=by rw [hwl,b8]; simp
   rw [e1] at h
   unfold uZ
   rw [e2]
   exact h.pick 7 [1,2,3,4,5,0,6]
  have hlen3:=hI3.len
  have hmE2:lf low3 m = 0->m∉bR.aE ((n,j,r) :: t):=λh0 hm=>(hI3.un m hmN).1 h0 (by simp only [Wy]; exact Or.inl hm)
  refine ⟨_,_,_,(ai 2 h.l).cell0 (sub.refl _),aw rfl hmN ⟨_,(ai 3 h.l).cell (sub.refl _) (j:=m) (iM (CI (by omega))),?_⟩⟩
  refine ae (λh5=>?_) λh5=>?_
  ·have h5:lf low3 m = 0:=by have:=eq_of_beq h5; omega
   have hop:(bR.aE ((n,j + 1,r) :: t)).length < N:=by
    have h6:=hI3.push hmE hmN h5
    have h7:=h6.len
    have e1:bR.aE ((m,0,[]) :: (n,j + 1,r) :: t) = bR.aE ((n,j + 1,r) :: t) ++ [m]:=rfl
    rw [e1,WA] at h7; simp at h7; omega
   have hwl2:=CH ((n,j + 1,r) :: t)
   refine ⟨_,_,_,(ai 0 h.l).cell0 (sub.refl _),⟨by omega,by omega⟩,(cW (κ:=Int) aQ (rfl:aj Ty _ = .map _ _) bB (h.pick 7 [6,0,1,2,3,4,5]) (m:Int) _).mono ?_⟩
   rintro _ w22 h
   refine (Li (n:=m) (h.pick 7 [1,2,3,4,5,6,0]) hl3 hmN hop (by omega) hb).mono ?_
   rintro _ w23 ⟨rfl,oa',oc',wa',wc',h⟩
   have hnew:Uv ko kl kw bl km N k es Q L ⟨(m,0,[]) :: (n,j + 1,r) :: t,low3.set m ((bR.aE ((n,j + 1,r) :: t)).length + 1),gs2,bK (m:Int) (.int .i64 (((bR.aE ((n,j + 1,r) :: t)).length:Int) + 1)) mp,oa',oc',wa',wc'⟩ w23:=by
    refine ⟨by simp [hl3],?_,?_,⟨?_,?_⟩,?_⟩
    ·show bR.Inv _ _ (lf (low3.set m _)) _ _
     rw [nb (by omega)]
     exact hI3.push hmE hmN h5
    ·intro v hv
     show lf (low3.set m _) v≠0
     rw [nb (by omega)]
     by_cases ev:v = m
     ·subst ev; rw [bR.bf]; omega
     ·rw [bR.da ev]; exact hs3 v hv
    ·show assoc _ (bK _ _ _) = _
     rw [dC,WJ rfl]; rfl
    ·exact wm.put ((n,j + 1,r) :: t) hM λs hs e=>hmE2 h5 (by rw [<- e]; exact TR (S:=(n,j + 1,r) :: t) s hs)
    ·have e1:cX ((m,0,[]) :: (n,j + 1,r) :: t) = cX ((n,j + 1,r) :: t) ++ [(m,0)]:=b8 _ _ _ _
     show St w23 (uZ _ _ _ _ _ _ _ _ _ (bR.aE ((n,j + 1,r) :: t) ++ [m]) _ (cX ((m,0,[]) :: (n,j + 1,r) :: t)) ++ _)
     rw [e1]
     exact h
   refine ⟨rfl,⟨_,hnew⟩,?_⟩
   have l1:=B6 (f:=λx=>bR.todo (En es) N (lf x.low) x.S) hnew
   have l2:=bR.MA hI3 hmE hmN h5 ((bR.aE ((n,j + 1,r) :: t)).length + 1) (by omega)
   simp only at l1
   rw [nb (by omega)] at l1
   exact Nat.lt_of_le_of_lt l1 (Yf l2 ht3)
  ·have h5:lf low3 m≠0:=λe=>by rw [e] at h5; simp at h5
   intro w24 hd3
   have h:=h.eq (aB hd3)
   have cL:∀ u,hp u = hp w24->u.cell? (aM kl) = some (.slice (some (aM bl)) N N):=λu hu=>by rw [gD hu]; exact (ai 2 h.l).cell0 (sub.refl _)
   have cI:∀ u,hp u = hp w24->∀ v,v < N->u.cell? ((aM bl).add v) = some (.int .i64 (lf low3 v:Int)):=λu hu v hv=>by rw [gD hu]; exact (ai 3 h.l).cell (sub.refl _) (j:=v) (iM (CI (by omega)))
   have e24:=aB hd3
   have hwt2:(cX ((n,j + 1,r) :: t))[(cX t).length]? = some (n,j + 1):=by rw [b8]; simp
   obtain ⟨wad3,hwa3,hc3⟩:=cV (h.pick 7 [5,0,1,2,3,4,6]) (xV hwt2).1
   rw [hwa] at hwa3; cases hwa3
   refine ⟨λu=>hp u = hp w24,rfl,_,_,_,cL,(n:Int),λu hu=>by rw [gD hu]; exact hc3,_,_,_,cL,(n:Int),λu hu=>by rw [gD hu]; exact hc3,aw rfl hnN ⟨_,λu hu=>cI u hu n hnN,_,_,_,cL,aw rfl hmN ⟨_,λu hu=>cI u hu m hmN,aw rfl hnN ?_⟩⟩⟩
   rw [aL]
   have emin:(if (lf low3 m:Int) < (lf low3 n:Int) then (lf low3 m:Int) else (lf low3 n:Int)) = ((min (lf low3 n) (lf low3 m):Nat):Int):=by split <;> omega
   rw [emin]
   refine bj (h.pick 7 [3,0,1,2,4,5,6]) (by simp [nS]; omega) λw32 h=>?_
   rw [xm] at h
   have hnew:P2 (j + 1,low3.set n (min (lf low3 n) (lf low3 m))) w32:=by
    have eset:=nb (low:=low3) (i:=n) (x:=min (lf low3 n) (lf low3 m)) (by omega)
    have hlook:=hI3.look hmE hmN h5
    refine ⟨by simp [hl3],?_,?_,?_,h.pick 7 [1,2,3,0,4,5,6]⟩
    ·show bR.Inv _ _ (lf (low3.set n _)) _ _
     rw [eset]; exact hlook
    ·intro v hv
     show lf (low3.set n _) v≠0
     rw [eset]
     by_cases ev:v = n
     ·subst ev; rw [bR.bf]
      have:=hI3.ok.1.pos v (by simp)
      omega
     ·rw [bR.da ev]; exact hs3 v hv
    ·show bR.todo _ _ (lf (low3.set n _)) _<=_
     rw [eset]
     refine W0 ?_ ht3
     unfold bR.todo
     rw [bR.zj (low:=lf low3)]
     ·simp only [Xf,Yz]; omega
     ·intro v hv
      by_cases ev:v = n
      ·subst ev; rw [bR.bf]
       have:=hI3.ok.1.pos v (by simp)
       constructor <;> intro <;> omega
      ·rw [bR.da ev]
   refine ⟨⟨_,hnew⟩,?_⟩
   have l1:=B6 (f:=λp=>(En es n).length - p.1) hnew
   have l2:(En es n).length - (j + 1) < (En es n).length - j:=by omega
   exact Nat.lt_of_le_of_lt l1 (Yf l2 (Nat.le_of_eq hm3))
 ·have h4:j = (En es n).length:=by have:=Ws h4; omega
  have hlen3:=hI3.len
  refine ⟨(n:Int),hc1,_,_,_,(ai 4 h.l).cell0 (sub.refl _),_,_,_,(ai 4 h.l).cell0 (sub.refl _),⟨by omega,by omega⟩,?_⟩
  have ei:((cX ((n,j,r) :: t)).length:Int) - 1 = ((cX t).length:Int):=by omega
  have hwle:=fa (h.pick 7 [5,0,1,2,3,4,6])
  rw [ei]
  refine ub (by omega) (bj (h.pick 7 [4,0,1,2,3,5,6]) (by simp) λw33 h=>?_)
  have h:=AV (h.pick 7 [5,0,1,2,3,4,6]) (k:=(cX t).length) (by omega)
  have etk:(IG (cX ((n,j,r) :: t))).take ((cX t).length * 2) = IG (cX t):=by
   rw [b8,<- H7,<- F7,List.take_left']
   rfl
  rw [etk] at h
  have h:St w33 (uZ ko kl kw bl N oa oc (gE wa 0 wc 2) wc (bR.aE ((n,j,r) :: t)) low3 (cX t) ++ (mapA km mp :: (Q gs2 ++ L))):=h.pick 7 [2,3,4,5,1,0,6]
  -- the one below takes over
  refine ⟨λw'=>St w' (uZ ko kl kw bl N oa oc (gE wa 0 wc 2) wc (bR.aE ((n,j,r) :: t)) (mv low3 n t) (cX t) ++ (mapA km mp :: (Q gs2 ++ L))),⟨_,_,_,(ai 4 h.l).cell0 (sub.refl _),?_⟩,?_⟩
  ·refine ae (λh5=>?_) λh5=>?_
   rotate_left
   ·have h5:=Ws h5
    cases t with
    | nil=>exact h
    | cons x t=>obtain ⟨u,ku,ru⟩:=x; rw [b8] at h5; simp at h5
   ·cases t with
    | nil=>have h5:=Wr h5; simp [cX] at h5
    | cons x t =>
    obtain ⟨u,ku,ru⟩:=x
    have huN:u < N:=hI3.lt u (by simp [bR.aE])
    have hwu:(cX ((u,ku,ru) :: t))[(cX t).length]? = some (u,ku):=by rw [b8]; simp
    have hwul:(cX ((u,ku,ru) :: t)).length = (cX t).length + 1:=by rw [b8]; simp
    obtain ⟨wad4,hwa4,hc4⟩:=cV (h.pick 7 [5,0,1,2,3,4,6]) (xV hwu).1
    have ei2:((cX ((u,ku,ru) :: t)).length:Int) - 1 = ((cX t).length:Int):=by omega
    refine ⟨_,_,_,(ai 4 h.l).cell0 (sub.refl _),_,_,_,(ai 4 h.l).cell0 (sub.refl _),⟨by omega,by omega⟩,?_⟩
    rw [ei2]
    refine aq hwa4 (by omega) ?_
    rw [aJ]
    refine ⟨(u:Int),hc4,?_⟩
    intro w34 hd5
    have h:=h.eq (aB hd5)
    have cL:∀ v,hp v = hp w34->v.cell? (aM kl) = some (.slice (some (aM bl)) N N):=λu hu=>by rw [gD hu]; exact (ai 2 h.l).cell0 (sub.refl _)
    have cI:∀ u,hp u = hp w34->∀ v,v < N->u.cell? ((aM bl).add v) = some (.int .i64 (lf low3 v:Int)):=λu hu v hv=>by rw [gD hu]; exact (ai 3 h.l).cell (sub.refl _) (j:=v) (iM (CI (by omega)))
    refine ⟨λu=>hp u = hp w34,rfl,_,_,_,cL,_,_,_,cL,aw rfl huN ⟨_,λv hv=>cI v hv u huN,_,_,_,cL,aw rfl hnN ⟨_,λv hv=>cI v hv n hnN,aw rfl huN ?_⟩⟩⟩
    rw [aL]
    have emin:(if (lf low3 n:Int) < (lf low3 u:Int) then (lf low3 n:Int) else (lf low3 u:Int)) = ((min (lf low3 u) (lf low3 n):Nat):Int):=by split <;> omega
    rw [emin]
    refine bj (h.pick 7 [3,0,1,2,4,5,6]) (by simp [nS]; omega) λw40 h=>?_
    rw [xm] at h
    exact h.pick 7 [1,2,3,0,4,5,6]
  ·intro _ w41 h w42 hd4
   have h:=h.eq (aB hd4)
   obtain ⟨nx1,nx2,nx3,nx4⟩:=hI3.TO
   have hlu:(mv low3 n t).length = N:=by cases t <;> simp [mv,hl3]
   have hlun:lf (mv low3 n t) n = lf low3 n:=by
    cases t with
    | nil=>rfl
    | cons x t =>
     obtain ⟨u,ku,ru⟩:=x
     have huN:u < N:=hI3.lt u (by simp [bR.aE])
     show lf (low3.set u _) n = _
     rw [nb (by omega),bR.da]
     intro e
     exact nx1 (by rw [e]; simp [bR.aE])
   obtain ⟨ma1,ma2⟩:=hM
   have lk:=λ{w' : YC} {L' : List ay} (h:St w' (mapA km mp :: L'))=>bZ (κ:=Int) (P:=Tryz.prog) (z:=.int .i64 0) aQ (rfl:aj Ty Ft = .map _ _) bB rfl rfl h (n:Int)
   rw [ma1] at lk
   have cL:∀ v,hp v = hp w42->v.cell? (aM kl) = some (.slice (some (aM bl)) N N):=λu hu=>by rw [gD hu]; exact (ai 2 h.l).cell0 (sub.refl _)
   have cI:∀ u,hp u = hp w42->∀ v,v < N->u.cell? ((aM bl).add v) = some (.int .i64 (lf (mv low3 n t) v:Int)):=λu hu v hv=>by rw [gD hu]; exact (ai 3 h.l).cell (sub.refl _) (j:=v) (iM (CI (by omega)))
   refine ⟨λu=>hp u = hp w42,rfl,_,_,_,cL,aw rfl hnN ⟨_,λv hv=>cI v hv n hnN,(lk (h.pick 7 [6,0,1,2,3,4,5])).mono ?_⟩⟩
   rintro _ w45 ⟨rfl,rfl⟩
   refine ⟨_,rfl,rfl,?_⟩
   rw [hlun]
   have hop:(bR.aE ((n,j,r) :: t)).length = (bR.aE t).length + 1 + r.length:=bR.bV
   refine ae (λh6=>?_) λh6=>?_
   ·have h6:lf low3 n = (bR.aE t).length + 1:=by have:=eq_of_beq h6; omega
    have hP:=hI3.pop h4 h6
    have hgN:∀ v∈n :: r,v < N:=λv hv=>hI3.lt v (by simp only [bR.aE,Wy]; exact Or.inl (Or.inr hv))
    have hlowU:mv low3 n t = low3\/lf (mv low3 n t) = lf low3:=by
     cases t with
     | nil=>exact .inl rfl
     | cons x t =>
      obtain ⟨u,ku,ru⟩:=x
      have huN:u < N:=hI3.lt u (by simp [bR.aE])
      right
      show lf (low3.set u _) = _
      rw [nb (by omega),hI3.VP h6]
      funext v; unfold bR.AB; split
      ·rename_i e; rw [e]
      ·rfl
    have hlowU:lf (mv low3 n t) = lf low3:=by rcases hlowU with e | e <;> rw [e]
    have hole:=fa (h.pick 7 [1,0,2,3,4,5,6])
    refine ⟨_,_,_,(ai 0 h.l).cell0 (sub.refl _),(lk (h.pick 7 [6,0,1,2,3,4,5])).mono ?_⟩
    rintro _ w46 ⟨rfl,rfl⟩
    have eb:((((bR.aE t).length + 1:Nat):Int) - 1) = ((bR.aE t).length:Int):=by omega
    refine ⟨_,rfl,⟨by omega,by omega⟩,?_⟩
    rw [eb]
    have hrO:a_ (hp w46) ((bR.aE ((n,j,r) :: t)).map Int.ofNat) oa (bR.aE ((n,j,r) :: t)).length:=dS (by simp) (by rw [<- Pa]; exact fB 1 h.l)
    have hrG:=hrO.drop (k:=(bR.aE t).length) (m:=oc) (by omega) hole
    have hdr:((bR.aE ((n,j,r) :: t)).map Int.ofNat).drop (bR.aE t).length = (n :: r).map Int.ofNat:=by
     rw [<- List.map_drop]; congr 1; show (bR.aE t ++ n :: r).drop _ = _; rw [List.drop_left']; rfl
    rw [hdr] at hrG
    have hgl:(bR.aE ((n,j,r) :: t)).length - (bR.aE t).length = (n :: r).length:=by rw [hop]; simp; omega
    refine dG (by omega) hole ((H9 hrG (by simp; omega) (by simp; omega)).mono ?_)
    rintro _ w47 ⟨o25,c25,rfl,h47⟩
    have h:=h47.qk h
    have elg:((n :: r).map Int.ofNat).length = (n :: r).length:=by simp
    rw [elg,<- Pa] at h
    refine ⟨_,_,_,by rw [elg],_,_,_,(ai 1 h.l).cell0 (sub.refl _),(lk (h.pick 8 [7,0,1,2,3,4,5,6])).mono ?_⟩
    rintro _ w48 ⟨rfl,rfl⟩
    refine ⟨_,rfl,⟨by omega,by omega⟩,?_⟩
    rw [eb]
    refine ub (by omega) (bj (h.pick 8 [1,0,2,3,4,5,6,7]) (by simp) λw49 h=>?_)
    have h:=AV (h.pick 8 [2,0,1,3,4,5,6,7]) (k:=(bR.aE t).length) (by omega)
    have etk:(nS (bR.aE ((n,j,r) :: t))).take ((bR.aE t).length * 1) = nS (bR.aE t):=by
     show (nS (bR.aE t ++ n :: r)).take _ = _
     unfold nS
     rw [WZ,List.take_left']
     simp
    rw [etk] at h
    have h:St w49 (own 1 o25 (n :: r).length c25 (nS (n :: r)) :: (uZ ko kl kw bl N (gE oa 0 oc 1) oc (gE wa 0 wc 2) wc (bR.aE t) (mv low3 n t) (cX t) ++ (mapA km mp :: (Q gs2 ++ L)))):=h.pick 8 [2,1,0,3,4,5,6,7]
    refine ⟨λz w'=>∃ i:Nat,z = i/\i<=(n :: r).length/\St w' (own 1 o25 (n :: r).length c25 (nS (n :: r)) :: (uZ ko kl kw bl N (gE oa 0 oc 1) oc (gE wa 0 wc 2) wc (bR.aE t) (fU (N + 1) (mv low3 n t) ((n :: r).take i)) (cX t) ++ (mapA km mp :: (Q gs2 ++ L)))),
     λz _=>(n :: r).length - z.toNat,⟨0,rfl,WC _,h⟩,?_⟩
    rintro _ z w50 ⟨i,rfl,hi,h⟩
    refine ae (λh7=>?_) λh7=>?_
    ·have h7:i < (n :: r).length:=by have:=Wr h7; omega
     obtain ⟨v,hv⟩ : ∃ v,(n :: r)[i]? = some v:=⟨(n :: r)[i],Wv _⟩
     have hvN:=hgN v (Wu hv)
     obtain ⟨gad,hga,hgc⟩:=cV h (iM hv)
     refine aw hga h7 ⟨_,hgc,_,_,_,(ai 3 h.l).cell0 (sub.refl _),aw rfl hvN ?_⟩
     rw [aL]
     have eN:((N:Int) + 1) = ((N + 1:Nat):Int):=by omega
     rw [eN]
     refine bj (h.pick 8 [4,0,1,2,3,5,6,7]) (by simp [nS,wo]; omega) λw51 h=>⟨⟨by simp at h7 hi ⊢; omega,by simp at h7 hi ⊢; omega⟩,⟨i + 1,rfl,h7,?_⟩,bx h7⟩
     rw [xm] at h
     rw [Wz,hv,XC,H8]
     exact h.pick 8 [1,2,3,4,0,5,6,7]
    ·have h7:i = (n :: r).length:=by have:=Ws h7; omega
     subst h7
     rw [WT] at h
     refine bJ.2 ⟨hfl,?_⟩
     let M':=uZ ko kl kw bl N (gE oa 0 oc 1) oc (gE wa 0 wc 2) wc (bR.aE t) (fU (N + 1) (mv low3 n t) (n :: r)) (cX t) ++ [mapA km mp]
     have hp1:(M' ++ (Q gs2 ++ L)).Perm (Q gs2 ++ (M' ++ L)):=by
      rw [<- WG,<- WG]; exact List.perm_append_comm.append_right L
     have h8:St w50 (own 1 o25 (n :: r).length c25 (nS (n :: r)) :: (Q gs2 ++ (M' ++ L))):=h.perm (List.Perm.cons _ hp1)
     have hrun:=hD gs2 (n :: r) (M' ++ L) w50 o25 c25 hP.good (λv hv=>by rw [hN]; exact hP.lt v (List.mem_append_right _ hv)) h8
     refine hrun.mono ?_
     rintro _ w52 ⟨rfl,h⟩
     have elow:lf (fU (N + 1) (mv low3 n t) (n :: r)) = λv=>if v∈n :: r then N + 1 else lf low3 v:=by
      rw [Ez _ _ _ (λm hm=>by rw [hlu]; exact hgN m hm),hlowU]
     have hnew:Uv ko kl kw bl km N k es Q L ⟨t,fU (N + 1) (mv low3 n t) (n :: r),gs2 ++ [n :: r],mp,gE oa 0 oc 1,oc,gE wa 0 wc 2,wc⟩ w52:=by
      refine ⟨by show (fU _ _ _).length = _; rw [wo]; exact hlu,?_,?_,ma2,St.U0 (M:=Q (gs2 ++ [n :: r])) (Q:=M') (L:=L) h⟩
      ·show bR.Inv _ _ (lf (fU _ _ _)) _ _
       rw [elow]; exact hP
      ·intro v hv
       show lf (fU _ _ _) v≠0
       rw [elow]
       simp only
       split
       ·omega
       ·exact hs3 v hv
     refine ⟨rfl,⟨_,hnew⟩,?_⟩
     have l1:=B6 (f:=λx=>bR.todo (En es) N (lf x.low) x.S) hnew
     refine Nat.lt_of_le_of_lt l1 (Yf ?_ ht3)
     show bR.todo _ _ (lf (fU _ _ _)) _ < _
     rw [elow]
     unfold bR.todo
     rw [bR.zj (low:=lf low3)]
     ·simp only [Xf,Yz]; omega
     ·intro v hv
      show (if v∈n :: r then N + 1 else lf low3 v) = 0↔lf low3 v = 0
      split
      ·rename_i e
       have h9:lf low3 v≠0:=λh0=>(hI3.un v hv).1 h0 (by simp only [bR.aE,Wy]; exact Or.inl (Or.inr e))
       constructor <;> intro <;> omega
      ·exact Iff.rfl
   ·have h6:lf low3 n≠(bR.aE t).length + 1:=λe=>by rw [e] at h6; simp at h6
    cases t with
    | nil =>
     exfalso
     have h8:=hI3.ok.1.top
     have h9:=hI3.ok.1.pos n (by simp)
     simp [bR.aE] at h8 h6
     omega
    | cons x t =>
    obtain ⟨u,ku,ru⟩:=x
    have huN:u < N:=hI3.lt u (by simp [bR.aE])
    have eset:=nb (low:=low3) (i:=u) (x:=min (lf low3 u) (lf low3 n)) (by omega)
    have hmg:=hI3.merge h4 h6
    have hpu:=hI3.ok.2.2.1.pos u (by simp)
    have hpn:=hI3.ok.1.pos n (by simp)
    have hnew:Uv ko kl kw bl km N k es Q L ⟨(u,ku,ru ++ n :: r) :: t,mv low3 n ((u,ku,ru) :: t),gs2,mp,oa,oc,gE wa 0 wc 2,wc⟩ w45:=by
     refine ⟨hlu,?_,?_,ma2,?_⟩
     ·show bR.Inv _ _ (lf (low3.set u _)) _ _
      rw [eset]; exact hmg
     ·intro v hv
      show lf (low3.set u _) v≠0
      rw [eset]
      by_cases ev:v = u
      ·subst ev; rw [bR.bf]; omega
      ·rw [bR.da ev]; exact hs3 v hv
     ·have e1:bR.aE ((u,ku,ru ++ n :: r) :: t) = bR.aE ((n,j,r) :: (u,ku,ru) :: t):=by simp [bR.aE]
      show St w45 (uZ _ _ _ _ _ _ _ _ _ (bR.aE ((u,ku,ru ++ n :: r) :: t)) _ _ ++ _)
      rw [e1]
      exact h
    refine ⟨⟨_,hnew⟩,?_⟩
    have l1:=B6 (f:=λx=>bR.todo (En es) N (lf x.low) x.S) hnew
    refine Nat.lt_of_le_of_lt l1 (Yf ?_ ht3)
    show bR.todo _ _ (lf (low3.set u _)) _ < _
    rw [eset]
    unfold bR.todo
    rw [bR.zj (low:=lf low3)]
    ·simp only [Xf,Yz]; omega
    ·intro v hv
     by_cases ev:v = u
     ·subst ev; rw [bR.bf]
      constructor <;> intro <;> omega
     ·rw [bR.da ev]
end Go.Proofs.YtndaepmjkbmjmaaGreatDoor
namespace Go.V
def jr (es:List (List Int)):Bool:=!es.any λl=>l.any λx=>decide (x < 0) || decide ((es.length:Int)<=x)
theorem CK {es:List (List Int)}:jr es = true↔CJ es:=by
 unfold jr CJ
 rw [XO,List.any_eq_false]
 constructor
 ·intro h l hl x hx
  have:=h l hl
  rw [Bool.not_eq_true,List.any_eq_false] at this
  have:=this x hx
  simp at this; omega
 ·intro h l hl
  rw [Bool.not_eq_true,List.any_eq_false]
  intro x hx
  have:=h l hl x hx
  simp; omega
end Go.V
namespace Go.Proofs.YtndaepmjkbmjmaaGreatDoor
variable {w:YC} {a:YB} {l c:Nat} {d:FuncId} {e:List Value}
theorem SG {xs:List Int} {p:Int->Bool} (hfl:Fn d = true) (hr:a_ (hp w) xs a l) (hb:l<=4611686018427387904)
  (hP:∀ x∈xs,∀ u,hp u = hp w->aA Tryz.prog d (.int .i64 x :: e) u λv u'=>v = .bool (p x)/\hp u' = hp w) :
  aA Tryz.prog ji [.slice a l c,.func (.func d) (Array.mk []) ⟨e⟩] w λv w'=>v = .bool (xs.any p)/\hp w' = hp w:=by
 refine dc ?_
 have key:aA Tryz.prog eH [.slice a l c,.func (.func d) (Array.mk []) ⟨e⟩] w λv w'=>∃ n:Int,v = .int .i64 n/\(xs.any p = decide (0<=n))/\hp w' = hp w:=by
  refine dN ?_
  have hxl:=hr.1
  refine ⟨λz w'=>∃ j:Nat,z = j/\j<=l/\(∀ k∈xs.take j,p k = false)/\hp w' = hp w,λz _=>l - z.toNat,⟨0,rfl,WC _,λk hk=>by simp at hk,rfl⟩,?_⟩
  rintro _ z w1 ⟨j,rfl,hj,hno,e1⟩
  refine ae (λh1=>?_) λh1=>?_
  rotate_left
  ·have h1:j = l:=by have:=Ws h1; omega
   rw [WN (by omega)] at hno
   exact ⟨_,rfl,by rw [List.any_eq_false.2 λx hx=>by rw [hno x hx]; simp]; rfl,e1⟩
  have h1:j < l:=by have:=Wr h1; omega
  obtain ⟨k,hk⟩ : ∃ k,xs[j]? = some k:=⟨xs[j]'(by omega),Wv _⟩
  obtain ⟨ad,had,hc⟩:=hr.at hk
  refine aw had h1 ⟨k,hc w1 (Gr.of_eq e1),bJ.2 ⟨hfl,(hP k (Wu hk) w1 e1).mono ?_⟩⟩
  rintro _ w2 ⟨rfl,e2⟩
  refine ⟨_,rfl,ae (λhb=>?_) λhb=>?_⟩
  ·exact ⟨_,rfl,by rw [XL.2 ⟨k,Wu hk,hb⟩]; exact (W4 (W7 j)).symm,e2⟩
  ·refine ⟨⟨by omega,by omega⟩,⟨j + 1,by simp,by omega,λy hy=>?_,e2⟩,bx h1⟩
   rw [Wz,hk] at hy
   rcases Wy.1 hy with hy | hy
   ·exact hno y hy
   ·simp at hy; subst hy; exact hb
 refine key.mono ?_
 rintro _ w' ⟨n,rfl,h1,h2⟩
 exact ⟨n,rfl,by rw [h1],h2⟩
theorem U1 {xs:List (List Int)} {p:List Int->Bool} (hfl:Fn d = true) (hr:a_ (hp w) xs a l) (hb:l<=4611686018427387904)
  (hP:∀ x∈xs,∀ u o l c,hp u = hp w->a_ (hp w) x o l->aA Tryz.prog d (.slice o l c :: e) u λv u'=>v = .bool (p x)/\hp u' = hp w) :
  aA Tryz.prog iL [.slice a l c,.func (.func d) (Array.mk []) ⟨e⟩] w λv w'=>v = .bool (xs.any p)/\hp w' = hp w:=by
 refine gM ?_
 have key:aA Tryz.prog jJ [.slice a l c,.func (.func d) (Array.mk []) ⟨e⟩] w λv w'=>∃ n:Int,v = .int .i64 n/\(xs.any p = decide (0<=n))/\hp w' = hp w:=by
  refine ja ?_
  have hxl:=hr.1
  refine ⟨λz w'=>∃ j:Nat,z = j/\j<=l/\(∀ k∈xs.take j,p k = false)/\hp w' = hp w,λz _=>l - z.toNat,⟨0,rfl,WC _,λk hk=>by simp at hk,rfl⟩,?_⟩
  rintro _ z w1 ⟨j,rfl,hj,hno,e1⟩
  refine ae (λh1=>?_) λh1=>?_
  rotate_left
  ·have h1:j = l:=by have:=Ws h1; omega
   rw [WN (by omega)] at hno
   exact ⟨_,rfl,by rw [List.any_eq_false.2 λx hx=>by rw [hno x hx]; simp]; rfl,e1⟩
  have h1:j < l:=by have:=Wr h1; omega
  obtain ⟨k,ad,vs,hk,had,hrow,o,l1,c1,rfl,hle,hrd⟩:=hr.get h1
  rw [aJ,show j * oP.n (List Int) = j from XR j] at hrow
  refine aw had h1 ⟨o,l1,c1,hrow.cell0 (Gr.of_eq e1),bJ.2 ⟨hfl,(hP k (Wu hk) w1 o l1 c1 e1 hrd).mono ?_⟩⟩
  rintro _ w2 ⟨rfl,e2⟩
  refine ⟨_,rfl,ae (λhb=>?_) λhb=>?_⟩
  ·exact ⟨_,rfl,by rw [XL.2 ⟨k,Wu hk,hb⟩]; exact (W4 (W7 j)).symm,e2⟩
  ·refine ⟨⟨by omega,by omega⟩,⟨j + 1,by simp,by omega,λy hy=>?_,e2⟩,bx h1⟩
   rw [Wz,hk] at hy
   rcases Wy.1 hy with hy | hy
   ·exact hno y hy
   ·simp at hy; subst hy; exact hb
 refine key.mono ?_
 rintro _ w' ⟨n,rfl,h1,h2⟩
 exact ⟨n,rfl,by rw [h1],h2⟩
theorem RF {es:List (List Int)} (hr:a_ (hp w) es a l) (hb:l<=4611686018427387904) (hB:∀ x∈es,x.length<=4611686018427387904) :
  aA Tryz.prog AE [.slice a l c] w λv w'=>v = .bool (jr es)/\Gr w w':=by
 refine xT ?_
 have hl:=hr.1
 refine ah (St.all w) λk1 w1 h1=>?_
 have g1:Gr w w1:=h1.aZ
 have hcel:=(ai 0 h1.l).cell0 (sub.refl _)
 refine ⟨_,_,_,hcel,(U1 (p:=λl=>l.any λx=>decide (x < 0) || decide ((es.length:Int)<=x)) (d:=wj) (e:=[vP (some (aM k1))]) rfl (hr.mono g1) hb ?_).mono ?_⟩
 ·intro x hx u o l' c' hu hrx
  refine tJ ((SG (p:=λx=>decide (x < 0) || decide ((es.length:Int)<=x)) (d:=rj) (e:=[vP (some (aM k1))]) rfl (by rw [hu]; exact hrx) (by have:=hrx.1; have:=hB x hx; omega) ?_).mono ?_)
  ·intro y hy u2 hu2
   refine oE (ae (λh=>?_) λh=>?_)
   ·exact ⟨by rw [show decide (y < 0) = true from h]; rfl,hu2⟩
   ·refine ⟨_,_,_,by rw [gD (hu2.trans hu)]; exact hcel,by rw [show decide (y < 0) = false from h,Bool.false_or,hl],hu2⟩
  ·rintro _ w2 ⟨rfl,h2⟩
   exact ⟨_,rfl,rfl,h2.trans hu⟩
 ·rintro _ w2 ⟨rfl,h2⟩
  exact ⟨_,rfl,rfl,g1.trans (Gr.of_eq h2)⟩
end Go.Proofs.YtndaepmjkbmjmaaGreatDoor
namespace Go.V
theorem MB {P:Program} {w:YC} (d:Nat) {t e:TypeId} {a b:Addr} {q:Bool} {i:TypeInfo} (h:P.underlying t = some (.pointer e)) (hi:P.info? e = some i) (hz:i.size≠0) (hs:(sameAddr a b).run P w = .ok q w) :
  (Op.equalIn (d + 1) t (.pointer (some a)) (.pointer (some b))).run P w = .ok q w:=by
 simp [Op.equalIn,aS h,sizeOf,typeInfo,hi,hz,hs]
theorem J3 {P:Program} {w:YC} {t e:TypeId} {a b:Addr} {q:Bool} {i:TypeInfo} (h:P.underlying t = some (.pointer e)) (hi:P.info? e = some i) (hz:i.size≠0) (hs:(sameAddr a b).run P w = .ok q w) :
  (Op.equal t (.pointer (some a)) (.pointer (some b))).run P w = .ok q w:=MB 9999 h hi hz hs
theorem zX {P:Program} {w:YC} {t e:TypeId} {xo yo:Operand} {a b:Addr} {q:Bool} {i:TypeInfo} (h:P.underlying t = some (.pointer e)) (hi:P.info? e = some i) (hz:i.size≠0) (hs:(sameAddr a b).run P w = .ok q w) :
  (iB .neq t xo yo (.pointer (some a)) (.pointer (some b))).run P w = .ok (.bool (!q)) w:=by
 unfold iB
 have hg:(eqGuard .neq t xo yo (.pointer (some a)) (.pointer (some b))).run P w = .ok () w:=Bn (by simp) (by simp)
 simp [hg,Go.binOp,J3 h hi hz hs]
theorem MC {P:Program} {w:YC} {L:List ay} {Ty:TypeId->Option cU} (hT:eC P Ty) {t e:TypeId} {i:cU} {xo yo:Operand} {k1 k2:Nat} {v1 v2:List Value} (hk:aj Ty t = .ptr e) (hi:Ty e = some i) (hz:i.size≠0) (h:St w (aK k1 v1 :: aK k2 v2 :: L)) :
  (iB .neq t xo yo (.pointer (some ⟨k1,0,none⟩)) (.pointer (some ⟨k2,0,none⟩))).run P w = .ok (.bool true) w:=by
 obtain ⟨d,hd,hd'⟩:=dv hT hk (by simp)
 rw [IX hd'] at hd
 obtain ⟨info,d2,ha⟩:=rV hT hi
 obtain ⟨e1,h1⟩:=jU.1 h
 obtain ⟨e2,h2⟩:=jU.1 h.swap
 have hne:(⟨k1,0,none⟩ : Addr)≠⟨k2,0,none⟩:=by
  intro e
  cases e
  obtain ⟨g1,g2,dd,s1,s2,⟨_,x1⟩,g3,g4,dd',s3,s4,⟨_,x2⟩,_⟩:=h
  rcases dd k1 with h | h
  ·rw [h] at x1; cases x1
  ·rw [s3 k1 _ x2] at h; cases h
 exact zX hd ha.inf (by rw [<- ha.size]; exact hz) (run_sameAddr_other w hne h1.get h2.get)
theorem MD {P:Program} {w:YC} {Ty:TypeId->Option cU} (hT:eC P Ty) {t e:TypeId} {i:cU} {xo yo:Operand} {a:Addr} (hk:aj Ty t = .ptr e) (hi:Ty e = some i) (hz:i.size≠0) :
  (iB .neq t xo yo (.pointer (some a)) (.pointer (some a))).run P w = .ok (.bool false) w:=by
 obtain ⟨d,hd,hd'⟩:=dv hT hk (by simp)
 rw [IX hd'] at hd
 obtain ⟨info,d2,ha⟩:=rV hT hi
 exact zX hd ha.inf (by rw [<- ha.size]; exact hz) (run_sameAddr_same w a)
def dx (es ow:List (List Int)) (v:Nat) (x:Nat):Prop:=∃ u,bR.Rc (En es) v u/\(x:Int)∈ow.getD u []
structure Pc (es ow:List (List Int)) (v:Nat) (bs:List Bool):Prop where
 ln:bs.length = 1024
 fn:∀ x,aO bs x = true↔x < 1024/\dx es ow v x
theorem dx.mutual {es ow:List (List Int)} {v u x:Nat} (h:bR.Rc (En es) v u) (hx:dx es ow u x):dx es ow v x:=by
 obtain ⟨y,h1,h2⟩:=hx
 exact ⟨y,h.trans h1,h2⟩
theorem dx.step {es ow:List (List Int)} {g:List Nat} {v:Nat} (hv:v∈g) (hg:∀ a∈g,∀ b∈g,bR.Rc (En es) a b) {x:Nat} :
  dx es ow v x↔(∃ n∈g,(x:Int)∈ow.getD n [])\/∃ n∈g,∃ m∈En es n,m∉g/\dx es ow m x:=by
 constructor
 ·rintro ⟨u,h1,h2⟩
  have key:∀ a b,bR.Rc (En es) a b->a∈g->(x:Int)∈ow.getD b []->(∃ n∈g,(x:Int)∈ow.getD n [])\/∃ n∈g,∃ m∈En es n,m∉g/\dx es ow m x:=by
   intro a b h
   induction h with
   | refl a=>intro ha hx; exact .inl ⟨a,ha,hx⟩
   | @step a m b hm hr ih =>
    intro ha hx
    by_cases hmg:m∈g
    ·exact ih hmg hx
    ·exact .inr ⟨a,ha,m,hm,hmg,b,hr,hx⟩
  exact key v u h1 hv h2
 ·rintro (⟨n,hn,hx⟩ | ⟨n,hn,m,hm,_,hx⟩)
  ·exact ⟨n,hg v hv n hn,hx⟩
  ·exact ((hg v hv n hn).trans (bR.Rc.one hm)) |> λh=>hx.mutual h
def Lj (l:List (YB)):List Value:=l.map λp=>Value.pointer p
theorem RG (l:List (YB)) (i:Nat) (p:YB):(Lj l).set i (.pointer p) = Lj (l.set i p):=by simp [Lj,Xy]
theorem F8 {l:List (YB)} {i:Nat} {p:YB} (h:l[i]? = some p):(Lj l)[i]? = some (.pointer p):=by simp [Lj,h]
def u4 (p:YB) (l:List (YB)) (g:List Nat):List (YB):=g.foldl (λl m=>l.set m p) l
theorem CL (p:YB):∀ (g:List Nat) (l:List (YB)),(u4 p l g).length = l.length
 | [],_=>rfl
 | m :: g,l=>by show (u4 p (l.set m p) g).length = _; rw [CL p g]; simp
theorem ME (p:YB) (l:List (YB)) (g:List Nat) (m:Nat):u4 p l (g ++ [m]) = (u4 p l g).set m p:=by simp [u4]
theorem H_ (p:YB):∀ (g:List Nat) (l:List (YB)),(∀ m∈g,m < l.length)->∀ v,(u4 p l g)[v]? = if v∈g then some p else l[v]?
 | [],l,_,v=>by simp [u4]
 | m :: g,l,h,v=>by
  have:=H_ p g (l.set m p) (λy hy=>by rw [W1]; exact h y (by simp [hy])) v
  show (u4 p (l.set m p) g)[v]? = _
  rw [this]
  by_cases e:v∈g
  ·simp [e]
  ·have hm:=h m (by simp)
   by_cases e2:v = m
   ·subst e2; simp [e,hm]
   ·rw [WB e,Yi (X2 e2),WB (by simp [e,e2])]
theorem Pd {L:List ay} {h:Hp} {A:ay} (i:Nat) (hl:aC L h) (e:oU L i = A:=by rfl) (hi:Nat.blt i (xc L) = true:=by rfl):∃ h1,sub h1 h/\A h1:=by
 have:=cR i (by simpa [gH] using hi) hl
 rwa [e] at this
structure U2 (es ow:List (List Int)) (N:Nat) (gs:List (List Nat)) (sets:List (YB)) (ps:List Go.Proofs.YtndaepmjkbmjmaaGreatDoor.Ls) (gr:List (Nat × List Bool)):Prop where
 ls:sets.length = N
 lp:ps.length = N
 lg:gr.length = gs.length
 st:∀ (i:Nat) g b B,gs[i]? = some g->gr[i]? = some (b,B)->∀ v∈g,sets[v]? = some (some ⟨b,0,none⟩)/\Pc es ow v B/\∃ p,ps[v]? = some p/\p.2 = df B
end Go.V
namespace Go.Proofs.YtndaepmjkbmjmaaGreatDoor
variable {w:YC} {L:List ay} {a oa:YB} {N c oc l ks bs ko bo ke kn:Nat} {es ow:List (List Int)} {h0:Hp}
def zr (gr:List (Nat × List Bool)):List ay:=gr.map λp=>eG (some ⟨p.1,0,none⟩) p.2
def MF (es ow:List (List Int)) (ks bs ko bo N:Nat) (gs:List (List Nat)):ay:=V.ex λy:List (YB) × List Ls × List (Nat × List Bool) =>
 aG [V.pu (U2 es ow N gs y.1 y.2.1 y.2.2),aK ks [.slice (some ⟨bs,0,none⟩) N N],aK bs (Lj y.1),aK ko [.slice (some ⟨bo,0,none⟩) N N],aK bo (y.2.1.map CG),aG (y.2.1.map zq),aG (zr y.2.2)]
theorem xW {gs:List (List Nat)}:St w (MF es ow ks bs ko bo N gs :: L)↔∃ (sets:List (YB)) (ps:List Ls) (gr:List (Nat × List Bool)),U2 es ow N gs sets ps gr /\
  St w (aK ks [.slice (some ⟨bs,0,none⟩) N N] :: aK bs (Lj sets) :: aK ko [.slice (some ⟨bo,0,none⟩) N N] :: aK bo (ps.map CG) :: aG (ps.map zq) :: aG (zr gr) :: L):=by
 unfold MF
 rw [St.ex]
 constructor
 ·rintro ⟨⟨sets,ps,gr⟩,h⟩
  have h:=St.pu.1 (St.flat.1 h)
  exact ⟨sets,ps,gr,h.1,h.2⟩
 ·rintro ⟨sets,ps,gr,h1,h2⟩
  exact ⟨⟨sets,ps,gr⟩,St.flat.2 (St.pu.2 ⟨h1,h2⟩)⟩
theorem Pe {k1 k2:Nat} {B1 B2:List Bool} {xo yo:Operand} (h:St w (eG (some ⟨k1,0,none⟩) B1 :: eG (some ⟨k2,0,none⟩) B2 :: L)) :
  (iB .neq mP xo yo (.pointer (some ⟨k1,0,none⟩)) (.pointer (some ⟨k2,0,none⟩))).run Tryz.prog w = .ok (.bool true) w:=by
 rcases jj h with ⟨e,_⟩ | ⟨b,a,c,ws,e,_,h⟩
 ·cases e
 ·cases e
  rcases jj (h.pick 3 [2,0,1]) with ⟨e,_⟩ | ⟨b',a',c',ws',e,_,h⟩
  ·cases e
  ·cases e
   exact MC aQ (rfl:aj Ty mP = .ptr _) rfl (by decide) (h.pick 4 [2,0,1,3])
structure U3 (es ow:List (List Int)) (h0:Hp) (ke kn N:Nat) (a oa:YB) (c oc:Nat):Prop where
 ce:av h0 ⟨ke,0,none⟩ [.slice a N c]
 cn:av h0 ⟨kn,0,none⟩ [.slice oa N oc]
 re:a_ h0 es a N
 rn:a_ h0 ow oa N
 tab:eF h0
 bE:∀ x∈es,x.length * 8<=140737488355328
 bO:∀ x∈ow,x.length * 8<=140737488355328
 bN:N * 24<=140737488355328
 rO:∀ x∈ow,∀ y∈x,0<=y/\y < 1024
theorem TT (hR:CJ es) (C:U3 es ow h0 ke kn N a oa c oc):SF wi [.pointer (some (aM ks)),.pointer (some (aM kn)),.pointer (some (aM ke)),.pointer (some (aM ko))] es λgs=>[MF es ow ks bs ko bo N gs,has h0]:=by
 intro gs g F w o gc hG hlt h
 have hN:es.length = N:=C.re.1
 have hgN:∀ v∈g,v < N:=λv hv=>by have:=hlt v (by simp [hv]); omega
 have hgl:g.length<=N:=(hG.len hlt).2 g (by simp) |> λh=>by omega
 have hgm:∀ x∈g,∀ y∈g,bR.Rc (En es) x y:=(hG.2 gs g [] rfl).2.1
 have hge:∀ x∈g,∀ y∈En es x,y∈g\/y∈gs.flatten:=(hG.2 gs g [] rfl).2.2
 have hgd:∀ x∈g,x∉gs.flatten:=λx hx=>(bR.H4 hG.1 rfl hx).1
 have bN:=C.bN
 obtain ⟨sets,ps,gr,hF,h⟩:=xW.1 (h.pick 3 [1,0,2])
 refine tH ((Tm 1024 (xs:=[]) a_.nil (by decide)).mono ?_)
 rintro _ w1 ⟨b,rfl,h1⟩
 have h:=h1.qk h
 -- [0 set,1 ks,2 bs,3 ko,4 bo,5 lists,6 sets,7 group,8 has]
 refine ⟨_,rfl,λz w'=>∃ i:Nat,z = i/\i<=g.length/\St w' (eG (some ⟨b,0,none⟩) (Dt 1024 []) :: aK ks [.slice (some ⟨bs,0,none⟩) N N] :: aK bs (Lj (u4 (some ⟨b,0,none⟩) sets (g.take i))) :: aK ko [.slice (some ⟨bo,0,none⟩) N N] :: aK bo (ps.map CG) :: aG (ps.map zq) :: aG (zr gr) :: own 1 o g.length gc (nS g) :: has h0 :: F),
  λz _=>g.length - z.toNat,⟨0,rfl,WC _,h⟩,?_⟩
 rintro _ z w2 ⟨i,rfl,hi,h⟩
 refine ae (λh1=>?_) λh1=>?_
 ·have h1:i < g.length:=by have:=Wr h1; omega
  obtain ⟨v,hv⟩ : ∃ v,g[i]? = some v:=⟨g[i],Wv _⟩
  have hvN:=hgN v (Wu hv)
  obtain ⟨gad,hga,hgc⟩:=cV (h.pick 9 [7,0,1,2,3,4,5,6,8]) (iM hv)
  refine aw hga h1 ⟨_,hgc,_,_,_,(ai 1 h.l).cell0 (sub.refl _),aw rfl hvN ?_⟩
  rw [aL]
  refine bj (h.pick 9 [2,0,1,3,4,5,6,7,8]) (by simp [Lj,CL,hF.ls]; omega) λw3 h=>⟨⟨by omega,by omega⟩,⟨i + 1,rfl,h1,?_⟩,bx h1⟩
  rw [RG] at h
  rw [Wz,hv,XC,ME]
  exact h.pick 9 [1,2,0,3,4,5,6,7,8]
 have h1:i = g.length:=by have:=Ws h1; omega
 subst h1
 rw [WT] at h
 have hmax:∀ x:Nat,(Dt 1024 []).length = 1024/\aO (Dt 1024 []) x = false:=λx=>⟨by unfold Dt; rw [bI,Yp]; decide,by unfold Dt; rw [gG]; simp [fO,kA]⟩
 have hsets:∀ v,(u4 (some ⟨b,0,none⟩) sets g)[v]? = if v∈g then some (some (⟨b,0,none⟩ : Addr)) else sets[v]?:=H_ _ g sets λm hm=>by rw [hF.ls]; exact hgN m hm
 -- the numbers come together
 let Part:Nat->Nat->Prop:=λi x=>(∃ n∈g.take i,(x:Int)∈ow.getD n [])\/∃ n∈g.take i,∃ m∈En es n,m∉g/\dx es ow m x
 refine ⟨λz w'=>∃ (i:Nat) (B:List Bool),z = i/\i<=g.length/\B.length = 1024/\(∀ x,aO B x = true↔x < 1024/\Part i x)/\St w' (eG (some ⟨b,0,none⟩) B :: aK ks [.slice (some ⟨bs,0,none⟩) N N] :: aK bs (Lj (u4 (some ⟨b,0,none⟩) sets g)) :: aK ko [.slice (some ⟨bo,0,none⟩) N N] :: aK bo (ps.map CG) :: aG (ps.map zq) :: aG (zr gr) :: own 1 o g.length gc (nS g) :: has h0 :: F),
  λz _=>g.length - z.toNat,⟨0,_,rfl,WC _,(hmax 0).1,λx=>?_,h⟩,?_⟩
 ·rw [(hmax x).2]
  constructor
  ·intro h; cases h
  ·rintro ⟨_,⟨n,hn,_⟩ | ⟨n,hn,_⟩⟩ <;> simp at hn
 rintro _ z w4 ⟨i,B,rfl,hi,hBl,hBf,h⟩
 refine ae (λh1=>?_) λh1=>?_
 ·have h1:i < g.length:=by have:=Wr h1; omega
  obtain ⟨n,hn⟩ : ∃ n,g[i]? = some n:=⟨g[i],Wv _⟩
  have hng:=Wu hn
  have hnN:=hgN n hng
  have s0:=aU 8 h.l
  obtain ⟨gad,hga,hgc⟩:=cV (h.pick 9 [7,0,1,2,3,4,5,6,8]) (iM hn)
  obtain ⟨xo,oad,ov,hxo,hoa,horow,o4,l4,c4,rfl,hle4,hrd4⟩:=C.rn.get (i:=n) hnN
  rw [aJ,show n * oP.n (List Int) = n from XR n] at horow
  obtain ⟨xe,ead,ev,hxe,hea,herow,o6,l6,c6,rfl,hle6,hrd6⟩:=C.re.get (i:=n) hnN
  rw [aJ,show n * oP.n (List Int) = n from XR n] at herow
  have hlo:=hrd4.1
  have hle:=hrd6.1
  have hxoB:=C.bO xo (Wu hxo)
  have hxeB:=C.bE xe (Wu hxe)
  refine aw hga h1 ⟨_,hgc,_,_,_,C.cn.cell0 s0,aw hoa hnN ⟨o4,l4,c4,horow.cell0 s0,(NT (xs:=xo) h (λhh hl=>hrd4.mono (aU 7 hl)) (by omega)).mono ?_⟩⟩
  rintro _ w5 ⟨rfl,h⟩
  have s0:=aU 8 h.l
  refine ⟨_,rfl,_,_,_,C.ce.cell0 s0,aw hea hnN ⟨o6,l6,c6,herow.cell0 s0,?_⟩⟩
  have hen:=Pb hxe
  have how:ow.getD n [] = xo:=by rw [Ww,hxo]; rfl
  refine ⟨λz w'=>∃ (j:Nat) (B' : List Bool),z = j/\j<=l6/\B'.length = 1024/\(∀ x,aO B' x = true↔x < 1024/\(Part i x\/(x:Int)∈xo\/∃ m∈(En es n).take j,m∉g/\dx es ow m x))/\St w' (eG (some ⟨b,0,none⟩) B' :: aK ks [.slice (some ⟨bs,0,none⟩) N N] :: aK bs (Lj (u4 (some ⟨b,0,none⟩) sets g)) :: aK ko [.slice (some ⟨bo,0,none⟩) N N] :: aK bo (ps.map CG) :: aG (ps.map zq) :: aG (zr gr) :: own 1 o g.length gc (nS g) :: has h0 :: F),
   λz _=>l6 - z.toNat,⟨0,_,rfl,WC _,by rw [bI]; exact hBl,λx=>?_,h⟩,?_⟩
  ·rw [gG,fO,hBl,Xt,hBf,WL,WH,XY]
   constructor
   ·rintro (⟨p1,p2⟩ | ⟨p1,p2⟩)
    ·exact ⟨p1,.inl p2⟩
    ·exact ⟨p1,.inr (.inl p2)⟩
   ·rintro ⟨p1,p2 | p2 | ⟨m,hm,_⟩⟩
    ·exact .inl ⟨p1,p2⟩
    ·exact .inr ⟨p1,p2⟩
    ·simp at hm
  rintro _ z w6 ⟨j,B',rfl,hj,hBl',hBf',h⟩
  have s0:=aU 8 h.l
  refine ae (λh2=>?_) λh2=>?_
  ·have h2:j < l6:=by have:=Wr h2; omega
   obtain ⟨mI,hmI⟩ : ∃ mI,xe[j]? = some mI:=⟨xe[j]'(by omega),Wv _⟩
   obtain ⟨m,hmE,rfl⟩ : ∃ m:Nat,(En es n)[j]? = some m/\mI = (m:Int):=by
    refine ⟨mI.toNat,by rw [hen,Wx,hmI]; rfl,?_⟩
    have:=hR xe (Wu hxe) mI (Wu hmI)
    omega
   have hmN:m < N:=by have:=SE hR (Wu hmE); omega
   have htk:∀ {B'' : List Bool},(∀ x,aO B'' x = true↔aO B' x = true\/(x < 1024/\m∉g/\dx es ow m x))->∀ x,aO B'' x = true↔x < 1024/\(Part i x\/(x:Int)∈xo\/∃ m∈(En es n).take (j + 1),m∉g/\dx es ow m x):=by
    intro B'' hB x
    rw [hB,hBf',Wz,hmE,XC]
    constructor
    ·rintro (⟨p1,p2 | p2 | ⟨y,q1,q2⟩⟩ | ⟨p1,p2⟩)
     ·exact ⟨p1,.inl p2⟩
     ·exact ⟨p1,.inr (.inl p2)⟩
     ·exact ⟨p1,.inr (.inr ⟨y,Yh _ q1,q2⟩)⟩
     ·exact ⟨p1,.inr (.inr ⟨m,by simp,p2⟩)⟩
    ·rintro ⟨p1,p2 | p2 | ⟨y,q1,q2⟩⟩
     ·exact .inl ⟨p1,.inl p2⟩
     ·exact .inl ⟨p1,.inr (.inl p2)⟩
     ·rcases Wy.1 q1 with q1 | q1
      ·exact .inl ⟨p1,.inr (.inr ⟨y,q1,q2⟩)⟩
      ·simp at q1; subst q1; exact .inr ⟨p1,q2⟩
   obtain ⟨ead2,hea2,hc2⟩:=hrd6.at hmI
   have rowS:=(ai 2 h.l)
   refine aw hea2 h2 ⟨(m:Int),hc2 w6 s0,_,_,_,(ai 1 h.l).cell0 (sub.refl _),aw rfl hmN ?_⟩
   by_cases hmg:m∈g
   ·have hsm:(u4 (some ⟨b,0,none⟩) sets g)[m]? = some (some (⟨b,0,none⟩ : Addr)):=by rw [hsets,WJ hmg]
    refine ⟨some ⟨b,0,none⟩,rowS.cell (sub.refl _) (F8 hsm),⟨_,MD aQ (rfl:aj Ty mP = .ptr _) rfl (by decide),false,rfl,?_⟩⟩
    refine ⟨⟨by omega,by omega⟩,⟨j + 1,B',rfl,h2,hBl',htk λx=>⟨.inl,λh=>h.resolve_right λh=>h.2.1 hmg⟩,h⟩,bx h2⟩
   ·have hmf:m∈gs.flatten:=(hge n hng m (Wu hmE)).resolve_left hmg
    obtain ⟨g2,hg2,hmg2⟩:=List.mem_flatten.1 hmf
    obtain ⟨k2,hk2⟩:=W3 hg2
    obtain ⟨⟨b2,B2⟩,hb2⟩ : ∃ y,gr[k2]? = some y:=⟨gr[k2]'(by rw [hF.lg]; exact (Wt.1 hk2).1),Wv _⟩
    obtain ⟨f1,f2,_⟩:=hF.st k2 g2 b2 B2 hk2 hb2 m hmg2
    have hsm:(u4 (some ⟨b,0,none⟩) sets g)[m]? = some (some (⟨b2,0,none⟩ : Addr)):=by rw [hsets,WB hmg,f1]
    have hgr:(zr gr)[k2]? = some (eG (some ⟨b2,0,none⟩) B2):=by unfold zr; rw [Wx,hb2]; rfl
    have hcmp:=Pe (xo:=Operand.tmp 52) (yo:=Operand.tmp 53) ((St.B7 (h.pick 9 [6,0,1,2,3,4,5,7,8]) hgr).pick 3 [0,2])
    refine ⟨some ⟨b2,0,none⟩,rowS.cell (sub.refl _) (F8 hsm),⟨_,hcmp,true,rfl,?_⟩⟩
    refine ⟨_,_,_,(ai 1 h.l).cell0 (sub.refl _),aw rfl hmN ⟨some ⟨b2,0,none⟩,rowS.cell (sub.refl _) (F8 hsm),ah h λk15 w7 h=>?_⟩⟩
    have h:=h.pick 10 [1,0,2,3,4,5,6,7,8,9]
    refine (KP (os:=[some ⟨b2,0,none⟩]) (vss:=[B2]) h (λhh hl=>fi rfl (.inr ⟨_,rfl,(show av hh ⟨k15,0,none⟩ [.pointer (some ⟨b2,0,none⟩)] from ai 0 hl)⟩)) rfl (λhh hl y q v hq hv=>?_) (λhh hl=>eJ.mono (aU 8 hl) C.tab) (by simp)).mono ?_
    ·obtain ⟨h1,s1,ha⟩:=Pd 6 hl (A:=aG (zr gr))
     obtain ⟨h3,s3,h4⟩:=kW (Wu hgr) ha
     cases y with
     | zero=>cases hq; cases hv; exact .inl ((Fj h4).mono (s3.trans s1))
     | succ y=>simp at hq
    rintro _ w8 ⟨rfl,h⟩
    refine ⟨_,rfl,⟨by omega,by omega⟩,⟨j + 1,cG B' [B2],rfl,h2,by rw [vz]; exact hBl',htk λx=>?_,h.pick 10 [0,2,3,4,5,6,7,8,9]⟩,bx h2⟩
    show aO (dg B' (df B2)) x = true↔_
    rw [dT,hBl',Xt,WL,WH,f2.fn]
    constructor
    ·rintro (p | ⟨p1,_,p2⟩)
     ·exact .inl p
     ·exact .inr ⟨p1,hmg,p2⟩
    ·rintro (p | ⟨p1,_,p2⟩)
     ·exact .inl p
     ·exact .inr ⟨p1,p1,p2⟩
  ·have h2:j = l6:=by have:=Ws h2; omega
   subst h2
   refine ⟨⟨by omega,by omega⟩,⟨i + 1,B',rfl,h1,hBl',λx=>?_,h⟩,bx h1⟩
   have hjl:(En es n).take j = En es n:=WN (by rw [hen,WE]; omega)
   rw [hBf',hjl]
   refine and_congr_right λ_=>?_
   show _↔(∃ n∈g.take (i + 1),_)\/∃ n∈g.take (i + 1),_
   rw [Wz,hn,XC]
   constructor
   ·rintro ((⟨y,q1,q2⟩ | ⟨y,q1,q2⟩) | q | q)
    ·exact .inl ⟨y,Yh _ q1,q2⟩
    ·exact .inr ⟨y,Yh _ q1,q2⟩
    ·exact .inl ⟨n,by simp,by rw [how]; exact q⟩
    ·exact .inr ⟨n,by simp,q⟩
   ·rintro (⟨y,q1,q2⟩ | ⟨y,q1,q2⟩)
    ·rcases Wy.1 q1 with q1 | q1
     ·exact .inl (.inl ⟨y,q1,q2⟩)
     ·simp at q1; subst q1; exact .inr (.inl (by rw [how] at q2; exact q2))
    ·rcases Wy.1 q1 with q1 | q1
     ·exact .inl (.inr ⟨y,q1,q2⟩)
     ·simp at q1; subst q1; exact .inr (.inr q2)
 have h1:i = g.length:=by have:=Ws h1; omega
 subst h1
 have hSol:∀ v∈g,Pc es ow v B:=λv hv=>⟨hBl,λx=>by
  rw [hBf]
  refine and_congr_right λ_=>?_
  show (∃ n∈g.take g.length,_)\/(∃ n∈g.take g.length,_)↔_
  rw [WT,dx.step hv hgm]⟩
 refine (Ef (h.nU) (eJ.mono (aU 8 h.l) C.tab)).mono ?_
 rintro _ w9 ⟨a5,c5,rfl,h5⟩
 have h:=h5.qk h
 have hml:(df B).length = aY B:=pn B
 have hmb:aY B<=1024:=by have:=fy B; omega
 refine ⟨_,_,_,rfl,λz w'=>∃ (i:Nat) (ps' : List Ls),z = i/\i<=g.length/\ps'.length = N/\(∀ v∈g.take i,∃ p,ps'[v]? = some p/\p.2 = df B)/\(∀ v,v∉g->ps'[v]? = ps[v]?) /\
   St w' (own 1 a5 (aY B) c5 (iv (df B)) :: eG (some ⟨b,0,none⟩) B :: aK ks [.slice (some ⟨bs,0,none⟩) N N] :: aK bs (Lj (u4 (some ⟨b,0,none⟩) sets g)) :: aK ko [.slice (some ⟨bo,0,none⟩) N N] :: aK bo (ps'.map CG) :: aG (ps'.map zq) :: aG (zr gr) :: own 1 o g.length gc (nS g) :: has h0 :: F),
  λz _=>g.length - z.toNat,⟨0,ps,rfl,WC _,hF.lp,λv hv=>by simp at hv,λ_ _=>rfl,h⟩,?_⟩
 rintro _ z w10 ⟨i,ps',rfl,hi,hpl,hp1,hp2,h⟩
 refine ae (λh1=>?_) λh1=>?_
 ·have h1:i < g.length:=by have:=Wr h1; omega
  obtain ⟨v,hv⟩ : ∃ v,g[i]? = some v:=⟨g[i],Wv _⟩
  have hvN:=hgN v (Wu hv)
  obtain ⟨gad,hga,hgc⟩:=cV (h.pick 10 [8,0,1,2,3,4,5,6,7,9]) (iM hv)
  refine aw hga h1 ⟨_,hgc,λw11 hd=>?_⟩
  have h:=h.eq (aB hd)
  have rko:=ai 4 h.l
  refine ⟨λu=>Gr w11 u,Gr.refl _,_,_,_,λu hu=>rko.cell0 hu,(H9 (xs:=df B) (dS hml (fB 0 h.l)) (by omega) (by omega)).mono ?_⟩
  rintro _ w13 ⟨o13,c13,rfl,h13⟩
  have g13:Gr w11 w13:=h13.aZ
  have h:=h13.qk h
  refine ⟨_,_,_,rfl,g13,aw rfl hvN ?_⟩
  rw [aL]
  refine bj (h.pick 11 [6,0,1,2,3,4,5,7,8,9,10]) (by simp; omega) λw14 h=>⟨⟨by omega,by omega⟩,⟨i + 1,ps'.set v ((o13,c13),df B),rfl,h1,by rw [W1]; exact hpl,λu hu=>?_,λu hu=>?_,?_⟩,bx h1⟩
  ·by_cases e:u = v
   ·subst e; exact ⟨_,by rw [X_ (by omega)],rfl⟩
   ·rw [Wz,hv,XC] at hu
    rcases Wy.1 hu with hu | hu
    ·obtain ⟨p,q1,q2⟩:=hp1 u hu
     exact ⟨p,by rw [Yi (X2 e)]; exact q1,q2⟩
    ·simp at hu; exact absurd hu e
  ·have e:u≠v:=λe=>hu (e ▸ Wu hv)
   rw [Yi (X2 e)]; exact hp2 u hu
  ·have h:=St.N9 (A:=own 1 o13 (df B).length c13 (iv (df B))) (M:=ps'.map zq) (h.pick 11 [1,7,0,2,3,4,5,6,8,9,10]) (n:=v) (by simp; omega)
   have e1:(ps'.map CG).set v (.slice o13 (df B).length c13) = (ps'.set v ((o13,c13),df B)).map CG:=by rw [Xy]; rfl
   have e2:(ps'.map zq).set v (own 1 o13 (df B).length c13 (iv (df B))) = (ps'.set v ((o13,c13),df B)).map zq:=by rw [Xy]; rfl
   rw [e1,e2] at h
   exact h.pick 10 [2,3,4,5,6,1,0,7,8,9]
 have h1:i = g.length:=by have:=Ws h1; omega
 subst h1
 rw [WT] at hp1
 refine ⟨rfl,?_⟩
 show St w10 (MF es ow ks bs ko bo N (gs ++ [g]) :: has h0 :: F)
 refine xW.2 ⟨u4 (some ⟨b,0,none⟩) sets g,ps',gr ++ [(b,B)],⟨by rw [CL]; exact hF.ls,hpl,by simp [hF.lg],λi g' b' B' hi1 hi2 v hv=>?_⟩,?_⟩
 ·by_cases e:i < gs.length
  ·rw [WI e] at hi1
   rw [WI (by rw [hF.lg]; exact e)] at hi2
   have hvf:v∈gs.flatten:=List.mem_flatten.2 ⟨g',Wu hi1,hv⟩
   have hvg:v∉g:=λh=>hgd v h hvf
   obtain ⟨q1,q2,q3⟩:=hF.st i g' b' B' hi1 hi2 v hv
   exact ⟨by rw [hsets,WB hvg]; exact q1,q2,by rw [hp2 v hvg]; exact q3⟩
  ·have hil:=(Wt.1 hi1).1
   simp at hil
   have e:i = gs.length:=by omega
   subst e
   rw [WK (WO _),Xz] at hi1
   rw [WK (by rw [hF.lg]; exact WO _),hF.lg,Xz] at hi2
   cases hi1; cases hi2
   exact ⟨by rw [hsets,WJ hv],hSol v hv,hp1 v hv⟩
 ·have e1:zr (gr ++ [(b,B)]) = zr gr ++ [eG (some ⟨b,0,none⟩) B]:=by simp [zr]
  rw [e1]
  exact (St.snoc (h.pick 10 [1,7,2,3,4,5,6,9])).pick 7 [1,2,3,4,5,0,6]
end Go.Proofs.YtndaepmjkbmjmaaGreatDoor
namespace Go.V
def MG (l:List Int):Bool:=!l.any λx=>decide (x < 0) || decide (1024<=x)
theorem Ia {l:List Int}:MG l = true↔∀ x∈l,0<=x/\x < 1024:=by
 unfold MG
 rw [XO,List.any_eq_false]
 refine forall_congr' λx=>forall_congr' λhx=>?_
 simp
def zY (es ow:List (List Int)):Bool:=jr es && ow.length == es.length && ow.all MG
end Go.V
namespace Go.Proofs.YtndaepmjkbmjmaaGreatDoor
variable {w:YC} {L:List ay} {a oa:YB} {N M c oc l:Nat} {es ow:List (List Int)}
def Lk (es ow:List (List Int)) (ps:List Ls):Prop:=ps.length = es.length/\∀ v,v < es.length->∃ B p,Pc es ow v B/\ps[v]? = some p/\p.2 = df B
theorem RH (hr:a_ (hp w) es a N) (ho:a_ (hp w) ow oa M) (ht:eF (hp w)) (hB:∀ l∈es,l.length * 8<=140737488355328) (hO:∀ l∈ow,l.length * 8<=140737488355328) (hb:N * 24<=140737488355328) (hM:M * 24<=140737488355328) :
  aA Tryz.prog AD [.slice a N c,.slice oa M oc] w λv w'=>(zY es ow = false/\v = .tuple (Array.mk [.slice none 0 0,.int .i64 1])/\Gr w w') \/
   (zY es ow = true/\∃ (bo:Nat) (ps:List Ls),Lk es ow ps/\v = .tuple (Array.mk [.slice (some ⟨bo,0,none⟩) N N,.int .i64 0])/\St w' (own 1 (some ⟨bo,0,none⟩) N N (ps.map CG) :: aG (ps.map zq) :: all w)):=by
 have hN:=hr.1
 have hMl:=ho.1
 refine xR ?_
 refine ah (St.all w) λke w1 h=>ah h λkn w2 h=>?_
 have g2:Gr w w2:=h.tail.aZ
 refine ⟨λb w'=>b = !(jr es && M == N)/\Gr w2 w',⟨_,_,_,(ai 1 h.l).cell0 (sub.refl _),(RF (hr.mono g2) (by omega) λx hx=>by have:=hB x hx; omega).mono ?_⟩,?_⟩
 ·rintro _ w3 ⟨rfl,g3⟩
  have h:=h.gr g3
  refine ⟨_,rfl,ae (λh1=>?_) λh1=>?_⟩
  ·have h1:jr es = false:=by simpa using h1
   exact ⟨by rw [h1]; rfl,g3⟩
  ·have h1:jr es = true:=by simpa using h1
   refine ⟨_,_,_,(ai 0 h.l).cell0 (sub.refl _),_,_,_,(ai 1 h.l).cell0 (sub.refl _),?_,g3⟩
   rw [h1,X9]
   by_cases e:M = N
   ·subst e; simp
   ·have:((M:Int) != (N:Int)) = true:=by simp; omega
    rw [this]; simp [e]
 rintro _ b2 w4 ⟨rfl,g4⟩
 refine ae (λh1=>?_) λh1=>?_
 ·refine .inl ⟨?_,rfl,g2.trans g4⟩
  have h1:(jr es && M == N) = false:=by cases hq:(jr es && M == N) with
   | false=>rfl
   | true=>rw [hq] at h1; cases h1
  unfold zY
  rw [hMl,hN,h1]; rfl
 have h1:(jr es && M == N) = true:=by cases hq:(jr es && M == N) with
  | true=>rfl
  | false=>rw [hq] at h1; cases h1
 obtain ⟨h2,h3⟩:=Bool.and_eq_true_iff.1 h1
 have h3:M = N:=by simpa using h3
 subst h3
 have h:=h.gr g4
 have hre:=hr.mono (g2.trans g4)
 have hro:=ho.mono (g2.trans g4)
 refine ⟨_,_,_,(ai 0 h.l).cell0 (sub.refl _),λz w'=>∃ i:Nat,z = i/\i<=M/\(∀ x∈ow.take i,MG x = true)/\hp w' = hp w4,λz _=>M - z.toNat,⟨0,rfl,WC _,λx hx=>by simp at hx,rfl⟩,?_⟩
 rintro _ z w5 ⟨i,rfl,hi,hme,e5⟩
 refine ae (λh4=>?_) λh4=>?_
 ·have h4:i < M:=by have:=Wr h4; omega
  obtain ⟨x,ad,vs,hx,had,hrow,o,l1,c1,rfl,hle,hrd⟩:=hro.get h4
  rw [aJ,show i * oP.n (List Int) = i from XR i] at hrow
  have hxB:=hO x (Wu hx)
  have hxl:=hrd.1
  refine aw had h4 ⟨o,l1,c1,hrow.cell0 (Gr.of_eq e5),(SG (p:=λx=>decide (x < 0) || decide (1024<=x)) (d:=wh) (e:=[]) rfl (by rw [e5]; exact hrd) (by omega) ?_).mono ?_⟩
  ·intro y hy u hu
   refine tF (ae (λh=>?_) λh=>?_)
   ·exact ⟨by rw [show decide (y < 0) = true from h]; rfl,hu⟩
   ·exact ⟨by rw [show decide (y < 0) = false from h,Bool.false_or],hu⟩
  rintro _ w6 ⟨rfl,e6⟩
  refine ⟨_,rfl,ae (λh5=>?_) λh5=>?_⟩
  ·refine .inl ⟨?_,rfl,(g2.trans g4).trans (Gr.of_eq (e6.trans e5))⟩
   unfold zY
   rw [Bool.and_eq_false_iff]
   right
   rw [List.all_eq_false]
   exact ⟨x,Wu hx,by unfold MG; rw [h5]; decide⟩
  ·refine ⟨⟨by omega,by omega⟩,⟨i + 1,rfl,h4,λy hy=>?_,e6.trans e5⟩,bx h4⟩
   rw [Wz,hx] at hy
   rcases Wy.1 hy with hy | hy
   ·exact hme y hy
   ·simp at hy; subst hy; unfold MG; rw [h5]; rfl
 have h4:i = M:=by have:=Ws h4; omega
 subst h4
 rw [WN (by omega)] at hme
 have h:=h.eq e5
 have hok:zY es ow = true:=by
  unfold zY
  rw [h2,hMl,hN]
  simp
  exact hme
 refine ⟨_,_,_,(ai 1 h.l).cell0 (sub.refl _),⟨by omega,rfl,by omega⟩,?_⟩
 -- from here on what there is stays as it is
 have hall:=St.all w5
 refine ah hall λbs w7 h7=>ah h7 λks w8 h8=>bj h8 (by simp) λw9 h9=>?_
 have c1:∀ {u:YC} {v:List Value} {L' : List ay} {b:Nat},Gr w5 u->u.cell? (aM ke) = some (.slice a i c):=λg=>(ai 1 h.l).cell0 g
 refine ⟨_,_,_,c1 (v:=[]) (L':=[]) (b:=0) h9.tail.tail.has,⟨by omega,rfl,by omega⟩,ah h9 λbo w10 h10=>ah h10 λko w11 h11=>bj h11 (by simp) λw12 h12=>?_⟩
 refine ⟨_,_,_,c1 (v:=[]) (L':=[]) (b:=0) h12.tail.tail.tail.tail.has,?_⟩
 have hre5:a_ (hp w5) es a i:=by rw [e5]; exact hre
 have hro5:a_ (hp w5) ow oa i:=by rw [e5]; exact hro
 have C:U3 es ow (hp w5) ke kn i a oa c oc:=⟨ai 1 h.l,ai 0 h.l,hre5,hro5,by rw [e5]; exact eJ.mono (g2.trans g4) ht,hB,hO,hb,λx hx=>Ia.1 (hme x hx)⟩
 have hR:=CK.1 h2
 have hst:St w12 ([MF es ow ks bs ko bo i [],has (hp w5)] ++ []):=by
  have q1:jB (Int.toNat (i:Int)) [vP none] = Lj (List.replicate i none):=by rw [de]; simp [Lj]
  have q2:jB (Int.toNat (i:Int)) [vS none 0 0] = (List.replicate i (((none,0),[]):Ls)).map CG:=by rw [de]; simp [CG]
  rw [q1,q2] at h12
  have h13:=(St.flat (M:=zr [])).2 (xl (A:=zq ((none,0),[])) (λw L h=>az 1 h) i h12)
  have q3:List.replicate i (zq ((none,0),[])) = (List.replicate i (((none,0),[]):Ls)).map zq:=by simp
  rw [q3] at h13
  exact xW.2 ⟨_,_,[],⟨by simp,by simp,rfl,λk g b B hk=>by simp at hk⟩,h13.pick 7 [4,5,2,3,1,0,6]⟩
 refine (TS (Q:=λgs=>[MF es ow ks bs ko bo i gs,has (hp w5)]) (L:=[]) rfl (TT hR C) (λgs hh hs=>hre5.mono (aU 1 hs)) hR hB hb hst).mono ?_
 rintro _ w13 ⟨rfl,gs,hG,hall2,h⟩
 obtain ⟨sets,ps,gr,hF,h⟩:=xW.1 h
 refine ⟨rfl,_,_,_,(ai 2 h.l).cell0 (sub.refl _),.inr ⟨hok,bo,ps,⟨by rw [hF.lp,hN],λv hv=>?_⟩,rfl,?_⟩⟩
 ·have hvf:=(hall2 v).2 (by omega)
  obtain ⟨g,hg,hvg⟩:=List.mem_flatten.1 hvf
  obtain ⟨k,hk⟩:=W3 hg
  obtain ⟨⟨b,B⟩,hb2⟩ : ∃ y,gr[k]? = some y:=⟨gr[k]'(by rw [hF.lg]; exact (Wt.1 hk).1),Wv _⟩
  obtain ⟨_,q2,p,q3,q4⟩:=hF.st k g b B hk hb2 v hvg
  exact ⟨B,p,q2,q3,q4⟩
 ·have h:=h.pick 7 [3,4,6]
  have h:=iD (sz:=1) (l:=i) (c:=i) (cs:=[]) (by rw [W2]; exact h) (by simp [hF.lp]) (by simp [hF.lp]) (WO _)
  have g5:Gr w w5:=(g2.trans g4).trans (Gr.of_eq e5)
  exact ((h.pick 3 [2,0,1]).head (B:=has (hp w)) λhh hs=>sub.trans g5 hs).pick 3 [1,2,0]
end Go.Proofs.YtndaepmjkbmjmaaGreatDoor

namespace Go.V
section
variable {es ow:List (List Int)}
open Classical in
noncomputable def nf (es ow:List (List Int)) (v:Nat):List Int:=bX 1024 λx=>decide (dx es ow v x)
noncomputable def zt (es ow:List (List Int)):List (List Int):=(List.range es.length).map (nf es ow)
theorem xX:(zt es ow).length = es.length:=by unfold zt; simp
theorem xY {v:Nat} (h:v < es.length):(zt es ow)[v]? = some (nf es ow v):=by unfold zt; simp [h]
theorem gZ {v:Nat} {z:Int}:z∈nf es ow v↔∃ x:Nat,z = x/\x < 1024/\dx es ow v x:=by
 unfold nf; rw [cK]; simp
theorem zZ {v:Nat}:jc (nf es ow v):=oy _ _
theorem J4 {v:Nat}:(nf es ow v).length<=1024:=jQ _ _
theorem dx.iff {v x:Nat}:dx es ow v x↔(x:Int)∈ow.getD v []\/∃ m∈En es v,dx es ow m x:=by
 constructor
 ·rintro ⟨u,h,hx⟩
  cases h with
  | refl=>exact .inl hx
  | step h1 h2=>exact .inr ⟨_,h1,_,h2,hx⟩
 ·rintro (h | ⟨m,h1,u,h2,hx⟩)
  ·exact ⟨v,.refl v,h⟩
  ·exact ⟨u,.step h1 h2,hx⟩
theorem dx.least {Q:Nat->Nat->Prop} (h1:∀ v x:Nat,(x:Int)∈ow.getD v []->Q v x) (h2:∀ v m x:Nat,m∈En es v->Q m x->Q v x) {v x:Nat} (h:dx es ow v x):Q v x:=by
 obtain ⟨u,h,hx⟩:=h
 induction h with
 | refl a=>exact h1 a x hx
 | step ha hb ih=>exact h2 _ _ _ ha (ih hx)
theorem F9 (B:List Bool):df B = bX B.length (aO B):=by
 unfold df bX
 rfl
theorem pV {n:Nat} {f f' : Nat->Bool} (h:∀ k,k < n->f k = f' k):bX n f = bX n f':=by
 unfold bX
 rw [XF λk hk=>h k (WY.1 hk)]
open Classical in
theorem Pc.row {v:Nat} {B:List Bool} (h:Pc es ow v B):df B = nf es ow v:=by
 rw [F9,h.ln]
 unfold nf
 refine pV λk hk=>?_
 have:=h.fn k
 cases hb:aO B k with
 | true=>rw [hb] at this; exact (W4 (this.1 rfl).2).symm
 | false=>rw [hb] at this; exact (Xm λhh=>by have:=this.2 ⟨hk,hh⟩; cases this).symm
theorem Lk.rows {ps:List Ls} (h:Lk es ow ps):ps.map (·.2) = zt es ow:=by
 apply Xs
 intro v
 by_cases hv:v < es.length
 ·obtain ⟨B,p,q1,q2,q3⟩:=h.2 v hv
  rw [Wx,q2,xY hv]
  simp only [Xw]
  rw [q3,q1.row]
 ·rw [WR (by rw [WE,h.1]; omega),WR (by rw [xX]; omega)]
theorem TU {rs:List (List Int)} (hl:rs.length = es.length) (h:∀ (v:Nat) row,rs[v]? = some row->jc row/\∀ z,z∈row↔∃ x:Nat,z = x/\x < 1024/\dx es ow v x):rs = zt es ow:=by
 apply Xs
 intro v
 by_cases hv:v < es.length
 ·have hr:rs[v]? = some (rs[v]'(by omega)):=Wv _
  obtain ⟨h1,h2⟩:=h v _ hr
  rw [hr,xY hv,xK h1 zZ λz=>(h2 z).trans gZ.symm]
 ·rw [WR (by omega),WR (by rw [xX]; omega)]
end
section
variable {g:af} {nn nn' : List Bool} {ss ss' : List SQ}
def pW (g:af) (ss:List SQ):List (List Int):=(bm g ss).map (il g ss)
noncomputable def J5 (g:af) (nn:List Bool) (ss:List SQ):List (List Int):=zt (q8 g nn ss) (pW g ss)
noncomputable def Dc (g:af) (nn:List Bool) (ss:List SQ):List (List Int):=zt (uP g nn ss) (J5 g nn ss)
theorem Ll (h:bz ss = bz ss'):pW g ss = pW g ss':=by
 unfold pW; rw [tn h]; exact XJ λt _=>OJ h t
theorem Pf (h:bz ss = bz ss'):J5 g nn ss = J5 g nn ss':=by unfold J5; rw [Lf h,Ll h]
theorem TV (h:bz ss = bz ss'):Dc g nn ss = Dc g nn ss':=by unfold Dc; rw [Lg h,Pf h]
theorem CM:(q8 g nn ss).length = (bm g ss).length:=by unfold q8; simp
theorem CN:(uP g nn ss).length = (bm g ss).length:=by unfold uP; simp
theorem Pg:(pW g ss).length = (bm g ss).length:=by unfold pW; simp
theorem RI:(J5 g nn ss).length = (bm g ss).length:=by unfold J5; rw [xX,CM]
theorem RJ:(Dc g nn ss).length = (bm g ss).length:=by unfold Dc; rw [xX,CN]
structure bG where
 st:Int
 prod:Int
 tm:List Int
deriving DecidableEq
instance:Inhabited bG:=⟨⟨0,0,[]⟩⟩
open Classical in
noncomputable def dV (g:af) (fs:List (List Int)) (b:iS):bG:=⟨b.st,b.prod,bX g.T λx=>decide (∃ t∈b.tr,(x:Int)∈fs.getD t.toNat [])⟩
noncomputable def bq (g:af) (nn:List Bool) (ss:List SQ):List bG:=(pJ g ss).map (dV g (Dc g nn ss))
theorem EA (h:bz ss = bz ss'):bq g nn ss = bq g nn ss':=by unfold bq; rw [Lh h,TV h]
end
section
variable {g:af} {nn:List Bool} {ss:List SQ}
theorem U4 (hc:ak g):∃ nn,jb g nn:=by
 refine ⟨(List.range g.N).map λi=>@decide (Ay g ((g.T + i:Nat):Int)) (Classical.propDecidable _),by simp,λi=>?_⟩
 unfold aO
 rw [Ww,Wx]
 by_cases hi:i < g.N
 ·rw [XV hi]
  simp
 ·rw [WR (by simp; omega)]
  simp only [Option.map_none,Option.getD_none,X0,false_iff]
  intro h
  have:((g.T + i:Nat):Int) < g.T + g.N:=by
   cases hs:((g.T + i:Nat):Int) with
   | ofNat n =>
    rw [hs] at h
    generalize hz:(Int.ofNat n) = z at h
    cases h with
    | mk p hp _ =>
     have:=(Rx (.inr hc)).1 p hp |>.1
     omega
   | negSucc n=>omega
  omega
structure Ib (F:af->List Bool->List SQ->List (List Int)):Prop where
 es:∀ {g nn ss ss'},bz ss = bz ss'->F g nn ss = F g nn ss'
 ln:∀ {g nn ss},(F g nn ss).length = (bm g ss).length
def z6 (F:af->List Bool->List SQ->List (List Int)) (g:af) (w:YC) (v:Value) (w' : YC):Prop:=∃ (ss:List SQ) (ask int f:Int) (nn:List Bool) (o:YB) (c:Nat) (ds:List (Lq Int)),v = .tuple #[.slice o ds.length c,.int .i64 f]/\qY g ss ask int f/\(f = 0->jb g nn)/\ds.map (·.2) = F g nn ss/\St w' (own 1 o ds.length c (ds.map dO) :: aG (ds.map (dp 1 iv)) :: all w)
theorem Ib.nil {F:af->List Bool->List SQ->List (List Int)} (h:Ib F):F g nn [] = []:=by
 have:=h.ln (g:=g) (nn:=nn) (ss:=[])
 exact WU (by rw [this]; simp [bm,uj])
theorem TW:Ib λg _ ss=>pW g ss:=⟨λh=>Ll h,Pg⟩
theorem TX:Ib q8:=⟨λh=>Lf h,CM⟩
theorem TY:Ib uP:=⟨λh=>Lg h,CN⟩
theorem U5:Ib J5:=⟨λh=>Pf h,RI⟩
theorem qY.nil {a i f:Int} (h:qY g ss a i f) (hf:f≠0):ss = []:=by
 rcases h with ⟨_,e,_⟩ | ⟨_,_,e,_⟩ | ⟨_,_,_,_,e⟩ <;> first | exact e | exact absurd e hf
theorem Lm (hc:ak g) (hA:bn g ss) {l:List Int} (hl:l∈pW g ss):l.length<=66/\jc l/\∀ z∈l,0<=z/\z < g.T:=by
 obtain ⟨t,ht,rfl⟩:=WS.1 hl
 obtain ⟨hT,hN,_⟩:=hc.ct
 obtain ⟨i,q,k,e,hi,hq,he,hge,rfl⟩:=iQ ht
 obtain ⟨_,_,j,r,hj,hj1,hr,hrk,_⟩:=fm hc hA hq he
 rw [Cv (j:=j) (q:=r) (by rw [<- hj]; exact oq hA hq he) hr,Rt hc hA hr]
 refine ⟨?_,oy _ _,λz hz=>?_⟩
 ·have:=jQ g.T (TE g ss ⟨(i:Int),e.sym⟩ j)
  unfold bX at this
  omega
 ·obtain ⟨n,rfl,h1,_⟩:=cK.1 (show z∈bX g.T (TE g ss ⟨(i:Int),e.sym⟩ j) from hz)
  omega
theorem EB {n:Nat} {f:Nat->Nat->Bool}:jr ((List.range n).map λi=>bX n (f i)) = true:=by
 rw [CK]
 intro l hl x hx
 obtain ⟨i,_,rfl⟩:=WS.1 hl
 obtain ⟨k,rfl,h1,_⟩:=cK.1 hx
 simp; omega
theorem Ln {es ow:List (List Int)} {l:List Int} (h:l∈zt es ow):l.length<=1024/\jc l/\∀ z∈l,0<=z/\z < 1024:=by
 unfold zt at h
 obtain ⟨v,_,rfl⟩:=WS.1 h
 refine ⟨J4,zZ,λz hz=>?_⟩
 obtain ⟨x,rfl,h1,_⟩:=gZ.1 hz
 omega
end
end Go.V
namespace Go.Proofs.YtndaepmjkbmjmaaGreatDoor
variable {w:YC} {L:List ay} {g:af} {x:GA}
theorem CO {f1 f2:FuncId} {E O:af->List Bool->List SQ->List (List Int)} (hE:Ib E) (hO:Ib O) (hf1:Fn f1 = true) (hf2:Fn f2 = true) (hg:gR (hp w) g x) (ht:eF (hp w))
  (C1:∀ u,Gr w u->aA Tryz.prog f1 [.agg ⟨x.cells⟩] u (z6 O g u)) (C2:∀ u,Gr w u->aA Tryz.prog f2 [.agg ⟨x.cells⟩] u (z6 E g u))
  (hOb:∀ {nn ss},ak g->bn g ss->∀ l∈O g nn ss,l.length<=33280/\∀ z∈l,0<=z/\z < 1024) (hEb:∀ {nn ss},ak g->bn g ss->jr (E g nn ss) = true/\∀ l∈E g nn ss,l.length<=33280) :
  aA Tryz.prog pU [.agg #[.func (.func f1) #[] #[],.func (.func f2) #[] #[]],.agg ⟨x.cells⟩] w (z6 (λg nn ss=>zt (E g nn ss) (O g nn ss)) g w):=by
 refine m_ (ah (St.all w) λk1 w1 h=>?_)
 have g01:Gr w w1:=h.aZ
 have r1:av (hp w1) (aM k1) _:=ai 0 h.l
 clear h
 refine cN (hg.mono g01) λk2 w2 g12 hg2 B=>?_
 have g02:Gr w w2:=g01.trans g12
 refine ⟨_,_,r1.cell g12 (j:=0) rfl,_,_,_,_,_,_,_,_,_,_,_,_,_,B.row (sub.refl _),bJ.2 ⟨hf1,(C1 w2 g02).mono ?_⟩⟩
 rintro _ w3 ⟨ss,ask,int,f,nn,o,c,ds,rfl,hR,hn,hds,h⟩
 have g23:Gr w2 w3:=aU 2 h.l
 have g03:=g02.trans g23
 refine ⟨_,_,_,_,rfl,ae (λh1=>?_) λh1=>?_⟩
 ·have h1:f≠0:=by simpa using h1
  have hz:=hR.nil h1
  subst hz
  refine ⟨[],ask,int,f,nn,none,0,[],rfl,hR,hn,?_,az 1 ((St.flat (M:=[])).2 (St.here g03))⟩
  show [] = zt (E g nn []) (O g nn [])
  rw [hE.nil,hO.nil]; rfl
 have h1:f = 0:=by simpa using h1
 subst h1
 obtain ⟨hc,hA⟩:=hR.Mv rfl
 have hnn:=hn rfl
 have rO:=TM h
 rw [hds] at rO
 have hdl:ds.length = (bm g ss).length:=by have:=congrArg List.length hds; rw [WE,hO.ln] at this; exact this
 have hnl:=tB hc hA
 clear h
 refine ⟨_,_,r1.cell (g12.trans g23) (j:=1) rfl,_,_,_,_,_,_,_,_,_,_,_,_,_,B.row g23,bJ.2 ⟨hf2,(C2 w3 g03).mono ?_⟩⟩
 rintro _ w4 ⟨ss2,ask2,int2,f2',nn2,o2,c2,ds2,rfl,hR2,hn2,hds2,h⟩
 have g34:Gr w3 w4:=aU 2 h.l
 have g04:=g03.trans g34
 obtain ⟨ef,hes⟩ : f2' = 0/\bz ss = bz ss2:=by
  obtain ⟨e1,e2,_⟩:=hR.one hR2
  exact ⟨by omega,e2⟩
 subst ef
 have en:=(hn2 rfl).inj hnn
 subst en
 rw [<- hE.es hes] at hds2
 have rE2:=TM h
 rw [hds2] at rE2
 have hdl2:ds2.length = (bm g ss).length:=by have:=congrArg List.length hds2; rw [WE,hE.ln] at this; exact this
 clear h
 obtain ⟨q1,q2⟩:=hEb (nn:=nn2) hc hA
 have q3:=hOb (nn:=nn2) hc hA
 refine ⟨_,_,_,_,rfl,ae (λh1=>by simp at h1) λ_=>?_⟩
 refine (RH rE2 (rO.mono g34) (eJ.mono g04 ht) (λl hl=>by have:=q2 l hl; omega) (λl hl=>by have:=(q3 l hl).1; omega) (by omega) (by omega)).mono ?_
 have hok:zY (E g nn2 ss) (O g nn2 ss) = true:=by
  unfold zY
  rw [q1,hO.ln,hE.ln,X9]
  simp only [beq_self_eq_true,X9,X5]
  exact λl hl=>Ia.2 (q3 l hl).2
 rintro _ w5 (⟨h1,_⟩ | ⟨_,bo,ps,hps,rfl,h⟩)
 ·rw [hok] at h1; cases h1
 have hpl:ps.length = ds2.length:=by rw [hps.1,hE.ln,hdl2]
 refine ⟨_,_,_,_,rfl,ss,ask,int,0,nn2,some ⟨bo,0,none⟩,ds2.length,ps,by rw [hpl],hR,hn,Lk.rows hps,?_⟩
 rw [hpl]
 exact St.KM h (bC g04)
variable {w:YC} {L:List ay} {g:af} {x:GA}
theorem z7:aA Tryz.prog zl [] w λv w'=>∃ k:Nat,v = .slice (some (aM k)) 2 2/\St w' (aK k [.func (.func lu) #[] #[],.func (.func lB) #[] #[],.func (.func tD) #[] #[],.func (.func iU) #[] #[]] :: all w) :=
 wg (ah (St.all w) λk1 w1 h=>⟨k1,rfl,h⟩)
theorem Ph (hg:gR (hp w) g x) (hb:ik g):aA Tryz.prog lu [.agg ⟨x.cells⟩] w (z6 (λg _ ss=>pW g ss) g w):=by
 refine (JM hg hb).mono ?_
 rintro _ w1 ⟨ss,ask,int,f,o,c,ds,rfl,hR,hds,h⟩
 by_cases hf:f = 0
 ·obtain ⟨nn,hn⟩:=U4 (hR.Mv hf).1
  exact ⟨ss,ask,int,f,nn,o,c,ds,rfl,hR,λ_=>hn,hds,h⟩
 ·exact ⟨ss,ask,int,f,[],o,c,ds,rfl,hR,λh=>absurd h hf,hds,h⟩
theorem RK (hg:gR (hp w) g x) (hb:ik g) (ht:eF (hp w)):aA Tryz.prog lB [.agg ⟨x.cells⟩] w (z6 q8 g w):=RA hg hb ht
theorem J6 (hg:gR (hp w) g x) (hb:ik g) (ht:eF (hp w)):aA Tryz.prog iU [.agg ⟨x.cells⟩] w (z6 uP g w):=J1 hg hb ht
theorem MH (hg:gR (hp w) g x) (hb:ik g) (ht:eF (hp w)):aA Tryz.prog tD [.agg ⟨x.cells⟩] w (z6 J5 g w):=by
 refine zn (cN hg λk1 w1 gw hg1 B=>?_)
 intro w2 hd
 have g12:Gr w1 w2:=Gr.of_eq (aB hd)
 refine ⟨λu=>Gr w1 u,g12,_,_,_,_,_,_,_,_,_,_,_,_,_,λu g=>B.row g,z7.mono ?_⟩
 rintro _ w3 ⟨k,rfl,h⟩
 have g23:Gr w2 w3:=aU 1 h.l
 have g13:=g12.trans g23
 have r:av (hp w3) (aM k) _:=ai 0 h.l
 clear h
 have gw3:Gr w w3:=sub.trans gw g13
 refine ⟨_,_,_,rfl,λu=>Gr w3 u,Gr.refl _,λu g=>g13.trans g,aq (i:=0) rfl (by decide) ⟨_,_,_,_,λu g=>(r.part 0 2).at g rfl,?_⟩⟩
 refine (CO TX TW rfl rfl (hg1.mono g13) (eJ.mono gw3 ht) (λu g=>Ph (hg1.mono (g13.trans g)) hb) (λu g=>RK (hg1.mono (g13.trans g)) hb (eJ.mono (sub.trans gw3 g) ht)) (λhc hA l hl=>?_) λhc hA=>⟨EB,λl hl=>?_⟩).mono ?_
 ·obtain ⟨h1,_,h2⟩:=Lm hc hA hl
  obtain ⟨hT,_⟩:=hc.ct
  exact ⟨by omega,λz hz=>by have:=h2 z hz; omega⟩
 ·unfold q8 at hl
  obtain ⟨j,_,rfl⟩:=WS.1 hl
  exact W0 (jQ _ _) (tB hc hA)
 ·rintro _ w4 ⟨ss,ask,int,f,nn,o,c,ds,rfl,hR,hn,hds,h⟩
  exact ⟨_,_,_,_,rfl,aU 2 h.l,ss,ask,int,f,nn,o,c,ds,rfl,hR,hn,hds,St.KM h (bC gw3)⟩
theorem Ic (hg:gR (hp w) g x) (hb:ik g) (ht:eF (hp w)):aA Tryz.prog zk [.agg ⟨x.cells⟩] w (z6 Dc g w):=by
 refine wb (cN hg λk1 w1 gw hg1 B=>?_)
 intro w2 hd
 have g12:Gr w1 w2:=Gr.of_eq (aB hd)
 refine ⟨λu=>Gr w1 u,g12,_,_,_,_,_,_,_,_,_,_,_,_,_,λu g=>B.row g,z7.mono ?_⟩
 rintro _ w3 ⟨k,rfl,h⟩
 have g23:Gr w2 w3:=aU 1 h.l
 have g13:=g12.trans g23
 have r:av (hp w3) (aM k) _:=ai 0 h.l
 clear h
 have gw3:Gr w w3:=sub.trans gw g13
 refine ⟨_,_,_,rfl,λu=>Gr w3 u,Gr.refl _,λu g=>g13.trans g,aq (i:=1) rfl (by decide) ⟨_,_,_,_,λu g=>(r.part 1 2).at g rfl,?_⟩⟩
 refine (CO TY U5 rfl rfl (hg1.mono g13) (eJ.mono gw3 ht) (λu g=>MH (hg1.mono (g13.trans g)) hb (eJ.mono (sub.trans gw3 g) ht)) (λu g=>J6 (hg1.mono (g13.trans g)) hb (eJ.mono (sub.trans gw3 g) ht)) (λhc hA l hl=>?_) λhc hA=>⟨EB,λl hl=>?_⟩).mono ?_
 ·obtain ⟨h1,_,h2⟩:=Ln hl
  exact ⟨by omega,h2⟩
 ·unfold uP at hl
  obtain ⟨j,_,rfl⟩:=WS.1 hl
  exact W0 (jQ _ _) (tB hc hA)
 ·rintro _ w4 ⟨ss,ask,int,f,nn,o,c,ds,rfl,hR,hn,hds,h⟩
  exact ⟨_,_,_,_,rfl,aU 2 h.l,ss,ask,int,f,nn,o,c,ds,rfl,hR,hn,hds,St.KM h (bC gw3)⟩
end Go.Proofs.YtndaepmjkbmjmaaGreatDoor
namespace Go.V
section
variable {g:af} {nn:List Bool} {ss:List SQ}
theorem F_ {b:iS} (h:b∈pJ g ss):∃ q m:Nat,q < ss.length/\m < g.prods.length/\b = ⟨(q:Int),(m:Int),bX (bm g ss).length (dw g ss q m)⟩/\bX (bm g ss).length (dw g ss q m)≠[]:=by
 unfold pJ at h
 obtain ⟨q,hq,h⟩:=XS.1 h
 unfold dm at h
 obtain ⟨m,hm,h⟩:=XS.1 h
 unfold tw at h
 split at h
 ·simp at h
 ·rename_i hne
  rw [WW] at h
  exact ⟨q,m,WY.1 hq,WY.1 hm,h,hne⟩
theorem TZ {b:iS} (h:b∈pJ g ss) {t:Int} (ht:t∈b.tr):∃ j:Nat,t = j/\j < (bm g ss).length:=by
 obtain ⟨q,m,_,_,rfl,_⟩:=F_ h
 obtain ⟨j,rfl,h1,_⟩:=cK.1 ht
 exact ⟨j,rfl,h1⟩
theorem A_ (hc:ak g) (hA:bn g ss):(pJ g ss).length<=24832/\∀ b∈pJ g ss,b.tr.length<=33280:=by
 refine ⟨?_,λb hb=>?_⟩
 ·have h1:=tC g ss ss.length
  have h256:=hA.dn.2.1
  obtain ⟨sT,sN,sP,_⟩:=hc.ct
  have h2:ss.length * g.prods.length<=256 * 97:=Yg h256 sP
  show (AA g ss ss.length).length<=_
  omega
 ·obtain ⟨q,m,_,_,rfl,_⟩:=F_ hb
  exact W0 (jQ _ _) (tB hc hA)
def jd (b:gW):bG:=⟨b.1.1,b.1.2,b.2.2⟩
def RL (g:af) (fs:List (List Int)) (tr:List Int) (B:List Bool):Prop:=B.length = g.T/\∀ y,aO B y = true↔y < g.T/\∃ t∈tr,(y:Int)∈fs.getD t.toNat []
theorem RL.nil (hT:g.T<=1024) (fs:List (List Int)):RL g fs [] (Dt (g.T:Int) []):=by
 have e:IE (g.T:Int) = g.T:=QG hT
 refine ⟨by rw [QL,e],λy=>?_⟩
 unfold Dt
 rw [gG]; unfold fO
 rw [kA]; simp
theorem RL.snoc {fs:List (List Int)} {tr row:List Int} {t:Int} {B:List Bool} (h:RL g fs tr B) (hr:fs.getD t.toNat [] = row):RL g fs (tr ++ [t]) (dg B row):=by
 refine ⟨by rw [bI]; exact h.1,λy=>?_⟩
 rw [gG]; unfold fO
 rw [Xt,WL,WH,h.2,h.1,XY]
 constructor
 ·rintro (⟨h1,t',h2,h3⟩ | ⟨h1,h2⟩)
  ·exact ⟨h1,t',by simp [h2],h3⟩
  ·exact ⟨h1,t,by simp,by rw [hr]; exact h2⟩
 ·rintro ⟨h1,t',h2,h3⟩
  rcases Wy.1 h2 with h2 | h2
  ·exact .inl ⟨h1,t',h2,h3⟩
  ·rw [WW] at h2
   subst h2
   exact .inr ⟨h1,by rw [<- hr]; exact h3⟩
open Classical in
theorem RL.row {fs:List (List Int)} {b:iS} {B:List Bool} (h:RL g fs b.tr B):dV g fs b = ⟨b.st,b.prod,df B⟩:=by
 unfold dV
 rw [F9,h.1]
 congr 1
 refine pV λk hk=>?_
 have:=h.2 k
 cases hb:aO B k with
 | true=>rw [hb] at this; exact W4 (this.1 rfl).2
 | false=>rw [hb] at this; exact Xm λhh=>by have:=this.2 ⟨hk,hh⟩; cases this
theorem wq:(bq g nn ss).length = (pJ g ss).length:=by unfold bq; simp
end
end Go.V
namespace Go.Proofs.YtndaepmjkbmjmaaGreatDoor
variable {w:YC} {L:List ay} {g:af} {x:GA}
theorem T0 (hg:gR (hp w) g x) (hb:ik g) (ht:eF (hp w)):aA Tryz.prog H6 [.agg ⟨x.cells⟩] w λv w'=>∃ (ss:List SQ) (ask int f:Int) (nn:List Bool) (o:YB) (c:Nat) (ds:List gW),v = .tuple #[.slice o ds.length c,.int .i64 f]/\qY g ss ask int f/\(f = 0->jb g nn)/\ds.map jd = bq g nn ss/\St w' (own 3 o ds.length c (cH ds) :: aG (ny ds) :: all w):=by
 refine DH (cN hg λk1 w1 gw hg1 B=>?_)
 have zero:∀ {ss:List SQ} {ask int f:Int} {w' : YC},qY g ss ask int f->f≠0->Gr w w'->∃ (ss:List SQ) (ask int f' : Int) (nn:List Bool) (o:YB) (c:Nat) (ds:List gW),(.tuple #[.slice none 0 0,.int .i64 f] : Value) = .tuple #[.slice o ds.length c,.int .i64 f']/\qY g ss ask int f'/\(f' = 0->jb g nn)/\ds.map jd = bq g nn ss/\St w' (own 3 o ds.length c (cH ds) :: aG (ny ds) :: all w):=λ{ss ask int f w'} hR h1 hw=>by
  have hz:=hR.nil h1
  subst hz
  exact ⟨[],ask,int,f,[],none,0,[],rfl,hR,λh=>absurd h h1,rfl,az 3 ((St.flat (M:=[])).2 (St.here hw))⟩
 refine ⟨_,_,_,_,_,_,_,_,_,_,_,_,_,B.row (sub.refl _),(Ic hg1 hb (eJ.mono gw ht)).mono ?_⟩
 rintro _ w2 ⟨ss,ask,int,f,nn,o,c,fs,rfl,hR,hn,hfs,h⟩
 have g12:Gr w1 w2:=aU 2 h.l
 refine ⟨_,_,_,_,rfl,ae (λh1=>zero hR (by simpa using h1) (gw.trans g12)) λh1=>?_⟩
 have h1:f = 0:=by simpa using h1
 subst h1
 obtain ⟨hc,hA⟩:=hR.Mv rfl
 have hnn:=hn rfl
 have rF:=TM h
 rw [hfs] at rF
 have hfl:fs.length = (bm g ss).length:=by have:=congrArg List.length hfs; rw [WE,RJ] at this; exact this
 rw [hfl] at rF ⊢
 have hnl:=tB hc hA
 clear h hfs
 refine ⟨_,_,_,_,_,_,_,_,_,_,_,_,_,B.row g12,(J2 (hg1.mono g12) hb (eJ.mono (gw.trans g12) ht)).mono ?_⟩
 rintro _ w3 ⟨ss2,ask2,int2,f2,o2,c2,ds2,rfl,hR2,hds2,h⟩
 have g23:Gr w2 w3:=aU 2 h.l
 obtain ⟨_,hes,_,_,ef,_⟩:=hR.one hR2
 subst ef
 rw [<- Lh hes] at hds2
 have rB:=VO h
 rw [hds2] at rB
 have hdl:ds2.length = (pJ g ss).length:=by have:=congrArg List.length hds2; rw [WE] at this; exact this
 rw [hdl] at rB ⊢
 clear h hds2
 obtain ⟨hbl,htl⟩:=A_ hc hA
 obtain ⟨sT,_⟩:=hc.ct
 have g13:=g12.trans g23
 have gw3:Gr w w3:=gw.trans g13
 have rF:=rF.mono g23
 have tl:=hg.t.1
 refine ⟨_,_,_,_,rfl,ae (λh1=>by simp at h1) λ_=>?_⟩
 refine ⟨λo n c z w'=>∃ (i:Nat) (bs:List gW),z = i/\i<=(pJ g ss).length/\n = bs.length/\bs.map jd = ((pJ g ss).take i).map (dV g (Dc g nn ss))/\St w' (own 3 o n c (cH bs) :: aG (ny bs) :: all w3),λ_ _ _ z _=>(pJ g ss).length - z.toNat,
  ⟨0,[],rfl,WC _,rfl,rfl,az 3 ((St.flat (M:=[])).2 (St.all w3))⟩,?_⟩
 rintro _ o4 _ c4 _ w4 ⟨i,bs,rfl,hi,rfl,hbs,h⟩
 have s34:sub (hp w3) (hp w4):=aU 2 h.l
 have hbsl:bs.length = i:=by have:=congrArg List.length hbs; rw [WE,WE,WV] at this; omega
 refine ae (λh1=>?_) λh1=>?_
 rotate_left
 ·have h1:i = (pJ g ss).length:=by have:=Ws h1; omega
  rw [h1,WT] at hbs
  refine gY (gp (fa h) ⟨_,_,_,rfl,ss,ask,int,0,nn,_,_,bs,rfl,hR,hn,hbs,?_⟩)
  have h:=gn h
  exact St.KM h (bC gw3)
 have h1:i < (pJ g ss).length:=by have:=Wr h1; omega
 obtain ⟨b,ad,ta,tc,hb1,rfl,rb,rt⟩:=O4 rB h1
 have hbm:=Wu hb1
 have htb:=htl b hbm
 refine aq rfl h1 ⟨_,_,_,_,_,rb.at s34 rfl,ah h λkb w5 h=>bu h rfl (by simp [aV]) λw6 h=>?_⟩
 have s36:sub (hp w3) (hp w6):=aU 3 h.l
 refine ⟨_,_,_,B.c0 (sub.trans g13 s36),?_⟩
 rw [<- tl]
 refine (Tm (xs:=[]) (l:=0) (a:=none) (g.T:Int) a_.nil (by omega)).mono ?_
 rintro _ w7 ⟨kp,rfl,h7⟩
 have h:=h7.qk h
 clear h7
 refine ⟨_,rfl,_,_,_,(ai 1 h.l).cell (sub.refl _) (j:=2) rfl,λz w'=>∃ (k:Nat) (Bs:List Bool),z = k/\k<=b.tr.length/\RL g (Dc g nn ss) (b.tr.take k) Bs/\St w' (eG (some ⟨kp,0,none⟩) Bs :: aK kb [.int .i64 b.st,.int .i64 b.prod,.slice ta b.tr.length tc] :: own 3 o4 bs.length c4 (cH bs) :: aG (ny bs) :: all w3),λz _=>b.tr.length - z.toNat,
  ⟨0,_,rfl,WC _,RL.nil (by omega) _,h⟩,?_⟩
 clear h
 rintro _ _ w8 ⟨k,Bs,rfl,hk,hB,h⟩
 have s38:sub (hp w3) (hp w8):=aU 4 h.l
 refine ae (λh2=>?_) λh2=>?_
 ·have h2:k < b.tr.length:=by have:=Wr h2; omega
  obtain ⟨t,tad,ht1,hta,ht2⟩:=rt.cF h2
  obtain ⟨j,rfl,hj⟩:=TZ hbm (Wu ht1)
  obtain ⟨row,rad,ra,rc,hr1,rfl,hr2,hr3⟩:=O3 rF hj
  have hrl:=(Ln (es:=uP g nn ss) (ow:=J5 g nn ss) (Wu hr1)).1
  refine aw hta h2 ⟨_,ht2 _ s38,aw rfl hj ⟨_,_,_,hr2 _ s38,(NT h (λhh hl=>hr3.mono (aU 3 hl)) (by omega)).mono ?_⟩⟩
  rintro _ w9 ⟨rfl,h⟩
  refine ⟨_,rfl,⟨by omega,by omega⟩,⟨k + 1,_,by simp,h2,?_,h⟩,bx h2⟩
  rw [bA ht1]
  exact hB.snoc (by rw [WQ,Ww,hr1]; rfl)
 have h2:k = b.tr.length:=by have:=Ws h2; omega
 rw [h2,WT] at hB
 intro w10 hd
 have h:=h.eq (aB hd)
 have rk:av (hp w10) (aM kb) _:=ai 1 h.l
 have hset:nU (hp w10) (some ⟨kp,0,none⟩) Bs:=by
  obtain ⟨g1,g2,_,s1,_,ha,_⟩:=h
  exact (Fj ha).mono s1
 refine ⟨λu=>av (hp u) (aM kb) [.int .i64 b.st,.int .i64 b.prod,.slice ta b.tr.length tc],rk,_,λu r=>r.cell0 (sub.refl _),_,λu r=>r.cell (sub.refl _) (j:=1) rfl,(Ef hset (eJ.mono (sub.trans gw3 (aU 4 h.l)) ht)).mono ?_⟩
 rintro _ w13 ⟨a',c',rfl,h13⟩
 have h:=h13.qk h
 clear h13
 refine ⟨_,_,_,rfl,ai 2 h.l,ah h λkn w14 h=>⟨ai 3 h.l,?_⟩⟩
 refine (aN (us:=cH bs) aQ (rfl:aj Ty _ = .slice _) (rfl:aj Ty _ = .slice _) rfl rfl rfl (h.pick 6 [0,4,1,2,3,5]) rfl (by simp [aV]) (by show (bs.length + 1) * 40<=_; omega) (by omega)).mono ?_
 rintro _ w15 ⟨o',c5,rfl,h⟩
 refine ⟨_,_,_,rfl,ai 4 h.l,⟨by omega,by omega⟩,⟨i + 1,bs ++ [((b.st,b.prod),((a',c'),df Bs))],by simp,h1,by simp,?_,?_⟩,bx h1⟩
 ·rw [WZ,hbs,Wz,hb1,WZ]
  show _ ++ [(⟨b.st,b.prod,df Bs⟩ : bG)] = _ ++ [dV g (Dc g nn ss) b]
  rw [hB.row]
 ·have e1:cH (bs ++ [((b.st,b.prod),((a',c'),df Bs))]) = cH bs ++ [.int .i64 b.st,.int .i64 b.prod,.slice a' (aY Bs) c']:=by
   rw [A9]
   unfold cH O2 dO
   simp [pn]
  have e2:ny (bs ++ [((b.st,b.prod),((a',c'),df Bs))]) = ny bs ++ [own 1 a' (aY Bs) c' (iv (df Bs))]:=by
   unfold ny dp
   simp [pn]
  rw [e1,e2]
  have h:=St.snoc (h.pick 6 [2,5,0,1,3,4])
  exact h.pick 6 [1,0,5]
end Go.Proofs.YtndaepmjkbmjmaaGreatDoor


namespace Go.V
instance:oP bG:={ n:=3,rd:=λh x vs=>∃ (a:YB) (c:Nat),vs = [.int .i64 x.st,.int .i64 x.prod,.slice a x.tm.length c]/\a_ h x.tm a x.tm.length,mono:=λs ⟨a,c,e,r⟩=>⟨a,c,e,r.mono s⟩,len:=λ⟨_,_,e,_⟩=>by rw [e]; rfl }
section
variable {w:YC} {L:List ay} {o:YB} {c:Nat}
theorem Pj {h:Hp} {xs:List bG} {l i:Nat} (r:a_ h xs o l) (hi:i < l):∃ x ad a c,xs[i]? = some x/\o = some ad/\av h (ad.add (cY i 3)) [.int .i64 x.st,.int .i64 x.prod,.slice a x.tm.length c]/\a_ h x.tm a x.tm.length:=by
 obtain ⟨x,ad,vs,hx,ha,hr,a,c',rfl,hx2⟩:=r.get hi
 exact ⟨x,ad,a,c',hx,ha,hr,hx2⟩
end
def RM (es ow:List (List Int)):Nat->Nat->Nat->Bool
 | 0,v,x=>(ow.getD v []).contains (x:Int)
 | k + 1,v,x=>(ow.getD v []).contains (x:Int) || (En es v).any λm=>RM es ow k m x
theorem CP {es ow:List (List Int)} {x:Nat}:∀ k v,RM es ow k v x = true->dx es ow v x
 | 0,v,h=>dx.iff.2 (.inl (XY.1 h))
 | k + 1,v,h=>by
  rw [RM,Xt,XL] at h
  rcases h with h | ⟨m,h1,h2⟩
  ·exact dx.iff.2 (.inl (XY.1 h))
  ·exact dx.iff.2 (.inr ⟨m,h1,CP k m h2⟩)
def Lo:List Int->Bool
 | []=>true
 | a :: l=>l.all (λb=>decide (a < b)) && Lo l
theorem EC:∀ {l:List Int},Lo l = true->jc l
 | [],_=>.nil
 | a :: l,h=>by
  rw [Lo,WL,X5] at h
  exact .cons (λb hb=>Wr (h.1 b hb)) (EC h.2)
def RN (es ow rs:List (List Int)) (K:Nat):Bool:=decide (rs.length = es.length) && decide (ow.length = es.length) && (List.range es.length).all λv=>Lo (rs.getD v []) && (rs.getD v []).all (λz=>decide (0<=z) && decide (z < 1024) && RM es ow K v z.toNat) && (ow.getD v []).all (λz=>(rs.getD v []).contains z) && (En es v).all λm=>(rs.getD m []).all λz=>(rs.getD v []).contains z
theorem Lp {es ow rs:List (List Int)} {K:Nat} (h:RN es ow rs K = true):rs = zt es ow:=by
 unfold RN at h
 simp only [WL,WH,X5,WY,XY] at h
 obtain ⟨⟨h1,h2⟩,h3⟩:=h
 have key:∀ v x,dx es ow v x->(x:Int)∈rs.getD v []:=λv x hh=>by
  refine dx.least (Q:=λv x=>(x:Int)∈rs.getD v []) (λv x hx=>?_) (λv m x hm hx=>?_) hh
  ·by_cases hv:v < es.length
   ·exact (h3 v hv).1.2 _ hx
   ·rw [Ww,WR (by omega)] at hx
    simp at hx
  ·by_cases hv:v < es.length
   ·exact (h3 v hv).2 m hm _ hx
   ·unfold En at hm
    rw [Ww,WR (by omega)] at hm
    simp at hm
 refine TU h1 λv row hr=>?_
 have hv:v < es.length:=by rw [<- h1]; exact (Wt.1 hr).1
 have e:rs.getD v [] = row:=by rw [Ww,hr]; rfl
 obtain ⟨⟨⟨q1,q2⟩,_⟩,_⟩:=h3 v hv
 rw [e] at q1 q2
 refine ⟨EC q1,λz=>⟨λhz=>?_,?_⟩⟩
 ·obtain ⟨⟨q3,q4⟩,q5⟩:=q2 z hz
  exact ⟨z.toNat,by omega,by omega,CP K v q5⟩
 ·rintro ⟨x,rfl,_,hx⟩
  have:=key v x hx
  rwa [e] at this
def Pk (g:af) (fs:List (List Int)) (b:iS):bG:=⟨b.st,b.prod,bX g.T λx=>b.tr.any λt=>(fs.getD t.toNat []).contains (x:Int)⟩
open Classical in
theorem Pl (g:af) (fs:List (List Int)) (b:iS):dV g fs b = Pk g fs b:=by
 unfold dV Pk
 congr 1
 refine pV λk _=>?_
 rw [Xh,WH,XL]
 exact exists_congr λt=>and_congr_right λ_=>XY.symm
section
variable {g:af} {ss:List SQ}
def tK (g:af) (x:ag):Bool:=decide (1<=x.prod) && (decide (x.prod < g.prods.length) && (match g.prods[x.prod.toNat]? with | some p=>decide ((p.right.length:Int)<=x.dot) | none=>false))
theorem oF {x:ag} (hf:jZ g x):tK g x = true↔∃ (m:Nat) (p:aH),0 < m/\g.prods[m]? = some p/\x = ⟨(m:Int),(p.right.length:Int)⟩:=by
 obtain ⟨h0,h1,p,hp,h2⟩:=hf
 unfold tK
 rw [hp]
 simp only [WL,WH]
 constructor
 ·rintro ⟨a,b,c⟩
  refine ⟨x.prod.toNat,p,by omega,hp,?_⟩
  cases x
  simp at *
  omega
 ·rintro ⟨m,p',hm,hp',rfl⟩
  simp only [WQ] at hp
  rw [hp'] at hp; cases hp
  have:=(Wt.1 hp').1
  exact ⟨by show (1:Int)<=m; omega,by show (m:Int) < _; omega,by simp⟩
theorem trace (hc:ak g) (hA:bn g ss) {m:Nat} {p:aH} (hp:g.prods[m]? = some p):∀ (d:Nat),d<=p.right.length->∀ (q:Nat) (r:SQ),ss[q]? = some r->nZ g r.1.2 ⟨(m:Int),(d:Int)⟩ ->
  ∃ (i:Nat) (s:SQ),ss[i]? = some s/\nZ g s.1.2 ⟨(m:Int),0⟩/\b9 ss (i:Int) (p.right.take d) = (q:Int)
 | 0,_,q,r,hr,h=>⟨q,r,hr,by simpa using h,by rw [List.take_zero]; rfl⟩
 | d + 1,hd,q,r,hr,h=>by
  have hbase:(⟨(m:Int),((d + 1:Nat):Int)⟩ : ag)∈r.1.2:=by
   generalize hz:(⟨(m:Int),((d + 1:Nat):Int)⟩ : ag) = z at h
   cases h with
   | base h=>exact h
   | step _ _ _ _ =>
    have:=congrArg ag.dot hz
    simp at this
    omega
  have hq1:1<=q:=by
   refine Ys λe=>?_
   subst e
   have hK:=(fl hA hr).1
   have e:r.1.2 = [⟨0,0⟩]:=by
    have:(b_ g 0).1[0]? = some [⟨0,0⟩]:=rfl
    rw [this] at hK
    exact (Option.some.inj hK).symm
   rw [e,WW] at hbase
   have:=congrArg ag.dot hbase
   simp at this
   omega
  obtain ⟨i,s,k,e,hij,hs,he,hto⟩:=HN hc hA hq1 (Wt.1 hr).1
  obtain ⟨h1,h2,j,r',e1,_,hr',hk,_⟩:=fm hc hA hs he
  have ej:j = q:=by rw [e1] at hto; omega
  subst ej
  rw [hr] at hr'; cases hr'
  rw [hk] at hbase
  obtain ⟨y,hy1,hy2,hy3⟩:=cJ.1 hbase
  have ey:y = ⟨(m:Int),(d:Int)⟩:=by
   have a1:=congrArg ag.prod hy3
   have a2:=congrArg ag.dot hy3
   cases y
   simp at *
   omega
  subst ey
  obtain ⟨i0,s0,hi0,hc0,hw0⟩:=trace hc hA hp d (by omega) i s hs hy1
  refine ⟨i0,s0,hi0,hc0,?_⟩
  have hlt:d < p.right.length:=by omega
  have hsym:p.right[d]? = some e.sym:=by
   rw [jM (p:=p) (by show g.prods[(m:Int).toNat]? = _; rw [WQ]; exact hp)] at hy2
   have hy2:p.right.getD (d:Int).toNat (-1) = e.sym:=hy2
   rw [WQ,Ww,Wv hlt] at hy2
   rw [Wv hlt]
   exact congrArg some hy2
  have hil:=(Wt.1 hi0).1
  rw [bA hsym,tp (λi s j h=>iP hc hA h) _ _ _ (W7 _) (by omega),hw0,WB (by omega),jn,WQ,oq hA hs he,e1]
  rfl
theorem Ie (hc:ak g) (hA:bn g ss) {q m:Nat} {r:SQ} {p:aH} (hr:ss[q]? = some r) (hm:0 < m) (hp:g.prods[m]? = some p):nZ g r.1.2 ⟨(m:Int),(p.right.length:Int)⟩↔bX (bm g ss).length (dw g ss q m)≠[]:=by
 constructor
 ·intro h
  obtain ⟨i,s,hs,hc0,hw⟩:=trace hc hA hp p.right.length (WO _) q r hr h
  rw [WT] at hw
  have hl:=Ru hc hA hs hp hc0
  rw [W4 (by omega:m≠0)] at hl
  obtain ⟨j,hj⟩:=Ye.1 hl
  obtain ⟨s',k,e,hs',he,he1,_⟩:=pG hj
  have hat:=FR (g:=g) hs' he (by rw [he1]; exact hc.left (Wu hp))
  rw [he1] at hat
  refine List.ne_nil_of_mem (cK.2 ⟨_,rfl,(Wt.1 hat).1,(jq hat).2 ⟨iT.2 ⟨hm,p,hp,rfl⟩,p,hp,hw⟩⟩)
 ·intro h
  obtain ⟨z,hz⟩:=XP _ h
  obtain ⟨u,_,hu,hb⟩:=cK.1 hz
  have ht:(bm g ss)[u]? = some (bm g ss)[u]:=Wv hu
  obtain ⟨hmm,p',hp',hw⟩:=(jq ht).1 hb
  rw [hp] at hp'; cases hp'
  obtain ⟨_,p2,hp2,hl⟩:=iT.1 hmm
  rw [hp] at hp2; cases hp2
  obtain ⟨i0,q0,e0,hq0,hcl⟩:=CE hc hA ht hp hl
  obtain ⟨j,r',e1,e2,e3⟩:=pH hc hA hp p.right.length 0 (by omega) i0 q0 hq0 (by simpa using hcl)
  rw [List.drop_zero,<- e0,hw] at e1
  have:j = q:=by omega
  subst this
  rw [hr] at e2; cases e2
  exact e3
theorem ED {q m:Nat} {b:iS} (h:b∈tw g ss q m):b = ⟨(q:Int),(m:Int),bX (bm g ss).length (dw g ss q m)⟩/\bX (bm g ss).length (dw g ss q m)≠[]:=by
 unfold tw at h
 split at h
 ·simp at h
 ·rename_i hn
  rw [WW] at h
  exact ⟨h,hn⟩
theorem oG {q j:Nat} {b:iS}:b∈dm g ss q j↔∃ m,m < j/\bX (bm g ss).length (dw g ss q m)≠[]/\b = ⟨(q:Int),(m:Int),bX (bm g ss).length (dw g ss q m)⟩:=by
 unfold dm
 rw [XS]
 constructor
 ·rintro ⟨m,hm,h⟩
  obtain ⟨h1,h2⟩:=ED h
  exact ⟨m,WY.1 hm,h2,h1⟩
 ·rintro ⟨m,hm,h2,rfl⟩
  refine ⟨m,WY.2 hm,?_⟩
  unfold tw
  rw [WB h2]; simp
theorem wu (q:Nat):∀ j,jc ((dm g ss q j).map (·.prod))
 | 0=>by simp [dm,jc]
 | j + 1=>by
  rw [vY,WZ]
  unfold jc
  rw [Yw]
  refine ⟨wu q j,?_,λa ha b hb=>?_⟩
  ·unfold tw
   split <;> simp
  ·obtain ⟨x,hx,rfl⟩:=WS.1 ha
   obtain ⟨y,hy,rfl⟩:=WS.1 hb
   obtain ⟨m,hm,_,rfl⟩:=oG.1 hx
   obtain ⟨rfl,_⟩:=ED hy
   show (m:Int) < j
   omega
theorem Pm (hc:ak g) (hA:bn g ss) {q:Nat} {r:SQ} (hr:ss[q]? = some r):((cls g r.1.2).filter (tK g)).map (·.prod) = (dm g ss q g.prods.length).map (·.prod):=by
 obtain ⟨_,_,_,hP2,_,_⟩:=hc.ct
 have hf:=(di (g:=g) (by omega) q).fit _ (Wu (fl hA hr).1)
 have hfit:∀ x,x∈cls g r.1.2->jZ g x:=λx hx=>(iN.1 hx).fit hf
 refine xK ?_ (wu q _) λz=>?_
 ·unfold jc
  rw [Xn]
  have hS:iz (cls g r.1.2):=xv
  have h1:((cls g r.1.2).filter (tK g)).Pairwise λx y=>x.lt y:=List.Pairwise.filter _ hS
  refine h1.imp_of_mem λ{x y} hx hy hlt=>?_
  obtain ⟨hx1,hx2⟩:=W9.1 hx
  obtain ⟨hy1,hy2⟩:=W9.1 hy
  obtain ⟨m,p,_,hp,rfl⟩:=(oF (hfit x hx1)).1 hx2
  obtain ⟨m',p',_,hp',rfl⟩:=(oF (hfit y hy1)).1 hy2
  unfold ag.lt at hlt
  show (m:Int) < m'
  rcases hlt with h | ⟨h,h2⟩
  ·exact h
  ·have e:m = m':=by simp at h; omega
   subst e
   rw [hp] at hp'; cases hp'
   simp at h2
 ·rw [WS,WS]
  constructor
  ·rintro ⟨x,hx,rfl⟩
   obtain ⟨hx1,hx2⟩:=W9.1 hx
   obtain ⟨m,p,hm,hp,rfl⟩:=(oF (hfit x hx1)).1 hx2
   exact ⟨_,oG.2 ⟨m,(Wt.1 hp).1,(Ie hc hA hr hm hp).1 (iN.1 hx1),rfl⟩,rfl⟩
  ·rintro ⟨b,hb,rfl⟩
   obtain ⟨m,hm,hn,rfl⟩:=oG.1 hb
   obtain ⟨p,hp⟩ : ∃ p,g.prods[m]? = some p:=⟨_,Wv hm⟩
   obtain ⟨z,hz⟩:=XP _ hn
   obtain ⟨u,_,hu,hb⟩:=cK.1 hz
   have ht:(bm g ss)[u]? = some (bm g ss)[u]:=Wv hu
   obtain ⟨hmm,_⟩:=(jq ht).1 hb
   have hm0:=(iT.1 hmm).1
   have hcl:=iN.2 ((Ie hc hA hr hm0 hp).2 hn)
   exact ⟨_,W9.2 ⟨hcl,(oF (hfit _ hcl)).2 ⟨m,p,hm0,hp,rfl⟩⟩,rfl⟩
end
end Go.V

namespace Go.Proofs.YtndaepmjkbmjmaaGreatDoor
section
variable {w:YC} {L:List ay} {g:af} {x:GA} {ss:List SQ}
theorem RO {s:Int} (hg:gR (hp w) g x) (hb:ik g):aA Tryz.prog sr [.agg ⟨x.cells⟩,.int .i64 s] w λv w'=>v = .bool (decide ((g.T:Int)<=s) && decide (s < (g.T:Int) + g.N))/\Gr w w':=by
 have hTl:g.T = x.tl:=hg.t.1
 refine pe (cN hg λk1 w1 gw hg B=>?_)
 refine ⟨_,_,_,B.c0 (sub.refl _),ae (λh1=>?_) λh1=>?_⟩
 ·refine ⟨_,_,_,_,_,_,_,_,_,_,_,_,_,B.row (sub.refl _),(jk hg hb).mono ?_⟩
  rintro _ w2 ⟨rfl,g2⟩
  refine ⟨_,rfl,?_,gw.trans g2⟩
  rw [hTl,h1,X9]
 ·refine ⟨?_,gw⟩
  rw [hTl,h1,Bool.false_and]
end
end Go.Proofs.YtndaepmjkbmjmaaGreatDoor





namespace Go.V
theorem EE {h:Hp} {a:Addr} {vs:List Value} (r:av h a vs) (n:Nat):av h (a.add n) (vs.drop n):=λj v hv=>by
 rw [W8] at hv
 rw [add_add]
 exact r _ v hv
inductive DI (g:af) (ss:List SQ):Nat->Nat->Prop
 | now (j x:Nat):x < g.T->(eW ss j (x:Int)).isSome->DI g ss j x
 | via (j k x:Nat) (s:Int):(g.T:Int)<=s->Ay g s->eW ss j s = some (k:Int)->DI g ss k x->DI g ss j x
section
variable {g:af} {nn:List Bool} {ss:List SQ}
theorem T1 {n m:Nat} {p:aH} (hp:g.prods[n]? = some p):cO g ⟨(n:Int),(m:Int)⟩ = p.right.getD m (-1):=by
 rw [jM (p:=p) (by show g.prods[(n:Int).toNat]? = _; rw [WQ]; exact hp)]
 rfl
theorem fF {n m:Nat} {p:aH} {s:Int} (hp:g.prods[n]? = some p) (hs:p.right[m]? = some s):cO g ⟨(n:Int),(m:Int)⟩ = s:=by
 rw [T1 hp,Ww,hs]; rfl
theorem Pn (hc:ak g) {s:Int} (h:Ay g s):(g.T:Int)<=s/\s < g.T + g.N:=by
 cases h with
 | mk p hp _=>exact (Rx (.inr hc)).1 p hp |>.1
theorem xZ (hn:jb g nn) {s:Int} (h:(g.T:Int)<=s):uO g nn s = true↔Ay g s:=by
 unfold uO
 rw [W4 h,X9,hn.2,show ((g.T + (s.toNat - g.T):Nat):Int) = s by omega]
theorem Ig (hc:ak g) (hn:jb g nn) {row:List Int}:Az g nn row = true↔DC g row:=by
 unfold Az DC
 rw [X5]
 refine forall_congr' λs=>forall_congr' λ_=>⟨λh=>(xZ hn (F6 h)).1 h,λh=>(xZ hn (Pn hc h).1).2 h⟩
theorem DI.along (hc:ak g) (hA:bn g ss) {n x:Nat} {p:aH} (hp:g.prods[n]? = some p):∀ (d m j:Nat) (q:SQ),ss[j]? = some q->nZ g q.1.2 ⟨(n:Int),(m:Int)⟩->m + d<=p.right.length->(∀ y∈(p.right.drop m).take d,Ay g y) ->
  (∀ (k:Nat) (r:SQ),ss[k]? = some r->nZ g r.1.2 ⟨(n:Int),((m + d:Nat):Int)⟩->DI g ss k x)->DI g ss j x
 | 0,m,j,q,hq,hy,_,_,h=>h j q hq hy
 | d + 1,m,j,q,hq,hy,hm,hn,h=>by
  have hlt:m < p.right.length:=by omega
  have hgs:p.right[m]? = some p.right[m]:=Wv hlt
  rw [W_ hlt,List.take_succ_cons] at hn
  have hnu:=hn _ List.mem_cons_self
  have hge:=Pn hc hnu
  obtain ⟨k,r,h1,h2,h3⟩:=uk hc hA hq hy (fF hp hgs) (by omega)
  refine .via j k x _ hge.1 hnu h1 (DI.along hc hA hp d (m + 1) k r h2 (.base (by simpa using h3)) (by omega) (λy hy=>hn y (Yx _ hy)) ?_)
  rw [show m + 1 + d = m + (d + 1) by omega]
  exact h
theorem DI.T2 (hc:ak g) (hA:bn g ss) {s:Int} {x:Nat} (h:MZ g s x):∀ (n m j:Nat) (p:aH) (q:SQ),g.prods[n]? = some p->p.right[m]? = some s->ss[j]? = some q->nZ g q.1.2 ⟨(n:Int),(m:Int)⟩->DI g ss j x:=by
 induction h with
 | tm t ht =>
  intro n m j p q hp hs hq hy
  obtain ⟨k,r,h1,_⟩:=uk hc hA hq hy (fF hp hs) (W7 _)
  exact .now j t ht (by rw [h1]; rfl)
 | pr p' i s t hp' hs' hn hf ih =>
  intro n m j p q hp hs hq hy
  obtain ⟨n',hn'⟩:=W3 hp'
  have hpl:=((Rx (.inr hc)).1 p' hp').1
  have hil:=(Wt.1 hs').1
  have h0:nZ g q.1.2 ⟨(n' : Int),((0:Nat):Int)⟩:=.step (y:=⟨(n:Int),(m:Int)⟩) hy (by rw [fF hp hs]; omega) hn' (by rw [fF hp hs])
  refine DI.along hc hA hn' i 0 j q hq h0 (by omega) (by simpa using hn) λk r hr hy'=>?_
  exact ih n' i k p' r hn' hs' hr (by simpa using hy')
theorem DI.T3 (hc:ak g) (hA:bn g ss) {n m j x:Nat} {p:aH} {q:SQ} (hp:g.prods[n]? = some p) (hq:ss[j]? = some q) (hy:nZ g q.1.2 ⟨(n:Int),(m:Int)⟩) (h:qZ g (p.right.drop m) x):DI g ss j x:=by
 obtain ⟨i,s,h1,h2,h3⟩:=h
 rw [W8] at h1
 have hil:=(Wt.1 h1).1
 exact DI.along hc hA hp i m j q hq hy (by omega) h2 λk r hr hy'=>DI.T2 hc hA h3 n (m + i) k p r hp h1 hr hy'
def rest (g:af) (y:ag):List Int:=match g.prods[y.prod.toNat]? with
 | some p=>p.right.drop y.dot.toNat
 | none=>[]
theorem x_ {y:ag} (h:0<=cO g y):∃ p,g.prods[y.prod.toNat]? = some p/\p.right[y.dot.toNat]? = some (cO g y)/\rest g y = cO g y :: p.right.drop (y.dot.toNat + 1):=by
 unfold cO at h ⊢
 unfold rest
 cases hp:g.prods[y.prod.toNat]? with
 | none=>rw [hp] at h; simp at h
 | some p =>
  rw [hp] at h
  simp only at h ⊢
  have hl:y.dot.toNat < p.right.length:=by
   refine Nat.lt_of_not_le λhh=>?_
   rw [Ww,WR hh] at h
   simp at h
  rw [Ww,Wv hl]
  exact ⟨p,rfl,Wv hl,W_ hl⟩
theorem qZ.head {s:Int} {l:List Int} {x:Nat} (h:MZ g s x):qZ g (s :: l) x:=⟨0,s,rfl,by simp,h⟩
theorem qZ.skip {s:Int} {l:List Int} {x:Nat} (h:Ay g s) (hl:qZ g l x):qZ g (s :: l) x:=by
 obtain ⟨i,y,h1,h2,h3⟩:=hl
 refine ⟨i + 1,y,h1,λz hz=>?_,h3⟩
 rw [List.take_succ_cons] at hz
 rcases WM.1 hz with rfl | hz
 ·exact h
 ·exact h2 z hz
theorem qZ.left {p:aH} {x:Nat} (hp:p∈g.prods) (h:qZ g p.right x):MZ g p.left x:=by
 obtain ⟨i,s,h1,h2,h3⟩:=h
 exact .pr p i s x hp h1 h2 h3
theorem Lr {I:List ag} {y:ag} (h:nZ g I y):∀ x,qZ g (rest g y) x->∃ z∈I,qZ g (rest g z) x:=by
 induction h with
 | base hx=>exact λx hr=>⟨_,hx,hr⟩
 | @step y i p h1 h2 h3 h4 ih =>
  intro x hr
  obtain ⟨p',_,_,h5⟩:=x_ h2
  refine ih x ?_
  rw [h5,<- h4]
  have e:rest g ⟨(i:Int),0⟩ = p.right:=by
   unfold rest
   rw [show g.prods[((⟨(i:Int),0⟩ : ag).prod).toNat]? = some p by show g.prods[(i:Int).toNat]? = _; rw [WQ]; exact h3]
   rfl
  rw [e] at hr
  exact .head (hr.left (Wu h3))
theorem DI.item (hc:ak g) (hA:bn g ss) {j x:Nat} (h:DI g ss j x):∀ q,ss[j]? = some q->∃ z∈q.1.2,qZ g (rest g z) x:=by
 induction h with
 | now j x hx hs =>
  intro q hq
  obtain ⟨hT,hN,_⟩:=hc.ct
  rw [lz hA hq (by omega)] at hs
  have hs:=Wr hs
  obtain ⟨z,hz⟩:=XP _ hs
  obtain ⟨y,h1,h2,_⟩:=cJ.1 hz
  refine Lr h1 x ?_
  obtain ⟨_,_,_,h5⟩:=x_ (y:=y) (by rw [h2]; omega)
  rw [h5,h2]
  exact .head (.tm x hx)
 | via j k x s hs hn hk hr ih =>
  intro q hq
  obtain ⟨q',i,e,hq',he,he1,he2⟩:=pG hk
  rw [hq] at hq'; cases hq'
  obtain ⟨_,_,k',r,hk',_,hr',hrk,_⟩:=fm hc hA hq he
  rw [he2] at hk'
  have hkk:k = k':=by omega
  subst hkk
  obtain ⟨z,hz,hf⟩:=ih r hr'
  rw [hrk,he1] at hz
  obtain ⟨y,h1,h2,rfl⟩:=cJ.1 hz
  refine Lr h1 x ?_
  obtain ⟨p,hp,_,h5⟩:=x_ (y:=y) (by rw [h2]; omega)
  rw [h5,h2]
  refine .skip hn ?_
  unfold rest at hf
  rw [show g.prods[((⟨y.prod,y.dot + 1⟩ : ag).prod).toNat]? = some p from hp] at hf
  obtain ⟨hT,hN,hP,hP2,_,_⟩:=hc.ct
  have hK:=(fl hA hq).1
  have hfit:=h1.fit ((di (g:=g) (by omega) j).fit _ (Wu hK))
  have hd:(y.dot + 1).toNat = y.dot.toNat + 1:=by have:=hfit.2.1; omega
  rw [<- hd]
  exact hf
end
end Go.V
