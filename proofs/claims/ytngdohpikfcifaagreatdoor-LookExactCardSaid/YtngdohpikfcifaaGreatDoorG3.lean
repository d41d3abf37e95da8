/- Texts of this claim, one behind the other. -/
import Derived.Test.YtngdohpikfcifaaGreatDoorG2
import Derived.Shelf.SlSortCmp.NoneTotal
import Derived.Shelf.Sort.Plain
import Derived.Test.YtngdohpikfcifaaGreatDoorG1
import Derived.Shelf.Slices.In.SortNone
import Derived.Maps.RangeRun
import Derived.Laws.IdiomStrings
set_option linter.unusedVariables false
set_option linter.unusedSectionVars false
set_option maxRecDepth 100000
set_option maxHeartbeats 16000000
namespace Go.V
theorem Gr.drawn {w w' : World} (h:V.drawn w w'):Gr w w':=Gr.of_eq (dA h)
theorem zP {w:World} {L:List aw} {a:Option Addr} {l c:Nat} {xs:List Int} (h:St w (own 1 a l c (iv xs) :: L)):aW (hp w) xs a l:=by
 have hl:=ea h
 obtain ⟨h1,s,ha⟩:=h.first
 exact (du (by simpa [iv] using hl) (bV ha)).mono s
theorem GM {g:af}:av g↔(2≤g.nons.length∧g.nons[0]? = some .empty∧2≤g.prods.length∧∃ p,g.prods[0]? = some p∧p.left = (g.T:Int)∧p.right = [g.start]∧p.level = 0)∧CK g 1:=by
 unfold av CK
 constructor
 ·rintro ⟨h1,h2,h3,h4⟩
  have:=(vY.1 h2).1
  have:=(E2.1 ⟨h2,h3⟩).1.2.2.2.1
  exact ⟨⟨by omega,h1,by omega,h4⟩,h2,h3⟩
 ·rintro ⟨⟨_,h1,_,h4⟩,h2,h3⟩
  exact ⟨h1,h2,h3,h4⟩
end Go.V
namespace Go.Proofs.YtngdohpikfcifaaGreatDoor
open Go.V
section
variable {w:World} {L:List aw} {g:af} {x:GA} {s:ByteArray}
theorem PM (hg:gR (hp w) g x) (hb:iM g) (added:Nat) (ha:added≤1):aC Tryz.prog sW [.agg ⟨x.cells⟩,.int .i64 (added:Int)] w fun v w'=>(∃ r:Bool,v = .bool r∧(r = true↔CK g added))∧Gr w w':=by
 refine oW _ _ _ _ _ _ _ _ _ _ _ _ _ _ w _ ?_
 refine de hg fun k1 w1 gw hg B=>?_
 have hb':=hb
 obtain ⟨b1,b2,b3,b4,b5,b6,b7⟩:=hb
 have tl:=hg.t.1
 have nl:=hg.n.1
 have ll:=hg.l.1
 have pl:=hg.p.1
 have hT:g.T = x.tl:=tl
 have hN:g.N = x.nl:=nl
 have hst:=hg.s
 rw [E2]
 unfold E1
 rw [hT,hN,tl,nl,ll,pl]
 generalize hP:(_∧_:Prop) = P
 have no:∀ {w'},Gr w1 w'→¬ P→(∃ r:Bool,Value.bool false = .bool r∧(r = true↔P))∧Gr w w':=fun {w'} gg hn=>⟨⟨false,rfl,⟨fun h=>(by cases h),fun h=>absurd h hn⟩⟩,gw.trans gg⟩
 refine ⟨fun b w'=>(b = false↔(x.nl≤64 + added∧x.tl≤65∧x.pl≤96 + added∧added < x.pl∧x.ll≤64))∧w' = w1,?_,?_⟩
 ·refine ⟨_,_,_,B.c1 (sub.refl _),⟨by omega,by omega⟩,ae (fun h1=>⟨?_,rfl⟩) fun h1=>⟨_,_,_,B.c0 (sub.refl _),ae (fun h2=>⟨?_,rfl⟩) fun h2=>⟨_,_,_,B.c4 (sub.refl _),⟨by omega,by omega⟩,ae (fun h3=>⟨?_,rfl⟩) fun h3=>⟨_,_,_,B.c4 (sub.refl _),⟨by omega,by omega⟩,ae (fun h4=>⟨?_,rfl⟩) fun h4=>⟨_,_,_,B.c2 (sub.refl _),?_,rfl⟩⟩⟩⟩⟩
  all_goals simp only [Sy,SZ,Bool.true_eq_false,false_iff] at *
  all_goals omega
 rintro _ b w2 ⟨hb0,rfl⟩
 refine ae (fun h1=>no (Gr.refl _) fun hp=>?_) fun h1=>?_
 ·rw [← hP] at hp
  have:=hb0.2 hp.1
  rw [h1] at this; cases this
 obtain ⟨z1,z2,z3,z4,z5⟩:=hb0.1 h1
 refine ⟨_,_,_,B.c0 (sub.refl _),⟨by omega,by omega⟩,_,_,_,B.c1 (sub.refl _),⟨by omega,by omega⟩,⟨by omega,by omega⟩,ae (fun h2=>no (Gr.refl _) fun hp=>?_) fun h2=>?_⟩
 ·rw [← hP] at hp
  have:=Si h2; have:=hp.2.1; omega
 have h2:=Sj h2
 refine ⟨_,_,_,_,_,_,_,_,_,_,_,_,_,B.row (sub.refl _),(GJ (x:=x) hg hb').mono ?_⟩
 rintro _ w3 ⟨⟨r1,rfl,e1⟩,g3⟩
 refine ⟨_,rfl,ae (fun h3=>no g3 fun hp=>?_) fun h3=>?_⟩
 ·rw [← hP] at hp
  have:=e1.2 hp.2.2.1; rw [this] at h3; cases h3
 have h3:r1 = true:=by simpa using h3
 have e1:=e1.1 h3
 refine ⟨_,_,_,_,_,_,_,_,_,_,_,_,_,B.row g3,(E3 (x:=x) (hg.mono g3) hb').mono ?_⟩
 rintro _ w4 ⟨⟨r2,rfl,e2⟩,g4⟩
 have g4:Gr w2 w4:=g3.trans g4
 refine ⟨_,rfl,_,_,_,_,_,_,_,_,_,_,_,_,_,B.row g4,(JH (x:=x) (hg.mono g4) hb' added).mono ?_⟩
 rintro _ w5 ⟨⟨r3,rfl,e3⟩,g5⟩
 have g5:Gr w2 w5:=g4.trans g5
 have hpf:=GL (x:=x) (hg.mono g5) hb' added
 rw [hT] at hpf
 refine ⟨_,rfl,_,_,_,_,_,_,_,_,_,_,_,_,_,B.row g5,_,_,_,B.c0 g5,⟨by omega,by omega⟩,hpf.mono ?_⟩
 rintro _ w6 ⟨⟨r4,rfl,e4⟩,g6⟩
 have g6:Gr w2 w6:=g5.trans g6
 refine ⟨_,rfl,_,_,_,_,_,_,_,_,_,_,_,_,_,B.row g6,(NL (x:=x) (hg.mono g6) hb' added).mono ?_⟩
 rintro _ w7 ⟨a,c,rfl,h7⟩
 have g7:Gr w2 w7:=g6.trans h7.aX
 refine ⟨_,_,_,rfl,fun w8 hd=>⟨fun w'=>Gr w2 w',g7.trans (Gr.drawn hd),?_⟩⟩
 have g8:Gr w2 w8:=g7.trans (Gr.drawn hd)
 refine ae (fun i1=>ae (fun i2=>ae (fun i3=>⟨_,_,_,fun w' s=>B.c1 s,⟨by omega,by omega⟩,ae (fun i4=>⟨_,fun w' s=>B.c3 s,_,_,_,fun w' s=>B.c0 s,⟨by omega,by omega⟩,ae (fun i5=>⟨_,fun w' s=>B.c3 s,_,_,_,_,_,_,_,_,_,_,_,_,_,fun w' s=>B.row s,(jt (x:=x) (hg.mono g8) hb').mono ?_⟩) fun i5=>no g8 fun hp=>?_⟩) fun i4=>no g8 fun hp=>?_⟩) fun i3=>no g8 fun hp=>?_) fun i2=>no g8 fun hp=>?_) fun i1=>no g8 fun hp=>?_
 ·rintro _ w9 ⟨rfl,g9⟩
  have g9:Gr w2 w9:=g8.trans g9
  refine ⟨_,rfl,g9,⟨_,rfl,?_⟩,gw.trans g9⟩
  rw [← hP,hT,hN,Sy,← hst]
  have i4:=eq_of_beq i4
  have i5:=Si i5
  exact ⟨fun h=>⟨⟨z1,z2,z3,z4,z5⟩,by omega,e1,e2.1 i1,e3.1 i2,e4.1 i3,i4,i5,h⟩,fun h=>h.2.2.2.2.2.2.2.2⟩
 ·rw [← hP,← hst] at hp
  have:=Sj i5; have:=hp.2.2.2.2.2.2.2.1; omega
 ·rw [← hP] at hp
  have:=hp.2.2.2.2.2.2.1
  simp only [TK,ne_eq] at i4
  omega
 ·rw [← hP] at hp
  rw [e4.2 hp.2.2.2.2.2.1] at i3; cases i3
 ·rw [← hP] at hp
  rw [e3.2 hp.2.2.2.2.1] at i2; cases i2
 ·rw [← hP] at hp
  rw [e2.2 hp.2.2.2.1] at i1; cases i1
end
end Go.Proofs.YtngdohpikfcifaaGreatDoor
namespace Go.V
def ep (g:af):Prop:=Ln g∨av g
theorem PN (ad:Addr) (n:Nat):ad.add (dP 0 n) = ad:=by simp [aH,Addr.add]
end Go.V
namespace Go.Proofs.YtngdohpikfcifaaGreatDoor
open Go.V
section
variable {w:World} {L:List aw} {g:af} {x:GA} {s:ByteArray}
theorem Lt (hg:gR (hp w) g x) (hb:iM g):aC Tryz.prog oU [.agg ⟨x.cells⟩] w fun v w'=>(∃ r:Bool,v = .bool r∧(r = true↔av g))∧Gr w w':=by
  refine mi _ _ _ _ _ _ _ _ _ _ _ _ _ w _ ?_
  refine de hg fun k1 w1 gw hg B=>?_
  have tl:=hg.t.1
  have nl:=hg.n.1
  have pl:=hg.p.1
  have hT:g.T = x.tl:=tl
  have hst:=hg.s
  rw [GM]
  generalize hP:(_∧_:Prop) = P
  have no:∀ {w'},Gr w1 w'→¬ P→(∃ r:Bool,Value.bool false = .bool r∧(r = true↔P))∧Gr w w':=fun {w'} gg hn=>⟨⟨false,rfl,⟨fun h=>(by cases h),fun h=>absurd h hn⟩⟩,gw.trans gg⟩
  refine ⟨fun b w'=>(b = false↔(2≤g.nons.length∧g.nons[0]? = some .empty∧2≤g.prods.length))∧w' = w1,?_,?_⟩
  · refine ⟨_,_,_,B.c1 (sub.refl _),ae (fun h1=>⟨?_,rfl⟩) fun h1=>?_⟩
    · have:=Si h1; simp; omega
    have h1:=Sj h1
    obtain ⟨s,ad,hs1,hsa,hs2⟩:=hg.n.bL (i:=0) (by omega)
    refine ⟨_,_,_,B.c1 (sub.refl _),mJ hsa (by omega) ⟨s,hs2 _ (sub.refl _),?_⟩⟩
    rw [yO]
    change br (!decide (s = .empty)) _ _
    refine ae (fun h2=>⟨?_,rfl⟩) fun h2=>⟨_,_,_,B.c4 (sub.refl _),?_,rfl⟩
    · have h2:s≠.empty:=by simpa using h2
      rw [hs1]; simp [h2]
    · have h2:s = .empty:=by simpa using h2
      rw [hs1,SZ]; simp [h2]; omega
  rintro _ b w2 ⟨hb0,rfl⟩
  refine ae (fun h1=>no (Gr.refl _) fun hp=>?_) fun h1=>?_
  · rw [← hP] at hp
    have:=hb0.2 ⟨hp.1.1,hp.1.2.1,hp.1.2.2.1⟩
    rw [h1] at this; cases this
  obtain ⟨z1,z2,z3⟩:=hb0.1 h1
  obtain ⟨p,ad,vs,hp1,hpa,hp2,a,l,c,rfl,hlc,hp3⟩:=hg.p.get (i:=0) (by omega)
  rw [PN] at hp2
  refine ⟨_,_,_,B.c4 (sub.refl _),mJ hpa (by omega) ⟨_,_,_,_,_,hp2.at (sub.refl _) rfl,ah (St.all w2) fun k w3 h3=>bh h3 rfl (by intro v hv; simp at hv; rcases hv with rfl | rfl | rfl <;> rfl) fun w4 h4=>?_⟩⟩
  intro w5 hd
  have h5:=h4.drawn hd
  have g5:Gr w2 w5:=h5.aX
  have rb:=h5.row
  have pr:=hp3.mono g5
  have hP' : P↔((p.left = (x.tl:Int)∧l = 1∧p.right = [g.start]∧p.level = 0)∧CK g 1):=by
    rw [← hP]
    constructor
    · rintro ⟨⟨_,_,_,q,hq,q1,q2,q3⟩,hf⟩
      rw [hp1] at hq; cases hq
      exact ⟨⟨by omega,by rw [← hp3.1,q2]; rfl,q2,q3⟩,hf⟩
    · rintro ⟨⟨q1,_,q2,q3⟩,hf⟩
      exact ⟨⟨z1,z2,z3,p,hp1,by omega,q2,q3⟩,hf⟩
  refine ⟨fun w'=>sub (hp w5) (hp w'),sub.refl _,_,fun w' s=>rb.cell0 s,_,_,_,fun w' s=>B.c0 (sub.trans g5 s),ae (fun h6=>no g5 fun hp=>?_) fun h6=>⟨_,_,_,fun w' s=>rb.cell s (j:=1) rfl,ae (fun h7=>no g5 fun hp=>?_) fun h7=>?_⟩⟩
  · have:=(hP'.1 hp).1.1
    simp only [bne_iff_ne,ne_eq] at h6; omega
  · have:=(hP'.1 hp).1.2.1
    simp only [bne_iff_ne,ne_eq] at h7; omega
  have h6:p.left = (x.tl:Int):=by simpa using h6
  have h7 : l = 1 := by have h7 : (l : Int) = 1 := by simpa using h7
                        omega
  obtain ⟨y,ad2,hy1,hya,hy2⟩:=pr.bL (i:=0) (by omega)
  have hr:p.right = [y]:=by
    have hl:=pr.1
    match hq:p.right,hl,hy1 with
    | [z],_,hy1=>simp at hy1; rw [hy1]
    | [],hl,_=>simp at hl; omega
    | _ :: _ :: _,hl,_=>simp at hl; omega
  refine ⟨_,_,_,fun w' s=>rb.cell s (j:=1) rfl,mJ hya (by omega) ⟨y,fun w' s=>hy2 _ s,_,fun w' s=>B.c3 (sub.trans g5 s),ae (fun h8=>no g5 fun hp=>?_) fun h8=>⟨_,fun w' s=>rb.cell s (j:=2) rfl,ae (fun h9=>no g5 fun hp=>?_) fun h9=>?_⟩⟩⟩
  · have:=(hP'.1 hp).1.2.2.1
    rw [hr] at this
    simp only [bne_iff_ne,ne_eq] at h8
    simp at this; omega
  · have:=(hP'.1 hp).1.2.2.2
    simp only [bne_iff_ne,ne_eq] at h9; omega
  have h8:y = x.s:=by simpa using h8
  have h9:p.level = 0:=by simpa using h9
  refine ⟨_,_,_,_,_,_,_,_,_,_,_,_,_,B.row g5,(PM (x:=x) (hg.mono g5) hb 1 (by omega)).mono ?_⟩
  rintro _ w6 ⟨⟨r,rfl,e⟩,g6⟩
  refine ⟨_,rfl,⟨r,rfl,?_⟩,gw.trans (g5.trans g6)⟩
  rw [hP',e]
  exact ⟨fun h=>⟨⟨h6,h7,by rw [hr,h8,hst],h9⟩,h⟩,fun h=>h.2⟩
theorem E4 (hg:gR (hp w) g x) (hb:iM g):aC Tryz.prog BQ [.agg ⟨x.cells⟩] w fun v w'=>(∃ r:Bool,v = .bool r∧(r = true↔av g))∧Gr w w':=by
 refine zb _ _ _ _ _ _ _ _ _ _ _ _ _ w _ ?_
 refine de hg fun k1 w1 gw hg B=>?_
 have tl:=hg.t.1
 have nl:=hg.n.1
 have pl:=hg.p.1
 have hT:g.T = x.tl:=tl
 have hst:=hg.s
 have no:∀ {w'},Gr w1 w'→¬ av g→(∃ r:Bool,Value.bool false = .bool r∧(r = true↔av g))∧Gr w w':=fun {w'} gg hn=>⟨⟨false,rfl,⟨fun h=>(by cases h),fun h=>absurd h hn⟩⟩,gw.trans gg⟩
 refine ⟨fun b w'=>(b = false↔(g.nons[0]? = some .empty∧qC g 1))∧Gr w1 w',?_,?_⟩
 ·refine ⟨_,_,_,B.c1 (sub.refl _),ae (fun h1=>⟨?_,Gr.refl _⟩) fun h1=>?_⟩
  ·have h1:x.nl = 0:=by have:=eq_of_beq h1; omega
   have:g.nons[0]? = none:=SH (by omega)
   rw [this]; simp
  have h1:x.nl≠0:=fun h=>by rw [h] at h1; simp at h1
  obtain ⟨s,ad,hs1,hsa,hs2⟩:=hg.n.bL (i:=0) (by omega)
  refine ⟨_,_,_,B.c1 (sub.refl _),mJ hsa (by omega) ⟨s,hs2 _ (sub.refl _),?_⟩⟩
  rw [yO]
  change br (!decide (s = .empty)) _ _
  refine ae (fun h2=>⟨?_,Gr.refl _⟩) fun h2=>⟨_,_,_,_,_,_,_,_,_,_,_,_,_,B.row (sub.refl _),(CJ (x:=x) hg hb 1 (by omega)).mono ?_⟩
  ·have h2:s≠.empty:=by simpa using h2
   rw [hs1]; simp [h2]
  ·have h2:s = .empty:=by simpa using h2
   rintro _ w2 ⟨⟨r,rfl,e⟩,g2⟩
   refine ⟨_,rfl,?_,g2⟩
   rw [hs1,← e]; simp [h2]
 rintro _ b w2 ⟨hb0,g2⟩
 refine ae (fun h1=>no g2 fun hp=>?_) fun h1=>?_
 ·have:=hb0.2 ⟨hp.1,hp.2.1⟩
  rw [h1] at this; cases this
 obtain ⟨z1,z2⟩:=hb0.1 h1
 refine ⟨_,_,_,_,_,_,_,_,_,_,_,_,_,B.row g2,(tY (x:=x) (hg.mono g2) hb 1 (by omega)).mono ?_⟩
 rintro _ w3 ⟨a3,l3,c3,xs,r2,rfl,hr2,hxs,h3⟩
 have g3:Gr w1 w3:=g2.trans h3.aX
 refine ⟨_,_,_,_,rfl,_,_,_,B.c4 g3,fun w5 hd=>?_⟩
 have g5:Gr w1 w5:=g3.trans (Gr.drawn hd)
 refine ⟨fun w'=>sub (hp w5) (hp w'),sub.refl _,ae (fun h4=>?_) fun h4=>no g5 fun hp=>?_⟩
 rotate_left
 ·rw [hr2.2 hp.2.2.1] at h4; cases h4
 have hpr:=hr2.1 h4
 have hpl:0 < x.pl:=by have:=hpr.1; omega
 obtain ⟨p,ad,vs,hp1,hpa,hp2,a,l,c,rfl,hlc,hp3⟩:=hg.p.get (i:=0) hpl
 rw [PN] at hp2
 have pr:=hp3.mono g5
 have rb:=hp2.mono g5
 have hP' : av g↔(p.left = (x.tl:Int)∧l = 1∧p.right = [g.start]∧p.level = 0):=by
  unfold av
  constructor
  ·rintro ⟨_,_,_,q,hq,q1,q2,q3⟩
   rw [hp1] at hq; cases hq
   exact ⟨by omega,by rw [← hp3.1,q2]; rfl,q2,q3⟩
  ·rintro ⟨q1,_,q2,q3⟩
   exact ⟨z1,z2,hpr,p,hp1,by omega,q2,q3⟩
 refine mJ hpa hpl ⟨_,fun w' s=>rb.cell0 s,_,_,_,fun w' s=>B.c0 (sub.trans g5 s),ae (fun h6=>?_) fun h6=>no g5 fun hp=>?_⟩
 rotate_left
 ·have:=(hP'.1 hp).1
  simp only [TK,ne_eq] at h6; omega
 have h6:=eq_of_beq h6
 refine mJ hpa hpl ⟨_,_,_,fun w' s=>rb.cell s (j:=1) rfl,ae (fun h7=>?_) fun h7=>no g5 fun hp=>?_⟩
 rotate_left
 ·have:=(hP'.1 hp).2.1
  simp only [TK,ne_eq] at h7; omega
 have h7:l = 1:=by have:=eq_of_beq h7; omega
 obtain ⟨y,ad2,hy1,hya,hy2⟩:=pr.bL (i:=0) (by omega)
 have hr:p.right = [y]:=by
  have hl:=pr.1
  match hq:p.right,hl,hy1 with
  | [z],_,hy1=>simp at hy1; rw [hy1]
  | [],hl,_=>simp at hl; omega
  | _ :: _ :: _,hl,_=>simp at hl; omega
 refine mJ hpa hpl ⟨_,_,_,fun w' s=>rb.cell s (j:=1) rfl,mJ hya (by omega) ⟨y,fun w' s=>hy2 _ s,_,fun w' s=>B.c3 (sub.trans g5 s),ae (fun h8=>?_) fun h8=>no g5 fun hp=>?_⟩⟩
 rotate_left
 ·have:=(hP'.1 hp).2.2.1
  rw [hr] at this
  simp only [TK,ne_eq] at h8
  simp at this; omega
 have h8:=eq_of_beq h8
 refine mJ hpa hpl ⟨_,fun w' s=>rb.cell s (j:=2) rfl,⟨_,rfl,?_⟩,gw.trans g5⟩
 rw [hP',beq_iff_eq]
 exact ⟨fun h=>⟨h6,h7,by rw [hr,h8,hst],h⟩,fun h=>h.2.2.2⟩
end
end Go.Proofs.YtngdohpikfcifaaGreatDoor
namespace Go.V
theorem Lu {α : Sort _} (a:α):∃ q,q = a:=⟨a,rfl⟩
theorem Lv {h:Hp} {a:Addr} {us vs:List Value} (h1:ax h a us) (h2:ax h (a.add us.length) vs):ax h a (us ++ vs):=fun j v hj=>by
 by_cases hl:j < us.length
 ·rw [Sw hl] at hj; exact h1 j v hj
 ·rw [SC (by omega)] at hj
  have:=h2 _ v hj
  rw [add_add,show us.length + (j - us.length) = j from by omega] at this
  exact this
theorem xK {α : Type} {h:Hp} {n:Nat} {f:α→List Value} (hf:∀ x,(f x).length = n):∀ (ts:List α) (ad:Addr),(∀ (i:Nat) x,ts[i]? = some x→ax h (ad.add (dP i n)) (f x))→ax h ad (ts.flatMap f)
 | [],ad,_=>fun j v hj=>by simp at hj
 | t :: ts,ad,hh=>by
  rw [Tg]
  refine Lv ?_ ?_
  ·have:=hh 0 t rfl
   rwa [aH,Nat.zero_mul,show ad.add 0 = ad from by simp [Addr.add]] at this
  ·rw [hf]
   refine xK hf ts _ fun i x hx=>?_
   have:=hh (i + 1) x hx
   rw [add_add,aH]
   rwa [aH,TN,Nat.add_comm] at this
theorem dr {α : Type} {h:Hp} {n:Nat} {f:α→List Value} (hf:∀ x,(f x).length = n):∀ (ts:List α) (ad:Addr),ax h ad (ts.flatMap f)→∀ (i:Nat) x,ts[i]? = some x→ax h (ad.add (dP i n)) (f x)
 | [],ad,_,i,x,hx=>by simp at hx
 | t :: ts,ad,hh,i,x,hx=>by
  rw [Tg] at hh
  match i,hx with
  | 0,hx =>
   cases hx
   rw [aH,Nat.zero_mul,show ad.add 0 = ad from by simp [Addr.add]]
   exact hh.take
  | i + 1,hx =>
   have:=dr hf ts _ hh.drop i x hx
   rw [hf,add_add,aH] at this
   rwa [aH,TN,Nat.add_comm]
def AP (t:ij):List Value:=[.string t.name,.int .i64 t.level]
def nK (ts:List ij):List Value:=ts.flatMap AP
def AQ (p:(Option Addr × Nat) × aJ):List Value:=[.int .i64 p.2.left,.slice p.1.1 p.2.right.length p.1.2,.int .i64 p.2.level]
def lD (os:List (Option Addr × Nat)) (ps:List aJ):List Value:=(os.zip ps).flatMap AQ
def gY (os:List (Option Addr × Nat)) (ps:List aJ):List aw:=List.zipWith (fun o p=>own 1 o.1 p.right.length o.2 (iv p.right)) os ps
theorem AR (ts:List ij):(nK ts).length = ts.length * 2:=by
 induction ts with
 | nil=>rfl
 | cons t ts ih=>simp only [nK,Tg,Sx,S4,AP,T6] at ih ⊢; omega
theorem NM {h:Hp} {ts:List ij} {ad:Addr} {l:Nat} (r:aW h ts (some ad) l):ax h ad (nK ts) :=
 xK (f:=AP) (n:=2) (fun _=>rfl) ts ad fun i x hx=>by
  obtain ⟨ad',vs,e,h1,h2⟩:=r.2 i x hx
  cases e
  have h2:vs = AP x:=h2
  rw [← h2]; exact h1
theorem NN {h:Hp} {ts:List ij} {a:Option Addr} {l c:Nat} (hl:ts.length = l) (r:own 2 a l c (nK ts) h):aW h ts a l:=by
 refine ⟨hl,fun i x hx=>?_⟩
 rcases bV r with e | ⟨ad,rfl,hc⟩
 ·have:=AR ts
  rw [e] at this
  have h0:=(Sk.1 hx).1
  simp at this; omega
 ·exact ⟨ad,AP x,rfl,dr (f:=AP) (n:=2) (fun _=>rfl) ts ad hc i x hx,rfl⟩
theorem GN {os:List (Option Addr × Nat)} {ps:List aJ} {h:Hp} {ad:Addr} (hr:ax h ad (lD os ps)) {i:Nat} {o:Option Addr × Nat} {p:aJ} (ho:os[i]? = some o) (hp:ps[i]? = some p):ax h (ad.add (dP i 3)) [.int .i64 p.left,.slice o.1 p.right.length o.2,.int .i64 p.level] :=
 dr (f:=AQ) (n:=3) (fun _=>rfl) (os.zip ps) ad hr i (o,p) (by rw [List.getElem?_zip_eq_some]; exact ⟨ho,hp⟩)
theorem GO {os:List (Option Addr × Nat)} {ps:List aJ} (h:os.length = ps.length):(lD os ps).length = ps.length * 3:=by
 have:∀ zs:List ((Option Addr × Nat) × aJ),(zs.flatMap AQ).length = zs.length * 3:=fun zs=>by
  induction zs with
  | nil=>rfl
  | cons t ts ih=>simp only [Tg,Sx,S4,AQ,T6] at ih ⊢; omega
 unfold lD; rw [this,List.length_zip,h,Nat.min_self]
theorem E5 {os:List (Option Addr × Nat)} {ps:List aJ} (h:os.length = ps.length) (o:Option Addr × Nat) (p:aJ):lD (os ++ [o]) (ps ++ [p]) = lD os ps ++ AQ (o,p):=by
 unfold lD; rw [List.zip_append h]; simp
theorem Dy {os:List (Option Addr × Nat)} {ps:List aJ} (h:os.length = ps.length) (o:Option Addr × Nat) (p:aJ):gY (os ++ [o]) (ps ++ [p]) = gY os ps ++ [own 1 o.1 p.right.length o.2 (iv p.right)]:=by
 unfold gY; rw [List.zipWith_append h]; rfl
def QZ (g:af) (x:GA) (os:List (Option Addr × Nat)):List aw:=[own 3 x.pa g.prods.length x.pc (lD os g.prods),aT (gY os g.prods),own 2 x.ta g.terms.length x.tc (nK g.terms),own 1 x.na g.nons.length x.nc (g.nons.map fun s=>Value.string s),own 1 x.la g.levels.length x.lc (iv g.levels)]
structure Q0 (g:af) (x:GA):Prop where
 t:x.tl = g.terms.length
 n:x.nl = g.nons.length
 l:x.ll = g.levels.length
 s:x.s = g.start
 p:x.pl = g.prods.length
theorem NO {L:List aw} {h:Hp} {os:List (Option Addr × Nat)} {ps:List aJ} {k:Nat} {o:Option Addr × Nat} {p:aJ} (i:Nat) (hl:aE L h) (ho:os[k]? = some o) (hp:ps[k]? = some p) (e:sR L i = aT (gY os ps):=by rfl) (hi:Nat.blt i (AG L) = true:=by rfl):aW h p.right o.1 p.right.length∧p.right.length≤o.2:=by
 obtain ⟨h1,s,ha⟩:=dG i (by simpa [jd] using hi) hl
 rw [e] at ha
 obtain ⟨h2,s2,hb⟩:=qz (A:=own 1 o.1 p.right.length o.2 (iv p.right)) (Sl (i:=k) (by unfold gY; rw [List.getElem?_zipWith,ho,hp])) ha
 refine ⟨(b8 rfl (bV hb)).mono (s2.trans s),?_⟩
 rcases hb with ⟨_,h,h',_⟩ | ⟨_,_,_,_,_,_,_,_,h⟩ <;> omega
theorem M4 {L:List aw} {h:Hp} {A:aw} (i:Nat) (hl:aE L h) (e:sR L i = A:=by rfl) (hi:Nat.blt i (AG L) = true:=by rfl):∃ h1,sub h1 h∧A h1:=by
 obtain ⟨h1,s,ha⟩:=dG i (by simpa [jd] using hi) hl
 exact ⟨h1,s,e ▸ ha⟩
theorem vZ {sz l c:Nat} {a:Option Addr} {vs:List Value} {h:Hp} (ha:own sz a l c vs h):l≤c:=by
 rcases ha with ⟨_,rfl,rfl,_⟩ | ⟨_,_,_,_,_,_,_,_,h⟩
 ·exact SF _
 ·exact h
theorem NP {g:af} {x:GA} {os:List (Option Addr × Nat)} {L:List aw} {h:Hp} (hx:Q0 g x) (ho:os.length = g.prods.length) (hs:aE (QZ g x os ++ L) h):gR h g x:=by
 obtain ⟨h1,s1,a1⟩:=M4 (A:=own 3 x.pa g.prods.length x.pc (lD os g.prods)) 0 hs
 obtain ⟨h2,s2,a2⟩:=M4 (A:=own 2 x.ta g.terms.length x.tc (nK g.terms)) 2 hs
 obtain ⟨h3,s3,a3⟩:=M4 (A:=own 1 x.na g.nons.length x.nc (g.nons.map fun s=>Value.string s)) 3 hs
 obtain ⟨h4,s4,a4⟩:=M4 (A:=own 1 x.la g.levels.length x.lc (iv g.levels)) 4 hs
 obtain ⟨q1,q2,q3,q4,q5⟩:=hx
 refine ⟨?_,?_,?_,q4,?_,?_,?_,?_,?_⟩
 ·rw [q1]; exact (NN rfl a2).mono s2
 ·rw [q2]; exact (du rfl (bV a3)).mono s3
 ·rw [q3]; exact (b8 rfl (bV a4)).mono s4
 ·rw [q5]
  refine ⟨rfl,fun i p hp=>?_⟩
  have hi:=(Sk.1 hp).1
  obtain ⟨o,hoi⟩ : ∃ o,os[i]? = some o:=⟨os[i]'(by omega),Sm _⟩
  rcases bV a1 with e | ⟨ad,e,hc⟩
  ·have:=GO ho
   rw [e] at this; simp at this; omega
  ·obtain ⟨r1,r2⟩:=NO (k:=i) (o:=o) (p:=p) 1 hs hoi hp
   exact ⟨ad,_,e,(GN hc hoi hp).mono s1,o.1,_,o.2,rfl,r2,r1⟩
 ·rw [q1]; exact vZ a2
 ·rw [q2]; exact vZ a3
 ·rw [q3]; exact vZ a4
 ·rw [q5]; exact vZ a1
end Go.V
namespace Go.Proofs.YtngdohpikfcifaaGreatDoor
open Go.V
section
variable {w:World} {L:List aw} {g:af} {x:GA}
theorem PO (hg:gR (hp w) g x) (hb:iM g) (hbT:g.terms.length * 24≤140737488355328) (hbN:g.nons.length * 16≤140737488355328):aC Tryz.prog sS [.agg ⟨x.cells⟩] w fun v w'=>∃ (x' : GA) (os:List (Option Addr × Nat)),v = .agg ⟨x'.cells⟩∧Q0 g x'∧os.length = g.prods.length∧St w' (QZ g x' os ++ all w):=by
 refine oQ _ _ _ _ _ _ _ _ _ _ _ _ _ w _ ?_
 refine de hg fun k1 w1 gw hg B=>?_
 have tl:=hg.t.1
 have nl:=hg.n.1
 have ll:=hg.l.1
 have pl:=hg.p.1
 have hst:=hg.s
 obtain ⟨b1,b2,b3,b4,b5,b6,b7⟩:=hb
 have gs:sub (hp w) (hp w1):=gw
 have h1:=St.all w1
 unfold V.all at h1
 generalize hH:hp w1 = H at *
 refine ah h1 fun k2 w2 h=>⟨_,B.c3 (aZ 1 h.l),ah h fun k3 w3 h=>bh h rfl (by intro v hv; simp at hv; rcases hv with rfl | rfl | rfl | rfl | rfl <;> rfl) fun w4 h=>?_⟩
 refine ⟨_,_,_,h.cell 0,_,_,_,B.c0 (aZ 2 h.l),?_⟩
 refine (eY aK (rfl:ag Ty _ = .slice _) rfl rfl rfl (aB 2 h) (dE (news:=nK g.terms) aK (rfl:ag Ty _ = .slice _) (n:=x.tl) (by rw [AR,tl]) ?_ (by
   intro u hu
   obtain ⟨t,_,ht⟩:=T2.1 hu
   simp [AP] at ht; rcases ht with rfl | rfl <;> rfl)) (by show (0 + x.tl) * 24≤_; omega) (by omega)).mono ?_
 ·by_cases h0:x.tl = 0
  ·exact .inl h0
  ·obtain ⟨t,ad,vs,_,ha,_⟩:=hg.t.get (i:=0) (by omega)
   have ht:=hg.t
   rw [ha] at ht
   exact .inr ⟨ad,ha,fun j u hj=>(NM ht).cell (aZ 2 h.l) hj⟩
 rintro _ w5 ⟨ta,tc,rfl,h⟩
 rw [Tn,← tl] at h ⊢
 rw [To] at h
 refine ⟨_,_,_,rfl,bg (h.pick 4 [1,0,2,3]) (by simp) fun w6 h=>?_⟩
 refine ⟨_,_,_,h.cell 1,_,_,_,B.c1 (aZ 3 h.l),?_⟩
 refine (eY aK (rfl:ag Ty _ = .slice _) rfl rfl rfl (aB 1 h) (dE (news:=g.nons.map fun s=>Value.string s) aK (rfl:ag Ty _ = .slice _) (n:=x.nl) (by rw [Ss,nl,Tp]) ?_ (by
   intro u hu
   obtain ⟨t,_,rfl⟩:=SG.1 hu
   rfl)) (by show (0 + x.nl) * 16≤_; omega) (by omega)).mono ?_
 ·rcases (hg.n.mono (aZ 3 h.l)).row with h0 | ⟨ad,ha,hc⟩
  ·exact .inl (by have:=congrArg List.length h0; rw [Ss,nl] at this; exact this)
  ·exact .inr ⟨ad,ha,fun j u hj=>kO (hc j u hj)⟩
 rintro _ w7 ⟨na,nc,rfl,h⟩
 rw [Tn,← nl] at h ⊢
 rw [To] at h
 refine ⟨_,_,_,rfl,?_⟩
 rw [aO]
 refine bg (h.pick 5 [1,0,2,3,4]) (by simp) fun w8 h=>?_
 refine ⟨_,_,_,h.cell 2,_,_,_,B.c2 (aZ 4 h.l),?_⟩
 refine (eY aK (rfl:ag Ty _ = .slice _) rfl rfl rfl (aB 1 h) (dE (news:=iv g.levels) aK (rfl:ag Ty _ = .slice _) (n:=x.ll) (by rw [gi,ll,Tp]) ?_ (by
   intro u hu
   obtain ⟨t,_,rfl⟩:=SG.1 hu
   rfl)) (by show (0 + x.ll) * 8≤_; omega) (by omega)).mono ?_
 ·rcases (hg.l.mono (aZ 4 h.l)).iv with h0 | ⟨ad,ha,hc⟩
  ·exact .inl (by have:=congrArg List.length h0; rw [gi,ll] at this; exact this)
  ·exact .inr ⟨ad,ha,fun j u hj=>kO (hc j u hj)⟩
 rintro _ w9 ⟨la,lc,rfl,h⟩
 rw [Tn,← ll] at h ⊢
 rw [To] at h
 refine ⟨_,_,_,rfl,?_⟩
 rw [aO]
 refine bg (h.pick 6 [1,0,2,3,4,5]) (by simp) fun w10 h=>?_
 obtain ⟨K,hK⟩:=Lu (fun (pa:Option Addr) (j pc:Nat)=>[Value.slice ta g.terms.length tc,.slice na g.nons.length nc,.slice la g.levels.length lc,.int .i64 x.s,.slice pa j pc])
 refine ⟨fun n w'=>∃ (j:Nat) (pa:Option Addr) (pc:Nat) (os:List (Option Addr × Nat)),n = j∧j≤g.prods.length∧os.length = j∧St w' [aR k3 (K pa j pc),own 3 pa j pc (lD os (g.prods.take j)),aT (gY os (g.prods.take j)),own 1 la g.levels.length lc (iv g.levels),own 1 na g.nons.length nc (g.nons.map fun s=>Value.string s),own 2 ta g.terms.length tc (nK g.terms),aR k2 [.slice none 0 0,.slice none 0 0,.slice none 0 0,.int .i64 0,.slice none 0 0],has H],fun n _=>g.prods.length - n.toNat,⟨0,none,0,[],rfl,by omega,rfl,?_⟩,?_⟩
 ·have h:St w10 (aT (gY [] (g.prods.take 0)) :: _):=St.flat.2 (show St w10 ([] ++ _) from aB 3 h)
  rw [hK]
  exact h.pick 8 [2,1,0,3,4,5,6,7]
 clear h
 rintro _ n w11 ⟨j,pa,pc,os,rfl,hj,hos,h⟩
 have hrl:(g.prods.take j).length = j:=by rw [SN]; omega
 refine ⟨_,_,_,B.c4 (aZ 7 h.l),ae (fun h2=>?_) fun h2=>?_⟩
 ·have h2:j < g.prods.length:=by have:=Si h2; omega
  obtain ⟨p,ad,vs,hp1,hpa,hp2,ra,rl,rc,rfl,hrc,hp3⟩:=hg.p.get (i:=j) (by omega)
  have hpm:=Sl hp1
  have b7':=b7 p hpm
  have rl1:=hp3.1
  have et:g.prods.take (j + 1) = g.prods.take j ++ [p]:=by rw [Su,hp1]; rfl
  intro w12 hd
  have h:=h.drawn hd
  refine ⟨fun w=>sub H (hp w),aZ 7 h.l,_,_,_,fun w s=>B.c4 s,ay hpa (by omega) ⟨_,fun w s=>hp2.cell0 s,_,_,_,fun w s=>B.c4 s,ay hpa (by omega) ⟨_,fun w s=>hp2.cell s (j:=2) rfl,ah h fun k28 w17 h=>⟨aZ 8 h.l,bh h rfl (by intro v hv; simp at hv; rcases hv with rfl | rfl | rfl <;> rfl) fun w18 h=>?_⟩⟩⟩⟩
  intro w19 hd
  have h:=h.drawn hd
  refine ⟨fun w=>ax (hp w) ⟨k28,0,none⟩ [.int .i64 p.left,.slice none 0 0,.int .i64 p.level]∧sub H (hp w),⟨ai 0 h.l,aZ 8 h.l⟩,_,_,_,fun w s=>s.1.cell (sub.refl _) (j:=1) rfl,_,_,_,fun w s=>B.c4 s.2,ay hpa (by omega) ⟨_,_,_,fun w s=>hp2.cell s.2 (j:=1) rfl,?_⟩⟩
  refine (eY aK (rfl:ag Ty _ = .slice _) rfl rfl rfl (aB 1 h) (dE (news:=iv p.right) aK (rfl:ag Ty _ = .slice _) (n:=rl) (by rw [gi,rl1,Tp]) ?_ (by
   intro u hu
   obtain ⟨t,_,rfl⟩:=SG.1 hu
   rfl)) (by show (0 + rl) * 8≤_; omega) (by omega)).mono ?_
  ·rcases (hp3.mono (aZ 8 h.l)).iv with h0 | ⟨ad,ha,hc⟩
   ·exact .inl (by have:=congrArg List.length h0; rw [gi,rl1] at this; exact this)
   ·exact .inr ⟨ad,ha,fun j u hj=>kO (hc j u hj)⟩
  rintro _ w23 ⟨qa,qc,rfl,h⟩
  rw [Tn,← rl1] at h ⊢
  rw [To] at h
  refine ⟨_,_,_,rfl,⟨ai 1 h.l,aZ 9 h.l⟩,?_⟩
  rw [aO]
  refine bg (h.pick 10 [1,0,2,3,4,5,6,7,8,9]) (by simp) fun w24 h=>?_
  have ck:w24.cell? ((⟨k3,0,none⟩ : Addr).add 4) = some (.slice pa j pc):=by
   have r:ax (hp w24) ⟨k3,0,none⟩ (K pa j pc):=ai 2 h.l
   rw [hK] at r
   exact r.cell (sub.refl _) (j:=4) rfl
  refine ⟨_,_,_,ck,_,_,_,_,_,h.row.at (sub.refl _) rfl,ah h fun k41 w25 h=>?_⟩
  have h:St w25 [aR k41 (AQ ((qa,qc),p)),aR k28 _,own 1 qa p.right.length qc (iv p.right),aR k3 (K pa j pc),own 3 pa j pc (lD os (g.prods.take j)),aT (gY os (g.prods.take j)),own 1 la g.levels.length lc (iv g.levels),own 1 na g.nons.length nc (g.nons.map fun s=>Value.string s),own 2 ta g.terms.length tc (nK g.terms),aR k2 [.slice none 0 0,.slice none 0 0,.slice none 0 0,.int .i64 0,.slice none 0 0],has H]:=h
  refine (aQ aK (rfl:ag Ty _ = .slice _) (rfl:ag Ty _ = .slice _) rfl rfl rfl (h.pick 11 [0,4,2,3,5,6,7,8,9,10]) rfl (by simp [aS,AQ]) (by show (_ + 1) * 40≤_; omega) (by omega)).mono ?_
  rintro _ w26 ⟨pa',pc',rfl,h⟩
  refine ⟨_,_,_,rfl,?_⟩
  rw [aO]
  refine bg (h.pick 10 [3,0,2,4,5,6,7,8,9]) (by rw [hK]; simp) fun w27 h=>?_
  have eK:(K pa j pc).set 4 (.slice pa' (j + 1) pc') = K pa' (j + 1) pc':=by rw [hK]; rfl
  rw [eK] at h
  have h:=St.snoc (A:=own 1 qa p.right.length qc (iv p.right)) (M:=gY os (g.prods.take j)) (h.pick 9 [2,3,0,1,4,5,6,7,8])
  have e1:=Dy (hos.trans hrl.symm) (qa,qc) p
  have e2:=E5 (hos.trans hrl.symm) (qa,qc) p
  dsimp only at e1
  rw [← e1,← et] at h
  refine ⟨⟨by omega,by omega⟩,⟨j + 1,pa',pc',os ++ [(qa,qc)],by simp,by omega,by simp [hos],?_⟩,bA h2⟩
  rw [et] at h ⊢
  rw [e2]
  exact h.pick 8 [1,2,0,3,4,5,6,7]
 ·have h2:j = g.prods.length:=by have:=Sj h2; omega
  subst h2
  rw [SM] at h
  have r:ax (hp w11) ⟨k3,0,none⟩ (K pa g.prods.length pc):=ai 0 h.l
  rw [hK] at r
  refine ⟨_,_,_,_,_,_,_,_,_,_,_,_,_,r.at (sub.refl _) rfl,bh (h.pick 8 [6,1,2,3,4,5,7]) rfl (by intro v hv; simp at hv; rcases hv with rfl | rfl | rfl | rfl | rfl <;> rfl) fun w28 h=>?_⟩
  refine ⟨_,_,_,_,_,_,_,_,_,_,_,_,_,h.row.at (sub.refl _) rfl,⟨ta,g.terms.length,tc,na,g.nons.length,nc,la,g.levels.length,lc,x.s,pa,g.prods.length,pc⟩,os,rfl,⟨rfl,rfl,rfl,hst,rfl⟩,hos,?_⟩
  exact St.on (N:=[_,_,_,_,_]) (h.pick 7 [1,2,5,4,3,6]) (cE gs)
end
end Go.Proofs.YtngdohpikfcifaaGreatDoor
namespace Go.Proofs.YtngdohpikfcifaaGreatDoor
open Go.V
section
variable {w:World} {L:List aw} {g:af} {x y:GA} {a a2:Option Addr} {l l2 c c2:Nat} {xs ys:List Int} {bs:List Bool} {xss:List (List Int)}
theorem uA (hx:aW (hp w) xs a l) (hy:aW (hp w) xs a2 l2) (hb:l≤4611686018427387904):aC Tryz.prog mj [.slice a l c,.slice a2 l2 c2] w fun v w'=>v = .bool true∧hp w' = hp w:=by
 refine j8 _ _ _ _ _ _ w _ ?_
 have hl:=hx.1
 have hl2:=hy.1
 refine ae (fun h0=>?_) fun h0=>?_
 ·simp at h0; omega
 refine ⟨fun n w'=>∃ j:Nat,n = j∧j≤l∧hp w' = hp w,fun n _=>l - n.toNat,⟨0,rfl,by omega,rfl⟩,?_⟩
 rintro _ n w1 ⟨j,rfl,hj,e⟩
 refine ae (fun h1=>?_) fun _=>⟨rfl,e⟩
 have h1:j < l:=by have:=Si h1; omega
 intro w2 hd
 have e2:hp w2 = hp w:=(dA hd).trans e
 obtain ⟨u,ad,hu,hua,hu2⟩:=hx.bL h1
 obtain ⟨v,ad2,hv,hva,hv2⟩:=hy.bL (i:=j) (by omega)
 rw [hu] at hv; cases hv
 refine ⟨fun w'=>sub (hp w) (hp w'),uu e2,aq hua h1 ⟨_,fun w s=>hu2 _ s,aq hva (by omega) ⟨_,fun w s=>hv2 _ s,ae (fun h=>by simp at h) fun _=>⟨⟨by omega,by omega⟩,⟨j + 1,by simp,by omega,e2⟩,bA h1⟩⟩⟩⟩
theorem PQ (hg:gR (hp w) g x) (hk:gR (hp w) g y) (hb:iM g):aC Tryz.prog sU [.agg ⟨x.cells⟩,.agg ⟨y.cells⟩] w fun v w'=>v = .bool true∧Gr w w':=by
 refine oT _ _ _ _ _ _ _ _ _ _ _ _ _ _ _ _ _ _ _ _ _ _ _ _ _ _ w _ ?_
 refine de hg fun k1 w1 gw hg B=>de (hk.mono gw) fun k2 w2 g2 hk C=>?_
 have hg:=hg.mono g2
 have B:GB (hp w2) k1 x:=⟨fun s=>B.c0 (sub.trans g2 s),fun s=>B.c1 (sub.trans g2 s),fun s=>B.c2 (sub.trans g2 s),fun s=>B.c3 (sub.trans g2 s),fun s=>B.c4 (sub.trans g2 s),fun s=>B.row (sub.trans g2 s)⟩
 have gw2:Gr w w2:=gw.trans g2
 clear g2 gw
 obtain ⟨b1,b2,b3,b4,b5,b6,b7⟩:=hb
 have t1:=hg.t.1; have t2:=hk.t.1
 have n1:=hg.n.1; have n2:=hk.n.1
 have l1:=hg.l.1; have l2:=hk.l.1
 have p1:=hg.p.1; have p2:=hk.p.1
 have s1:=hg.s; have s2:=hk.s
 refine ⟨_,_,_,B.c2 (sub.refl _),_,_,_,C.c2 (sub.refl _),(uA hg.l hk.l (by omega)).mono ?_⟩
 rintro _ w3 ⟨rfl,e3⟩
 have g3:Gr w2 w3:=Gr.of_eq e3
 refine ⟨_,rfl,fun b w'=>b = false∧w' = w3,ae (fun h=>absurd h (by decide)) fun _=>⟨_,B.c3 g3,_,C.c3 g3,ae (fun h=>?_) fun _=>⟨_,_,_,B.c0 g3,_,_,_,C.c0 g3,ae (fun h=>?_) fun _=>⟨_,_,_,B.c1 g3,_,_,_,C.c1 g3,ae (fun h=>?_) fun _=>⟨_,_,_,B.c4 g3,_,_,_,C.c4 g3,?_,rfl⟩⟩⟩⟩,?_⟩
 ·rw [s1,s2] at h; simp at h
 ·simp at h; omega
 ·simp at h; omega
 ·simp; omega
 rintro _ _ w4 ⟨rfl,rfl⟩
 refine ae (fun h=>absurd h (by decide)) fun _=>?_
 refine ⟨fun n w'=>∃ j:Nat,n = j∧j≤x.tl∧Gr w2 w',fun n _=>x.tl - n.toNat,⟨0,rfl,by omega,g3⟩,?_⟩
 rintro _ n w5 ⟨j,rfl,hj,g5⟩
 refine ⟨_,_,_,B.c0 g5,ae (fun h=>?_) fun _=>?_⟩
 ·have h:j < x.tl:=by have:=Si h; omega
  intro w6 hd
  have g6:Gr w2 w6:=g5.trans (Gr.drawn hd)
  obtain ⟨u,ad,vs,hu,hua,hu2,hu3⟩:=hg.t.get h
  obtain ⟨v,ad2,vs',hv,hva,hv2,hv3⟩:=hk.t.get (i:=j) (by omega)
  rw [hu] at hv; cases hv
  have hu3:vs = [.string u.name,.int .i64 u.level]:=hu3
  have hv3:vs' = [.string u.name,.int .i64 u.level]:=hv3
  subst hu3; subst hv3
  refine ⟨fun w'=>sub (hp w2) (hp w'),g6,_,_,_,fun w s=>B.c0 s,ay hua h ⟨_,_,fun w s=>hu2.at s rfl,_,_,_,fun w s=>C.c0 s,ay hva (by omega) ⟨_,_,fun w s=>hv2.at s rfl,_,fun w s=>H9 w _ _ _ _ _ _,_,rfl,ae (fun h=>by simp at h) fun _=>⟨⟨by omega,by omega⟩,⟨j + 1,by simp,by omega,g6⟩,bA h⟩⟩⟩⟩
 refine ⟨fun n w'=>∃ j:Nat,n = j∧j≤x.nl∧Gr w2 w',fun n _=>x.nl - n.toNat,⟨0,rfl,by omega,g5⟩,?_⟩
 rintro _ n w12 ⟨j,rfl,hj,g5⟩
 refine ⟨_,_,_,B.c1 g5,ae (fun h=>?_) fun _=>?_⟩
 ·have h:j < x.nl:=by have:=Si h; omega
  intro w6 hd
  have g6:Gr w2 w6:=g5.trans (Gr.drawn hd)
  obtain ⟨u,ad,hu,hua,hu2⟩:=hg.n.bL h
  obtain ⟨v,ad2,hv,hva,hv2⟩:=hk.n.bL (i:=j) (by omega)
  rw [hu] at hv; cases hv
  refine ⟨fun w'=>sub (hp w2) (hp w'),g6,_,_,_,fun w s=>B.c1 s,aq hua h ⟨u,fun w s=>hu2 _ s,_,_,_,fun w s=>C.c1 s,aq hva (by omega) ⟨u,fun w s=>hv2 _ s,ae (fun h=>by simp at h) fun _=>⟨⟨by omega,by omega⟩,⟨j + 1,by simp,by omega,g6⟩,bA h⟩⟩⟩⟩
 refine ⟨fun n w'=>∃ j:Nat,n = j∧j≤x.pl∧Gr w2 w',fun n _=>x.pl - n.toNat,⟨0,rfl,by omega,g5⟩,?_⟩
 rintro _ n w18 ⟨j,rfl,hj,g5⟩
 refine ⟨_,_,_,B.c4 g5,ae (fun h=>?_) fun _=>⟨rfl,gw2.trans g5⟩⟩
 have h:j < x.pl:=by have:=Si h; omega
 obtain ⟨u,ad,vs,hu,hua,hu2,ra,rl,rc,rfl,hrc,hu3⟩:=hg.p.get h
 obtain ⟨v,ad2,vs',hv,hva,hv2,sa,sl,sc,rfl,hsc,hv3⟩:=hk.p.get (i:=j) (by omega)
 rw [hu] at hv; cases hv
 have b7':=b7 u (Sl hu)
 have u1:=hu3.1
 refine ⟨_,_,_,B.c4 g5,ay hua h ⟨_,_,_,_,_,hu2.at g5 rfl,ah (St.all w18) fun k37 w19 h1=>bh h1 rfl (by simp [aS]) fun w20 h1=>?_⟩⟩
 have g20:Gr w18 w20:=h1.aX
 refine ⟨_,_,_,C.c4 (sub.trans g5 g20),ay hva (by omega) ⟨_,_,_,_,_,hv2.at (sub.trans g5 g20) rfl,ah h1 fun k42 w21 h1=>bh h1 rfl (by simp [aS]) fun w22 h1=>?_⟩⟩
 have r37:ax (hp w22) ⟨k37,0,none⟩ [.int .i64 u.left,.slice ra rl rc,.int .i64 u.level]:=ai 1 h1.l
 have r42:ax (hp w22) ⟨k42,0,none⟩ [.int .i64 u.left,.slice sa sl sc,.int .i64 u.level]:=ai 0 h1.l
 have g22:Gr w2 w22:=sub.trans g5 (aZ 2 h1.l)
 refine ⟨_,_,_,r37.cell (sub.refl _) (j:=1) rfl,_,_,_,r42.cell (sub.refl _) (j:=1) rfl,(uA (hu3.mono g22) (hv3.mono g22) (by omega)).mono ?_⟩
 rintro _ w23 ⟨rfl,e23⟩
 have s23:=uu e23
 refine ⟨_,rfl,ae (fun h=>absurd h (by decide)) fun _=>⟨_,r37.cell0 s23,_,r42.cell0 s23,ae (fun h=>by simp at h) fun _=>⟨_,r37.cell s23 (j:=2) rfl,_,r42.cell s23 (j:=2) rfl,ae (fun h=>by simp at h) fun _=>⟨⟨by omega,by omega⟩,⟨j + 1,by simp,by omega,g22.trans s23⟩,bA h⟩⟩⟩⟩
end
end Go.Proofs.YtngdohpikfcifaaGreatDoor
namespace Go.Proofs.YtngdohpikfcifaaGreatDoor
open Go.Shelf Go.Proofs
def JI:Go.Shelf.Ren:=⟨fun | 6=>102 | 15=>101 | 14=>144 | 28=>142 | 29=>143 | 20=>163 | 21=>164 | 22=>165 | 23=>166 | 24=>167 | 25=>168 | 26=>169 | 27=>170 | 46=>174 | 47=>159 | 48=>160 | 49=>175 | 50=>176 | 57=>177 | n=>n,fun | 22=>66 | 24=>76 | 25=>177 | 3=>3 | 39=>174 | 0=>0 | 53=>205 | 55=>187 | 4=>4 | 46=>198 | 45=>197 | 50=>128 | 5=>5 | 9=>9 | 66=>220 | 70=>224 | 76=>233 | 77=>234 | n=>n,fun | n=>n⟩
theorem O1:Go.Proofs.SlLaysF0.n6 Tryz.prog JI:={
  mixed:=by kernel_rfl,
  f6:=⟨Tryz.f102.name,by decide,Tryz.func102.trans (congrArg some (by kernel_rfl))⟩,
  f14:=⟨Tryz.f144.name,by decide,Tryz.func144.trans (congrArg some (by kernel_rfl))⟩,
  f15:=Tryz.func101.trans (congrArg some (by kernel_rfl)),
  f20:=⟨Tryz.f163.name,by decide,Tryz.func163.trans (congrArg some (by kernel_rfl))⟩,
  f21:=⟨Tryz.f164.name,by decide,Tryz.func164.trans (congrArg some (by kernel_rfl))⟩,
  f22:=⟨Tryz.f165.name,by decide,Tryz.func165.trans (congrArg some (by kernel_rfl))⟩,
  f23:=⟨Tryz.f166.name,by decide,Tryz.func166.trans (congrArg some (by kernel_rfl))⟩,
  f24:=⟨Tryz.f167.name,by decide,Tryz.func167.trans (congrArg some (by kernel_rfl))⟩,
  f25:=⟨Tryz.f168.name,by decide,Tryz.func168.trans (congrArg some (by kernel_rfl))⟩,
  f26:=⟨Tryz.f169.name,by decide,Tryz.func169.trans (congrArg some (by kernel_rfl))⟩,
  f27:=⟨Tryz.f170.name,by decide,Tryz.func170.trans (congrArg some (by kernel_rfl))⟩,
  f28:=Tryz.func142.trans (congrArg some (by kernel_rfl)),
  f29:=Tryz.func143.trans (congrArg some (by kernel_rfl)),
  f46:=⟨Tryz.f174.name,by decide,Tryz.func174.trans (congrArg some (by kernel_rfl))⟩,
  f47:=Tryz.func159.trans (congrArg some (by kernel_rfl)),
  f48:=Tryz.func160.trans (congrArg some (by kernel_rfl)),
  f49:=⟨Tryz.f175.name,by decide,Tryz.func175.trans (congrArg some (by kernel_rfl))⟩,
  f50:=⟨Tryz.f176.name,by decide,Tryz.func176.trans (congrArg some (by kernel_rfl))⟩,
  f57:=⟨Tryz.f177.name,by decide,Tryz.func177.trans (congrArg some (by kernel_rfl))⟩,
  t0:=Tryz.underlying0,
  a0:=Tryz.isAgg0,
  z0:=Tryz.sizeOf0,
  v0:=Tryz.zeroValue0,
  t3:=Tryz.underlying3,
  a3:=Tryz.isAgg3,
  z3:=Tryz.sizeOf3,
  v3:=Tryz.zeroValue3,
  t4:=Tryz.underlying4,
  a4:=Tryz.isAgg4,
  z4:=Tryz.sizeOf4,
  v4:=Tryz.zeroValue4,
  t5:=Tryz.underlying5,
  a5:=Tryz.isAgg5,
  z5:=Tryz.sizeOf5,
  v5:=Tryz.zeroValue5,
  t9:=Tryz.underlying9,
  a9:=Tryz.isAgg9,
  z9:=Tryz.sizeOf9,
  v9:=Tryz.zeroValue9,
  t22:=Tryz.underlying66,
  a22:=Tryz.isAgg66,
  z22:=Tryz.sizeOf66,
  v22:=Tryz.zeroValue66,
  t25:=Tryz.underlying177,
  a25:=Tryz.isAgg177,
  z25:=Tryz.sizeOf177,
  v25:=Tryz.zeroValue177,
  t39:=Tryz.underlying174,
  a39:=Tryz.isAgg174,
  z39:=Tryz.sizeOf174,
  v39:=Tryz.zeroValue174,
  t45:=Tryz.underlying197,
  a45:=Tryz.isAgg197,
  z45:=Tryz.sizeOf197,
  v45:=Tryz.zeroValue197,
  t46:=Tryz.underlying198,
  a46:=Tryz.isAgg198,
  z46:=Tryz.sizeOf198,
  v46:=Tryz.zeroValue198,
  t50:=Tryz.underlying128,
  a50:=Tryz.isAgg128,
  z50:=Tryz.sizeOf128,
  v50:=Tryz.zeroValue128,
  t53:=Tryz.underlying205,
  a53:=Tryz.isAgg205,
  z53:=Tryz.sizeOf205,
  v53:=Tryz.zeroValue205,
  t55:=Tryz.underlying187,
  a55:=Tryz.isAgg187,
  z55:=Tryz.sizeOf187,
  v55:=Tryz.zeroValue187,
  t66:=Tryz.underlying220,
  a66:=Tryz.isAgg220,
  z66:=Tryz.sizeOf220,
  v66:=Tryz.zeroValue220,
  t70:=Tryz.underlying224,
  a70:=Tryz.isAgg224,
  z70:=Tryz.sizeOf224,
  v70:=Tryz.zeroValue224,
  t76:=Tryz.underlying233,
  a76:=Tryz.isAgg233,
  z76:=Tryz.sizeOf233,
  v76:=Tryz.zeroValue233,
  t77:=Tryz.underlying234,
  a77:=Tryz.isAgg234,
  z77:=Tryz.sizeOf234,
  v77:=Tryz.zeroValue234 }
def JJ:Go.Shelf.Ren:=⟨fun | 189=>64 | 125=>101 | 257=>100 | 128=>142 | 129=>143 | 294=>133 | 295=>134 | 296=>135 | 297=>136 | 298=>137 | 299=>138 | 216=>139 | 300=>140 | 301=>141 | 328=>158 | 329=>159 | 330=>160 | 331=>161 | 332=>162 | 215=>145 | 343=>173 | n=>n,fun | 28=>24 | 3=>3 | 46=>174 | 0=>0 | 51=>205 | 53=>187 | 4=>4 | 183=>198 | 182=>197 | 131=>128 | 5=>5 | 9=>9 | 218=>220 | 222=>224 | 228=>233 | 229=>234 | n=>n,fun | n=>n⟩
theorem O2:Go.Proofs.Lays.n189 Tryz.prog JJ:={
  mixed:=by kernel_rfl,
  f125:=Tryz.func101.trans (congrArg some (by kernel_rfl)),
  f128:=Tryz.func142.trans (congrArg some (by kernel_rfl)),
  f129:=Tryz.func143.trans (congrArg some (by kernel_rfl)),
  f189:=Tryz.func64.trans (congrArg some (by kernel_rfl)),
  f215:=Tryz.func145.trans (congrArg some (by kernel_rfl)),
  f216:=Tryz.func139.trans (congrArg some (by kernel_rfl)),
  f257:=Tryz.func100.trans (congrArg some (by kernel_rfl)),
  f294:=Tryz.func133.trans (congrArg some (by kernel_rfl)),
  f295:=Tryz.func134.trans (congrArg some (by kernel_rfl)),
  f296:=Tryz.func135.trans (congrArg some (by kernel_rfl)),
  f297:=Tryz.func136.trans (congrArg some (by kernel_rfl)),
  f298:=Tryz.func137.trans (congrArg some (by kernel_rfl)),
  f299:=Tryz.func138.trans (congrArg some (by kernel_rfl)),
  f300:=Tryz.func140.trans (congrArg some (by kernel_rfl)),
  f301:=Tryz.func141.trans (congrArg some (by kernel_rfl)),
  f328:=Tryz.func158.trans (congrArg some (by kernel_rfl)),
  f329:=Tryz.func159.trans (congrArg some (by kernel_rfl)),
  f330:=Tryz.func160.trans (congrArg some (by kernel_rfl)),
  f331:=Tryz.func161.trans (congrArg some (by kernel_rfl)),
  f332:=Tryz.func162.trans (congrArg some (by kernel_rfl)),
  f343:=Tryz.func173.trans (congrArg some (by kernel_rfl)),
  t0:=Tryz.underlying0,
  a0:=Tryz.isAgg0,
  z0:=Tryz.sizeOf0,
  v0:=Tryz.zeroValue0,
  t3:=Tryz.underlying3,
  a3:=Tryz.isAgg3,
  z3:=Tryz.sizeOf3,
  v3:=Tryz.zeroValue3,
  t4:=Tryz.underlying4,
  a4:=Tryz.isAgg4,
  z4:=Tryz.sizeOf4,
  v4:=Tryz.zeroValue4,
  t5:=Tryz.underlying5,
  a5:=Tryz.isAgg5,
  z5:=Tryz.sizeOf5,
  v5:=Tryz.zeroValue5,
  t9:=Tryz.underlying9,
  a9:=Tryz.isAgg9,
  z9:=Tryz.sizeOf9,
  v9:=Tryz.zeroValue9,
  t28:=Tryz.underlying24,
  a28:=Tryz.isAgg24,
  z28:=Tryz.sizeOf24,
  v28:=Tryz.zeroValue24,
  t46:=Tryz.underlying174,
  a46:=Tryz.isAgg174,
  z46:=Tryz.sizeOf174,
  v46:=Tryz.zeroValue174,
  t51:=Tryz.underlying205,
  a51:=Tryz.isAgg205,
  z51:=Tryz.sizeOf205,
  v51:=Tryz.zeroValue205,
  t53:=Tryz.underlying187,
  a53:=Tryz.isAgg187,
  z53:=Tryz.sizeOf187,
  v53:=Tryz.zeroValue187,
  t131:=Tryz.underlying128,
  a131:=Tryz.isAgg128,
  z131:=Tryz.sizeOf128,
  v131:=Tryz.zeroValue128,
  t182:=Tryz.underlying197,
  a182:=Tryz.isAgg197,
  z182:=Tryz.sizeOf197,
  v182:=Tryz.zeroValue197,
  t183:=Tryz.underlying198,
  a183:=Tryz.isAgg198,
  z183:=Tryz.sizeOf198,
  v183:=Tryz.zeroValue198,
  t218:=Tryz.underlying220,
  a218:=Tryz.isAgg220,
  z218:=Tryz.sizeOf220,
  v218:=Tryz.zeroValue220,
  t222:=Tryz.underlying224,
  a222:=Tryz.isAgg224,
  z222:=Tryz.sizeOf224,
  v222:=Tryz.zeroValue224,
  t228:=Tryz.underlying233,
  a228:=Tryz.isAgg233,
  z228:=Tryz.sizeOf233,
  v228:=Tryz.zeroValue233,
  t229:=Tryz.underlying234,
  a229:=Tryz.isAgg234,
  z229:=Tryz.sizeOf234,
  v229:=Tryz.zeroValue234 }
end Go.Proofs.YtngdohpikfcifaaGreatDoor
namespace Go.V
open Go.Proofs Go.Sort
theorem GP {X:Type} (P:X→Prop) (f:X→Nat) (h:∃ x,P x):∃ x,P x∧∀ y,P y→f x≤f y:=by
 obtain ⟨x,hx⟩:=h
 generalize hn:f x = n
 induction n using Nat.strongRecOn generalizing x with
 | ind n ih =>
  by_cases hm:∃ y,P y∧f y < n
  ·obtain ⟨y,hy,hl⟩:=hm
   exact ih (f y) hl y hy rfl
  ·exact ⟨x,hx,fun y hy=>by rw [hn]; exact TH fun hl=>hm ⟨y,hy,hl⟩⟩
open Classical in
noncomputable def Lw {X:Type} (P:X→World→Prop) (f:X→Nat) (w:World):Nat:=if h:∃ x,P x w then f (GP (fun x=>P x w) f h).choose else 0
theorem Dz {X:Type} {P:X→World→Prop} {f:X→Nat} {w:World} (h:∃ x,P x w):∃ x,P x w∧f x = Lw P f w:=by
 have:=(GP (fun x=>P x w) f h).choose_spec
 refine ⟨_,this.1,?_⟩
 unfold Lw; rw [dif_pos h]
theorem AU {X:Type} {P:X→World→Prop} {f:X→Nat} {w:World} {x:X} (hx:P x w):Lw P f w≤f x:=by
 have h:∃ x,P x w:=⟨x,hx⟩
 have:=(GP (fun x=>P x w) f h).choose_spec
 unfold Lw; rw [dif_pos h]; exact this.2 x hx
section
variable {w:World} {L:List aw}
theorem zQ {sz l c k:Nat} {a:Option Addr} {vs:List Value} (h:St w (own sz a l c vs :: L)) (hk:k≤l):St w (own sz (fw a 0 c sz) k c (vs.take (k * sz)) :: L):=by
 rcases da h with ⟨rfl,rfl,rfl,rfl⟩ | ⟨b,pre,cs,post,rfl,hc,h1,h2,h3⟩
 ·have:k = 0:=by omega
  subst this
  have:fw none 0 0 sz = none:=by simp [fw]
  rw [this]; simpa using h
 ·have e:fw (some (⟨b,pre.length,none⟩ : Addr)) 0 c sz = some ⟨b,pre.length,none⟩:=by
   unfold fw; split
   ·rfl
   ·simp [aH,add_lit]
  have hle:k * sz≤l * sz:=TT _ hk
  rw [e]
  refine d_ (cs:=vs.drop (k * sz) ++ cs) (post:=post) ?_ ?_ ?_ (by omega)
  ·have e2:vs.take (k * sz) ++ (vs.drop (k * sz) ++ cs ++ post) = vs ++ (cs ++ post):=by
    rw [← SI,← SI,S5,SI]
   rw [e2]; exact hc
  ·rw [SN]; omega
  ·rw [← SI,S5]; exact h2
theorem kR {a:Option Addr} {len cap hi sz:Nat} {k:Option Addr→Nat→Nat→Prop} (h1:hi≤cap) (hk:k (fw a 0 cap sz) hi cap):p8 a len cap none (some (hi:Int)) none sz k :=
 ⟨.inl rfl,.inr ⟨by show (0:Int)≤(hi:Int); omega,by show (hi:Int)≤(cap:Int); omega⟩,⟨by decide,by show (0:Int)≤(hi:Int); omega⟩,by simpa using hk⟩
theorem aD {w w' : World} (h:drawn w w'):hp w' = hp w:=by rw [show w' = _ from h]; rfl
theorem gB {L:List aw} {h:Hp} {a:Option Addr} {sz l c:Nat} {vs:List Value} (i:Nat) (hl:aE L h) (e:sR L i = own sz a l c vs:=by rfl) (hi:Nat.blt i (AG L) = true:=by rfl):gN a vs h:=by
 obtain ⟨h1,s,ha⟩:=dG i (by simpa [jd] using hi) hl
 rw [e] at ha
 exact gN.mono s (bV ha)
theorem DA (xs:List Int) (i:Nat) (v:Int):(iv xs).set i (.int .i64 v) = iv (xs.set i v):=by simp [iv,Ta]
theorem H_ {M:List aw} {n:Nat} (hn:n < M.length):M.Perm (M[n] :: (M.take n ++ M.drop (n + 1))):=by
 have e:M = M.take n ++ M[n] :: M.drop (n + 1):=by rw [← Tz hn,S5]
 exact (List.Perm.of_eq e).trans Tq
theorem set_perm {M:List aw} {n:Nat} {A:aw} (hn:n < M.length):(M.set n A).Perm (A :: (M.take n ++ M.drop (n + 1))):=by
 rw [List.set_eq_take_append_cons_drop,Sz hn]
 exact Tq
theorem St.Lx {A:aw} {M:List aw} (h:St w (A :: aT M :: L)) {n:Nat} (hn:n < M.length):St w (aT (M.set n A) :: L):=by
 have h1:=St.flat.1 h.swap
 have h2:St w ((M[n] :: (M.take n ++ M.drop (n + 1))) ++ (A :: L)):=h1.perm ((H_ hn).append_right _)
 have h3:St w ((M.take n ++ M.drop (n + 1)) ++ (A :: L)):=h2.tail
 have h4:St w ((A :: (M.take n ++ M.drop (n + 1))) ++ L):=h3.perm Tq
 exact St.flat.2 (h4.perm ((set_perm hn).symm.append_right _))
theorem St.Ly {M:List aw} {A:aw} (h:St w (aT M :: L)) {n:Nat} (hn:M[n]? = some A):St w (A :: aT (M.take n ++ M.drop (n + 1)) :: L):=by
 obtain ⟨hl,rfl⟩:=Sk.1 hn
 have h1:=St.flat.1 h
 have h2:St w ((M[n] :: (M.take n ++ M.drop (n + 1))) ++ L):=h1.perm ((H_ hl).append_right _)
 have h3:St w ((M.take n ++ M.drop (n + 1)) ++ (M[n] :: L)):=h2.perm Tq.symm
 exact (St.flat.2 h3).swap
theorem v_ {A:aw} (hA:∀ w L,St w L→St w (A :: L)):∀ (n:Nat),St w L→St w (aT (List.replicate n A) :: L)
 | 0,h=>(St.flat (M:=[])).2 h
 | n + 1,h=>by
  have h1:=St.flat.1 (v_ hA n h)
  exact (St.flat (M:=List.replicate (n + 1) A)).2 (hA _ _ h1)
theorem St.PR {w:World} {L M:List aw} {A:aw} {n:Nat} (hn:n < M.length) (h:St w (A :: aT (M.take n ++ M.drop (n + 1)) :: L)):St w (aT (M.set n A) :: L):=by
 have h1:=St.flat.1 h.swap
 have h2:St w ((A :: (M.take n ++ M.drop (n + 1))) ++ L):=h1.perm Tq
 exact St.flat.2 (h2.perm ((set_perm hn).symm.append_right _))
theorem wb (xs:List Nat) (i v:Nat):(mC xs).set i (.int .i64 (v:Int)) = mC (xs.set i v):=by simp [mC,Ta]
theorem Lz (xs:List Nat) (v:Nat):mC xs ++ [.int .i64 (v:Int)] = mC (xs ++ [v]):=by simp [mC]
theorem gk {low:List Nat} {i x:Nat} (h:low[i]? = some x):(mC low)[i]? = some (.int .i64 (x:Int)):=by simp [mC,h]
theorem NQ (ms:List Bool) (u:Nat) (b:Bool):(bv ms).set u (.bool b) = bv (ms.set u b):=by simp [bv,Ta]
theorem AV {α : Type} {l:List α} {i:Nat} {x:α} (h:l[i]? = some x):l.set i x = l:=by
 obtain ⟨h1,rfl⟩:=Sk.1 h
 exact List.set_getElem_self h1
end
section
variable {α : Type} [Inhabited α] {w:World} {L:List aw} {enc:α→Value} {blk:Nat} {d:Array α}
theorem sB (w:World) (off m:Nat) (dk:Array α) (os:Array Obj) (b:Nat) (o:Obj) (h:w.heap[b]? = some o) :
  (sortWorld enc w blk off m dk os).heap[b]? = some (if blk = b then onCells (putCells enc off dk) o else o):=by
 have hb:b < w.heap.size:=(S3.1 h).1
 unfold sortWorld grow putRow mapBlock Sort.ahead
 simp only
 rw [Array.getElem?_append_left (by simpa using hb),Td]
 split
 ·rw [h]; rfl
 ·exact h
theorem Ev.sort (w:World) (off m:Nat) (dk:Array α) (os:Array Obj):Ev w (sortWorld enc w blk off m dk os):=by
 refine ⟨rfl,rfl,rfl,?_,?_,?_⟩
 ·unfold sortWorld grow putRow mapBlock Sort.ahead; simp
 ·intro b x h; rw [sB w off m dk os b _ h]; split <;> rfl
 ·intro b x h; rw [sB w off m dk os b _ h]; split <;> rfl
theorem St.sort {cs:List Value} (h:St w (aR blk cs :: L)) (off m:Nat) (dk:Array α) (os:Array Obj):St (sortWorld enc w blk off m dk os) (aR blk (putCells enc off dk ⟨cs⟩).toList :: L):=by
 obtain ⟨e,h⟩:=iB.1 h
 have hg:=h.get
 have hs:∀ b o,hp w b = some o→b≠blk→hp (sortWorld enc w blk off m dk os) b = some o:=fun b o hb hne=>by
  have:=sB (enc:=enc) (blk:=blk) w off m dk os b o (l7 hb)
  rw [Sr (TM hne)] at this
  unfold hp; rw [this]
  unfold hp at hb
  rw [l7 hb] at hb; exact hb
 have hblk:hp (sortWorld enc w blk off m dk os) blk = some (.cells (putCells enc off dk ⟨cs⟩) e (0,0)):=by
  have:=sB (enc:=enc) (blk:=blk) w off m dk os blk _ hg
  rw [Sz rfl] at this
  unfold hp; rw [this]; rfl
 refine iB.2 ⟨e,?_⟩
 have h1:=kW (h:=hp w) (h':=fun k=>if k = blk then some (.cells (putCells enc off dk ⟨cs⟩) e (0,0)) else hp w k) (o':=.cells (putCells enc off dk ⟨cs⟩) e (0,0)) h (fun k hk=>by simp [hk]) (by simp)
 refine dY h1 fun k o hk=>?_
 split at hk
 ·rename_i e'; subst e'; cases hk; exact hblk
 ·rename_i hne; exact hs k o hk hne
theorem we (pre post:List Value) (d d' : Array α) (hs:d'.size = d.size):(putCells enc pre.length d' ⟨pre ++ (d.toList.map enc ++ post)⟩).toList = pre ++ (d'.toList.map enc ++ post):=by
 have l1:(d.toList.map enc).length = d.size:=by simp
 have l2:(d'.toList.map enc).length = d.size:=by simp [hs]
 apply Tb
 intro k
 simp only [putCells,Array.toList_mapIdx,List.getElem?_mapIdx]
 by_cases h1:k < pre.length
 ·rw [Sw h1,Sw h1,Sm h1,Tf,Sr (by omega)]
 ·rw [SC (TH h1),SC (TH h1)]
  by_cases h2:k - pre.length < d.size
  ·rw [Sw (l₁:=d.toList.map enc) (by omega),Sw (l₁:=d'.toList.map enc) (by omega),Sm (l:=d.toList.map enc) (by omega),Sm (l:=d'.toList.map enc) (by omega)]
   simp only [Tf]
   rw [Sz ⟨by omega,by omega⟩,getElem!_pos d' _ (by omega)]
   simp
  ·rw [SC (l₁:=d.toList.map enc) (by omega),SC (l₁:=d'.toList.map enc) (by omega),l1,l2]
   cases post[k - pre.length - d.size]? with
   | none=>rfl
   | some v=>rw [Tf,Sr (by omega)]
theorem NR {a:Option Addr} {l c:Nat} (h:St w (own 1 a l c (d.toList.map enc) :: L)) (hl:0 < l) :
  ∃ b off,a = some ⟨b,off,none⟩∧l = d.size∧Holds enc w b off d∧b < w.heap.size ∧
   (∀ (m:Nat) (os:Array Obj) (d' : Array α),d'.size = d.size→St (sortWorld enc w b off m d' os) (own 1 a l c (d'.toList.map enc) :: L)):=by
 rcases da h with ⟨_,h2,_⟩ | ⟨b,pre,cs,post,rfl,hc,h1,h2,h3⟩
 ·omega
 ·have hsz:l = d.size:=by simp at h1; omega
  refine ⟨b,pre.length,rfl,hsz,?_,?_,?_⟩
  ·intro j hj
   refine ⟨?_,hc.frozen _ _⟩
   rw [hc.cell,SC (by omega),Tr,Sw (by simpa using hj),Sn,Sm (by simpa using hj),getElem!_pos d j hj]
   simp
  ·obtain ⟨e,h⟩:=iB.1 hc
   exact (S3.1 h.get).1
  ·intro m os d' hs
   have h5:=hc.sort (enc:=enc) pre.length m d' os
   rw [we pre (cs ++ post) d d' hs] at h5
   refine d_ h5 ?_ ?_ h3
   ·simp [hs]; omega
   ·simp at h2 ⊢; omega
end
theorem wg {w:World} {b o:Nat}:∀ (vs:List Value) (i:Nat),gZ w ⟨b,0,none⟩ (o + i) vs→gZ w ⟨b,o,none⟩ i vs
 | [],i,_=>trivial
 | v :: vs,i,⟨h1,h2,h3,h4⟩=>by
  rw [aO] at h2 h3
  refine ⟨h1,?_,?_,wg vs (i + 1) h4⟩
  ·rw [add_lit]; exact h2
  ·rw [add_lit]; exact h3
theorem wh {b o:Nat}:∀ (vs:List Value) (i:Nat) (w:World),bZ w ⟨b,o,none⟩ i vs = bZ w ⟨b,0,none⟩ (o + i) vs
 | [],i,w=>rfl
 | v :: vs,i,w=>by
  simp only [bZ]
  rw [add_lit,aO,wh vs (i + 1)]
  rfl
theorem Ia {w:World} {L:List aw} {sz l c i:Nat} {a:Option Addr} {ad:Addr} {us vs:List Value} {k:World→Prop} (h:St w (own sz a l c us :: L)) (ha:a = some ad) (hi:i + vs.length≤us.length) (h1:∀ v∈vs,aS v = true) (h0:0 < vs.length)
  (hk:∀ w',St w' (own sz a l c (us.take i ++ vs ++ us.drop (i + vs.length)) :: L)→k w'):iA w (ad.add i) vs k:=by
 rcases da h with ⟨rfl,_,_,_⟩ | ⟨b,pre,cs,post,rfl,hc,e1,e2,e3⟩
 ·cases ha
 ·cases ha
  rw [add_lit]
  have hl:(pre.length + i) + vs.length≤(pre ++ (us ++ (cs ++ post))).length:=by simp only [Sx]; omega
  refine ⟨wg vs 0 (uy hc vs _ hl h1),fun w' hw=>?_⟩
  subst hw
  rw [wh]
  have h2:=qB vs _ (pre.length + i) hl hc
  refine hk _ ?_
  have e:(pre ++ (us ++ (cs ++ post))).take (pre.length + i) ++ vs ++ (pre ++ (us ++ (cs ++ post))).drop (pre.length + i + vs.length) = pre ++ ((us.take i ++ vs ++ us.drop (i + vs.length)) ++ (cs ++ post)):=by
   rw [List.take_append,SD (by omega),Tr,List.take_append_of_le_length (by omega)]
   rw [show pre.length + i + vs.length = pre.length + (i + vs.length) from by omega,List.drop_append,List.drop_of_length_le (by omega),Tr,List.drop_append_of_le_length (by omega)]
   simp
  rw [e] at h2
  have el:(us.take i ++ vs ++ us.drop (i + vs.length)).length = us.length:=by simp only [Sx,SN,TO]; omega
  refine d_ h2 (by rw [el]; exact e1) ?_ e3
  rw [Sx,el,← Sx]; exact e2
end Go.V
namespace Go.V
structure aj where
 prod:Int
 dot:Int
deriving DecidableEq
instance:nI aj:={ n:=2,rd:=fun _ x vs=>vs = [.int .i64 x.prod,.int .i64 x.dot],mono:=fun _ h=>h,len:=fun h=>by rw [h]; rfl }
def aj.lt (x y:aj):Prop:=x.prod < y.prod∨x.prod = y.prod∧x.dot < y.dot
instance (x y:aj):Decidable (x.lt y):=inferInstanceAs (Decidable (_∨_))
theorem aj.ext' {x y:aj} (h1:x.prod = y.prod) (h2:x.dot = y.dot):x = y:=by cases x; cases y; cases h1; cases h2; rfl
theorem aj.lt_irrefl (x:aj):¬x.lt x:=by unfold aj.lt; omega
theorem aj.lt_trans {x y z:aj} (h1:x.lt y) (h2:y.lt z):x.lt z:=by unfold aj.lt at *; omega
theorem aj.Ib {x y:aj} (h:x≠y):x.lt y∨y.lt x:=by
 unfold aj.lt
 by_cases h1:x.prod = y.prod
 ·have h2:x.dot≠y.dot:=fun h2=>h (aj.ext' h1 h2)
  omega
 ·omega
abbrev gC (l:List aj):Prop:=l.Pairwise aj.lt
def qD (x:aj):List aj→List aj
 | []=>[x]
 | y :: l=>if x = y then y :: l else if x.lt y then x :: y :: l else y :: qD x l
def lay (l:List aj):List aj:=l.foldl (fun out x=>qD x out) []
theorem qE {x y:aj}:∀ {l:List aj},y∈qD x l↔y = x∨y∈l
 | []=>by simp [qD]
 | z :: l=>by
  unfold qD
  split
  ·rename_i h; subst h; simp
  ·split
   ·simp
   ·rw [SA,qE,SA]
    constructor
    ·rintro (h | h | h)
     ·exact .inr (.inl h)
     ·exact .inl h
     ·exact .inr (.inr h)
    ·rintro (h | h | h)
     ·exact .inr (.inl h)
     ·exact .inl h
     ·exact .inr (.inr h)
theorem wi {x:aj}:∀ {l:List aj},gC l→gC (qD x l)
 | [],_=>by simp [qD]
 | z :: l,h=>by
  unfold qD
  have h':=Tu.1 h
  split
  ·exact h
  ·rename_i hne
   split
   ·rename_i hlt
    exact Tu.2 ⟨fun y hy=>by
     rcases SA.1 hy with rfl | hy
     ·exact hlt
     ·exact aj.lt_trans hlt (h'.1 y hy),h⟩
   ·rename_i hnl
    refine Tu.2 ⟨fun y hy=>?_,wi h'.2⟩
    rcases qE.1 hy with rfl | hy
    ·exact (aj.Ib hne).resolve_left hnl
    ·exact h'.1 y hy
theorem foldI (l:List aj):∀ out,gC out→gC (l.foldl (fun out x=>qD x out) out)∧∀ y,y∈l.foldl (fun out x=>qD x out) out↔y∈out∨y∈l:=by
 induction l with
 | nil=>exact fun out h=>⟨h,fun y=>by simp⟩
 | cons x l ih =>
  intro out h
  obtain ⟨h1,h2⟩:=ih _ (wi (x:=x) h)
  refine ⟨h1,fun y=>?_⟩
  show y∈l.foldl (fun out x=>qD x out) (qD x out)↔_
  rw [h2,qE,SA]
  constructor
  ·rintro ((h | h) | h)
   ·exact .inr (.inl h)
   ·exact .inl h
   ·exact .inr (.inr h)
  ·rintro (h | h | h)
   ·exact .inl (.inr h)
   ·exact .inl (.inl h)
   ·exact .inr h
theorem ew (l:List aj):gC (lay l):=(foldI l [] .nil).1
theorem dN {l:List aj} {y:aj}:y∈lay l↔y∈l:=by have:=(foldI l [] .nil).2 y; simpa [lay] using this
theorem gC.nodup {l:List aj} (h:gC l):l.Nodup:=TI.2 (h.imp fun h e=>by subst e; exact aj.lt_irrefl _ h)
theorem gC.one {l m:List aj} (h:gC l) (h' : gC m) (he:∀ x,x∈l↔x∈m):l = m:=by
 have p:l.Perm m:=(List.perm_ext_iff_of_nodup h.nodup h'.nodup).2 he
 refine List.Perm.eq_of_pairwise (le:=fun x y=>aj.lt x y∨x = y) (fun a b _ _ h1 h2=>?_) (h.imp .inl) (h'.imp .inl) p
 rcases h1 with h1 | h1
 ·rcases h2 with h2 | h2
  ·exact absurd (aj.lt_trans h1 h2) (aj.lt_irrefl _)
  ·exact h2.symm
 ·exact h1
theorem mK {l:List aj} (h:gC l):lay l = l:=(ew l).one h fun _=>dN
theorem GQ {l m:List aj} (h:gC m) (he:∀ x,x∈m↔x∈l):lay l = m:=(ew l).one h fun x=>by rw [dN,he]
def mL (g:af) (x:aj):Prop:=0≤x.prod∧0≤x.dot∧∃ p,g.prods[x.prod.toNat]? = some p∧x.dot≤p.right.length
def dO (g:af) (x:aj):Int :=
 match g.prods[x.prod.toNat]? with
 | none=>-1
 | some p=>p.right.getD x.dot.toNat (-1)
theorem qF {g:af} {x:aj} {p:aJ} (h:g.prods[x.prod.toNat]? = some p):dO g x = p.right.getD x.dot.toNat (-1):=by unfold dO; rw [h]
inductive zq (g:af) (I:List aj):aj→Prop
 | base {x:aj}:x∈I→zq g I x
 | step {y:aj} {i:Nat} {p:aJ}:zq g I y→0≤dO g y→g.prods[i]? = some p→p.left = dO g y→zq g I ⟨i,0⟩
def B7 (g:af) (l:List aj):List aj:=((List.range g.prods.length).filter fun i=>l.any fun y=>decide (0≤dO g y) && decide ((g.prods[i]?.map aJ.left) = some (dO g y))).map fun i:Nat=>⟨(i:Int),0⟩
def BG (g:af) (I:List aj):Nat→List aj
 | 0=>lay I
 | k + 1=>lay (BG g I k ++ B7 g (BG g I k))
def cls (g:af) (I:List aj):List aj:=BG g I g.prods.length
section
variable {g:af} {I l:List aj} {x y:aj} {k:Nat}
theorem AW:x∈B7 g l↔∃ (i:Nat) (p:aJ) (y:aj),x = ⟨i,0⟩∧g.prods[i]? = some p∧y∈l∧0≤dO g y∧p.left = dO g y:=by
 unfold B7
 rw [SG]
 constructor
 ·rintro ⟨i,hi,rfl⟩
  rw [S7,TP] at hi
  obtain ⟨h1,y,hy,h2⟩:=hi
  rw [SB,Sy,Sy] at h2
  rw [SO] at h1
  refine ⟨i,g.prods[i],y,rfl,Sm h1,hy,h2.1,?_⟩
  have:=h2.2
  rw [Sm h1] at this
  exact Option.some.inj this
 ·rintro ⟨i,p,y,rfl,hp,hy,h1,h2⟩
  refine ⟨i,S7.2 ⟨SO.2 (Sk.1 hp).1,TP.2 ⟨y,hy,?_⟩⟩,rfl⟩
  rw [SB,Sy,Sy,hp]
  exact ⟨h1,by rw [← h2]; rfl⟩
theorem DB:∀ k,gC (BG g I k)
 | 0=>ew _
 | _ + 1=>ew _
theorem qG:x∈BG g I (k + 1)↔x∈BG g I k∨x∈B7 g (BG g I k):=by
 show x∈lay _↔_
 rw [dN,Sp]
theorem xL:∀ k x,x∈BG g I k→zq g I x
 | 0,x,h=>.base (dN.1 h)
 | k + 1,x,h=>by
  rcases qG.1 h with h | h
  ·exact xL k x h
  ·obtain ⟨i,p,y,rfl,hp,hy,h1,h2⟩:=AW.1 h
   exact .step (xL k y hy) h1 hp h2
theorem E6:∀ k,∀ x∈I,x∈BG g I k
 | 0,x,h=>dN.2 h
 | k + 1,x,h=>qG.2 (.inl (E6 k x h))
def GR (g:af) (I:List aj) (k:Nat):List Nat:=(List.range g.prods.length).filter fun i=>decide ((⟨i,0⟩ : aj)∈BG g I k)
theorem Q1:∀ {l m:List Nat},l.Nodup→(∀ x∈l,x∈m)→l.length≤m.length
 | [],m,_,_=>Sv _
 | a :: l,m,h,hs=>by
  obtain ⟨m1,m2,rfl⟩:=TQ (hs a (by simp))
  rw [Te] at h
  have:=Q1 (l:=l) (m:=m1 ++ m2) h.2 fun x hx=>by
   have h1:=hs x (by simp [hx])
   rw [Sp,SA] at h1
   rw [Sp]
   rcases h1 with h1 | rfl | h1
   ·exact .inl h1
   ·exact absurd hx h.1
   ·exact .inr h1
  simp at this ⊢; omega
theorem NS (h:∀ x∈B7 g (BG g I k),x∈BG g I k):BG g I (k + 1) = BG g I k:=(DB _).one (DB _) fun x=>by
 rw [qG]; exact ⟨fun h1=>h1.elim id (h x),.inl⟩
theorem LA:∀ k,(∀ x∈B7 g (BG g I k),x∈BG g I k)∨k + 1≤(GR g I (k + 1)).length:=by
 have grow:∀ k,¬(∀ x∈B7 g (BG g I k),x∈BG g I k)→(GR g I k).length + 1≤(GR g I (k + 1)).length:=by
  intro k hk
  have ⟨x,hx⟩:=Classical.not_forall.1 hk
  have ⟨h1,h2⟩:=Classical.not_imp.1 hx
  obtain ⟨i,p,y,rfl,hp,_⟩:=AW.1 h1
  have hn:i∉GR g I k:=fun h=>h2 (by have:=(S7.1 h).2; exact Si this)
  have:=Q1 (l:=i :: GR g I k) (m:=GR g I (k + 1)) (Te.2 ⟨hn,List.nodup_range.filter _⟩) fun z hz=>by
   refine S7.2 ?_
   rcases SA.1 hz with rfl | hz
   ·exact ⟨SO.2 (Sk.1 hp).1,S2 (qG.2 (.inr h1))⟩
   ·obtain ⟨q1,q2⟩:=S7.1 hz
    exact ⟨q1,S2 (qG.2 (.inl (Si q2)))⟩
  simpa using this
 intro k
 induction k with
 | zero =>
  by_cases h:∀ x∈B7 g (BG g I 0),x∈BG g I 0
  ·exact .inl h
  ·have:=grow 0 h; exact .inr (by omega)
 | succ k ih =>
  by_cases h:∀ x∈B7 g (BG g I (k + 1)),x∈BG g I (k + 1)
  ·exact .inl h
  ·rcases ih with ih | ih
   ·rw [NS ih] at h; exact absurd ih h
   ·have:=grow (k + 1) h; exact .inr (by omega)
theorem GS:∀ x∈B7 g (cls g I),x∈cls g I:=by
 rcases LA (g:=g) (I:=I) g.prods.length with h | h
 ·exact h
 ·have:(GR g I (g.prods.length + 1)).length≤(List.range g.prods.length).length:=Tj _ _
  rw [Ts] at this; omega
theorem sC:x∈cls g I↔zq g I x:=by
 refine ⟨xL _ x,fun h=>?_⟩
 induction h with
 | base h=>exact E6 _ _ h
 | step _ h1 h2 h3 ih=>exact GS _ (AW.2 ⟨_,_,_,rfl,h2,ih,h1,h3⟩)
theorem DC:gC (cls g I):=DB _
theorem Ic {l:List aj} (hs:gC l) (hm:∀ x,x∈l↔zq g I x):l = cls g I:=hs.one DC fun x=>by rw [hm,sC]
def aF (g:af) (I:List aj) (s:Int):List aj:=((cls g I).filter fun x=>decide (dO g x = s)).map fun x=>⟨x.prod,x.dot + 1⟩
theorem AX {s:Int}:gC (aF g I s):=by
 unfold aF gC
 rw [T9]
 refine (DC.filter _).imp fun h=>?_
 unfold aj.lt at *
 simp only
 omega
theorem ik {s:Int}:x∈aF g I s↔∃ y,zq g I y∧dO g y = s∧x = ⟨y.prod,y.dot + 1⟩:=by
 unfold aF
 rw [SG]
 constructor
 ·rintro ⟨y,hy,rfl⟩
  obtain ⟨h1,h2⟩:=S7.1 hy
  exact ⟨y,sC.1 h1,Si h2,rfl⟩
 ·rintro ⟨y,h1,h2,rfl⟩
  exact ⟨y,S7.2 ⟨sC.2 h1,S2 h2⟩,rfl⟩
end
end Go.V
namespace Go.V
structure aL where
 sym:Int
 to:Int
deriving DecidableEq
instance:nI aL:={ n:=2,rd:=fun _ x vs=>vs = [.int .i64 x.sym,.int .i64 x.to],mono:=fun _ h=>h,len:=fun h=>by rw [h]; rfl }
abbrev cf:=List aj
def oM (st:List cf) (k:cf):List cf:=if k∈st then st else st ++ [k]
def bp (g:af) (K:cf):List Nat:=(List.range (g.T + g.N)).filter fun s=>decide (aF g K s≠[])
def ju (g:af) (K:cf) (l:List Nat) (acc:List cf × List aL):List cf × List aL :=
 l.foldl (fun (acc:List cf × List aL) (s:Nat)=>(oM acc.1 (aF g K (s:Int)),acc.2 ++ [⟨(s:Int),(acc.1.idxOf (aF g K (s:Int)):Int)⟩])) acc
def ct (g:af):Nat→List cf × List (List aL)
 | 0=>([[⟨0,0⟩]],[])
 | i + 1=>match (ct g i).1[i]? with
  | none=>ct g i
  | some K=>((ju g K (bp g K) ((ct g i).1,[])).1,(ct g i).2 ++ [(ju g K (bp g K) ((ct g i).1,[])).2])
structure AY (g:af) (st:List cf):Prop where
 nd:st.Nodup
 ne:∀ K∈st,K≠[]
 QJ:∀ K∈st,gC K
 fit:∀ K∈st,∀ x∈K,mL g x
 dots:∀ (j:Nat) (K:cf),st[j]? = some K→∀ x∈K,x.dot≤j
section
variable {g:af} {I K k:cf} {st:List cf} {i j s:Nat} {x y:aj} {acc:List cf × List aL}
theorem zq.fit (h:zq g I x) (hI:∀ x∈I,mL g x):mL g x:=by
 induction h with
 | base h=>exact hI _ h
 | @step y i p _ _ hp _ _=>exact ⟨S_ _,Int.le_refl _,p,by simpa using hp,by simp⟩
theorem zq.dot {d:Int} (h:zq g I x) (hI:∀ x∈I,x.dot≤d) (hd:0≤d):x.dot≤d:=by
 induction h with
 | base h=>exact hI _ h
 | step _ _ _ _ _=>exact hd
theorem GU {s:Int} (h:mL g x) (ha:dO g x = s) (hs:0≤s):∃ p,g.prods[x.prod.toNat]? = some p∧x.dot < p.right.length∧p.right[x.dot.toNat]? = some s:=by
 obtain ⟨_,h1,p,hp,h2⟩:=h
 rw [qF hp,Sq] at ha
 cases hg:p.right[x.dot.toNat]? with
 | none=>rw [hg] at ha; simp at ha; omega
 | some v =>
  rw [hg] at ha; simp at ha; subst ha
  have:=(Sk.1 hg).1
  exact ⟨p,hp,by omega,hg⟩
theorem AZ {s:Int} (hI:∀ x∈I,mL g x) (hs:0≤s):∀ x∈aF g I s,mL g x:=fun x hx=>by
 obtain ⟨y,h1,h2,rfl⟩:=ik.1 hx
 have hy:=h1.fit hI
 obtain ⟨p,hp,h3,_⟩:=GU hy h2 hs
 exact ⟨hy.1,by have:=hy.2.1; show 0≤y.dot + 1; omega,p,hp,by show y.dot + 1≤_; omega⟩
theorem DD:K∈oM st k↔K∈st∨K = k:=by
 unfold oM; split
 ·rename_i h; exact ⟨.inl,fun h'=>h'.elim id fun e=>e ▸ h⟩
 ·simp
theorem Ie (h:st[i]? = some K):(oM st k)[i]? = some K:=by
 unfold oM; split
 ·exact h
 ·rw [Sw (Sk.1 h).1]; exact h
theorem AY.start (hp:0 < g.prods.length):AY g [[⟨0,0⟩]]:=by
 refine ⟨by simp,by simp,by simp,fun K hK x hx=>?_,fun j K hj x hx=>?_⟩
 ·simp at hK; subst hK; simp at hx; subst hx
  exact ⟨Int.le_refl _,Int.le_refl _,g.prods[0],Sm hp,by simp⟩
 ·cases j with
  | zero=>simp at hj; subst hj; simp at hx; subst hx; simp
  | succ j=>simp at hj
theorem AY.put (h:AY g st) (hK:st[i]? = some K) (hs:aF g K (s:Int)≠[]):AY g (oM st (aF g K (s:Int))):=by
 have hm:=Sl hK
 have hil:=(Sk.1 hK).1
 refine ⟨?_,fun L hL=>?_,fun L hL=>?_,fun L hL=>?_,fun j L hL x hx=>?_⟩
 ·unfold oM; split
  ·exact h.nd
  ·rename_i hn
   rw [SX]
   exact ⟨h.nd,by simp,fun a ha b hb e=>by simp at hb; subst hb; subst e; exact hn ha⟩
 ·rcases DD.1 hL with hL | rfl
  ·exact h.ne L hL
  ·exact hs
 ·rcases DD.1 hL with hL | rfl
  ·exact h.QJ L hL
  ·exact AX
 ·rcases DD.1 hL with hL | rfl
  ·exact h.fit L hL
  ·exact AZ (h.fit K hm) (S_ _)
 ·unfold oM at hL
  split at hL
  ·exact h.dots j L hL x hx
  ·by_cases e:j < st.length
   ·rw [Sw e] at hL
    exact h.dots j L hL x hx
   ·have hl:=(Sk.1 hL).1
    rw [Sx,T5] at hl
    have e2:j = st.length:=by omega
    subst e2
    rw [SC (SF _),Tx] at hL
    simp at hL; subst hL
    obtain ⟨y,h1,_,rfl⟩:=ik.1 hx
    have:=h1.dot (h.dots i K hK) (S_ _)
    show y.dot + 1≤_
    omega
theorem wj {l:List Nat}:ju g K (l ++ [s]) acc = (oM (ju g K l acc).1 (aF g K s),(ju g K l acc).2 ++ [⟨s,(ju g K l acc).1.idxOf (aF g K s)⟩]):=by
 unfold ju; rw [List.foldl_append]; rfl
theorem E7 {l:List Nat} (h:l[j]? = some s):ju g K (l.take (j + 1)) acc = (oM (ju g K (l.take j) acc).1 (aF g K s),(ju g K (l.take j) acc).2 ++ [⟨s,(ju g K (l.take j) acc).1.idxOf (aF g K s)⟩]):=by
 rw [Su,h,Ti,wj]
theorem NT (h:AY g st) (hK:st[i]? = some K):∀ (l:List Nat),(∀ s∈l,aF g K (s:Int)≠[])→∀ es,AY g (ju g K l (st,es)).1∧(ju g K l (st,es)).1[i]? = some K:=by
 have key:∀ (l:List Nat),(∀ s∈l,aF g K (s:Int)≠[])→∀ st es,AY g st→st[i]? = some K→AY g (ju g K l (st,es)).1∧(ju g K l (st,es)).1[i]? = some K:=by
  intro l
  induction l with
  | nil=>exact fun _ st es h hK=>⟨h,hK⟩
  | cons s l ih =>
   intro hl st es h hK
   exact ih (fun z hz=>hl z (by simp [hz])) _ _ (h.put hK (hl s (by simp))) (Ie hK)
 exact fun l hl es=>key l hl st es h hK
theorem qH:∀ (l:List Nat) (st:List cf) (es:List aL) (j:Nat) (L:cf),st[j]? = some L→(ju g K l (st,es)).1[j]? = some L
 | [],_,_,_,_,h=>h
 | s :: l,st,es,j,L,h=>qH l _ _ j L (Ie h)
theorem E8 {st st' : List cf} (h:∀ (j:Nat) (L:cf),st[j]? = some L→st'[j]? = some L):st.length≤st'.length:=by
 refine Tl fun hc=>?_
 have:=h st'.length _ (Sm (by omega))
 rw [SH (SF _)] at this
 cases this
theorem sD:∀ s∈bp g K,aF g K (s:Int)≠[]:=fun s hs=>Si (S7.1 hs).2
theorem dD (h:(ct g i).1[i]? = some K):ct g (i + 1) = ((ju g K (bp g K) ((ct g i).1,[])).1,(ct g i).2 ++ [(ju g K (bp g K) ((ct g i).1,[])).2]):=by
 show (match (ct g i).1[i]? with | none=>_ | some K=>_) = _
 rw [h]
theorem mM (h:(ct g i).1[i]? = none):ct g (i + 1) = ct g i:=by
 show (match (ct g i).1[i]? with | none=>_ | some K=>_) = _
 rw [h]
theorem jf (hp:0 < g.prods.length):∀ i,AY g (ct g i).1
 | 0=>AY.start hp
 | i + 1=>by
  cases h:(ct g i).1[i]? with
  | none=>rw [mM h]; exact jf hp i
  | some K=>rw [dD h]; exact (NT (jf hp i) h _ sD _).1
theorem JK (i j:Nat) (L:cf) (h:(ct g i).1[j]? = some L):(ct g (i + 1)).1[j]? = some L:=by
 cases hi:(ct g i).1[i]? with
 | none=>rw [mM hi]; exact h
 | some K=>rw [dD hi]; exact qH _ _ _ _ _ h
theorem wm {i i' : Nat} (hi:i≤i') (j:Nat) (L:cf) (h:(ct g i).1[j]? = some L):(ct g i').1[j]? = some L:=by
 induction hi with
 | refl=>exact h
 | step _ ih=>exact JK _ _ _ ih
theorem DE:∀ i,i≤(ct g i).1.length→(ct g i).2.length = i
 | 0,_=>rfl
 | i + 1,h=>by
  cases hi:(ct g i).1[i]? with
  | none =>
   rw [mM hi] at h
   rw [List.getElem?_eq_none_iff] at hi
   omega
  | some K =>
   have:=DE i (by have:=(Sk.1 hi).1; omega)
   rw [dD hi]; simp [this]
def E9 (g:af) (n:Nat):Prop:=(ct g n).1.length = n∧n≤256∧∀ i,i < n→i < (ct g i).1.length
def NU (g:af):Prop:=∃ i K k,(ct g i).1[i]? = some K∧(∀ j,j≤i→j < (ct g j).1.length)∧256 < (ju g K ((bp g K).take k) ((ct g i).1,[])).1.length
theorem E_ {n m:Nat} (h:E9 g n) (h' : E9 g m):n = m:=by
 rcases Nat.lt_trichotomy n m with e | e | e
 ·have:=h'.2.2 n e; have:=h.1; omega
 ·exact e
 ·have:=h.2.2 m e; have:=h'.1; omega
theorem LB (l:List Nat) (k:Nat) (es:List aL):(ju g K (l.take k) (st,es)).1.length≤(ju g K l (st,es)).1.length:=by
 have e:ju g K l (st,es) = ju g K (l.drop k) (ju g K (l.take k) (st,es)):=by
  unfold ju; rw [← List.foldl_append,S5]
 rw [e]
 exact E8 fun j L h=>qH _ _ _ _ _ h
theorem A0 {n:Nat} (h:E9 g n) (h' : NU g):False:=by
 obtain ⟨i,K,k,hK,hj,hb⟩:=h'
 have hin:i < n:=by
  refine Tl fun hc=>?_
  have:=hj n (by omega)
  have:=h.1; omega
 have h1:=LB (g:=g) (K:=K) (st:=(ct g i).1) (bp g K) k []
 have h2:(ct g (i + 1)).1.length≤(ct g n).1.length:=E8 fun j L hL=>wm (by omega) j L hL
 rw [dD hK] at h2
 have:=h.1
 have:=h.2.1
 simp only at h2
 omega
end
end Go.V
namespace Go.Proofs.YtngdohpikfcifaaGreatDoor
open Go.V
abbrev yQ:FuncId:=28
def B8:bj:={ rngs:=[],loops:=[(7,[(6,(.one (.int .i64)))]),(12,[(8,(.one .slice))]),(18,[(10,(.one .slice)),(61,(.one (.int .i64)))])],joins:=[],blocks:=[] }
def DF (a:Option Addr) (b c:Nat) (d:Option Addr) (e f:Nat) (g:Option Addr) (i j:Nat) (k:Int) (l:Option Addr) (m n:Nat) (w:World) (R:Value→WP):Prop :=  new w (oC [vS a b c,vS d e f,vS g i j,iI k,vS l m n] 27) fun k1 w1=>new w1 (oC [vS none 0 0,iI 0,iI 0] 63) fun k2 w2=>∃ o1 k3 k4 o2 k5 k6 o3 k7 k8 n1 o4 k9 k10,V.rowAt w2 (aM k1) 0 5 = some [vS o1 k3 k4,vS o2 k5 k6,vS o3 k7 k8,iI n1,vS o4 k9 k10]∧au Proofs.Tryz.prog Ev 60 [vA (Array.mk [vS o1 k3 k4,vS o2 k5 k6,vS o3 k7 k8,iI n1,vS o4 k9 k10])] w2 fun v1 w3=>∃ b1,v1 = vB b1∧br (!b1) (iA w3 (aM k2) [vS none 0 0,iI 0,iI 0] fun w4=>∃ o5 k11 k12 n2 n3,V.rowAt w4 (aM k2) 0 3 = some [vS o5 k11 k12,iI n2,iI n3]∧R (vT (Array.mk [vA (Array.mk [vS o5 k11 k12,iI n2,iI n3]),iI 1])) w4) (∃ o6 k13 k14 o7 k15 k16 o8 k17 k18 n4 o9 k19 k20,V.rowAt w3 (aM k1) 0 5 = some [vS o6 k13 k14,vS o7 k15 k16,vS o8 k17 k18,iI n4,vS o9 k19 k20]∧au Proofs.Tryz.prog Ev 61 [vA (Array.mk [vS o6 k13 k14,vS o7 k15 k16,vS o8 k17 k18,iI n4,vS o9 k19 k20])] w3 fun v2 w5=>∃ o10,v2 = vP o10∧new w5 (Obj.map (Array.mk []) 0) fun k21 w6=>new w6 (oC [vS none 0 0,iI 0,iI 0,Value.map (some k21)] 135) fun k22 w7=>new w7 (oC [iI 0,iI 0] 76) fun k23 w8=>au Proofs.Tryz.prog Ev 62 [vP (some (aM k22)),vS (some (aM k23)) 1 1] w8 fun v3 w9=>∃ n5,v3 = iI n5∧∃ (x1:lP [(6,aI)]),∃ (x2:lN [(6,aI)]),x1 0 w9∧∀ (I1:Nat→Value) (n6:Int) (w10:World),x1 n6 w10→∃ o11 k24 k25,World.cell? w10 (aM k22) = some (vS o11 k24 k25)∧br (decide (n6 < (↑k24:Int))) (∃ o12 k26 k27,World.cell? w10 (aM k22) = some (vS o12 k26 k27)∧idx o12 k26 n6 2 fun a1=>∃ o13 k28 k29,World.cell? w10 a1 = some (vS o13 k28 k29)∧au Proofs.Tryz.prog Ev 63 [vP o10,vS o13 k28 k29] w10 fun v4 w11=>∃ o14,v4 = Value.map o14∧az Proofs.Tryz.prog (Instr.range 137 (Value.map o14)) w11 fun v5 w12=>∃ o15,v5 = vP o15∧∃ (x3:lP [(8,js)]),∃ (x4:lN [(8,js)]),x3 none 0 0 w12∧∀ (I2:Nat→Value) (o16:Option Addr) (k30 k31:Nat) (w13:World),x3 o16 k30 k31 w13→az Proofs.Tryz.prog (Instr.next (vP o15) false 0) w13 fun v6 w14=>(v6 = vT (Array.mk [vB false])∧au Proofs.Tryz.prog Ev 64 [vS o16 k30 k31] w14 fun v7 w15=>v7 = vT (Array.mk [])∧∃ (x5:lP [(10,js),(61,aI)]),∃ (x6:lN [(10,js),(61,aI)]),x5 none 0 0 0 w15∧∀ (I3:Nat→Value) (o17:Option Addr) (k32 k33:Nat) (n7:Int) (w16:World),x5 o17 k32 k33 n7 w16→br (decide (n7 < (↑k30:Int))) (idx o16 k30 n7 1 fun a2=>∃ n8,World.cell? w16 a2 = some (iI n8)∧az Proofs.Tryz.prog (Instr.lookup 137 (Value.map o14) (iI n8) false) w16 fun v8 w17=>∃ o18 k34 k35,v8 = vS o18 k34 k35∧au Proofs.Tryz.prog Ev 65 [vS o18 k34 k35] w17 fun v9 w18=>∃ o19 k36 k37,v9 = vS o19 k36 k37∧au Proofs.Tryz.prog Ev 62 [vP (some (aM k22)),vS o19 k36 k37] w18 fun v10 w19=>∃ n9,v10 = iI n9∧new w19 (oC [iI n8,iI n9] 101) fun k38 w20=>az Proofs.Tryz.prog (f_ 69 (Array.mk [vS o17 k32 k33,vS (some (aM k38)) 1 1])) w20 fun v11 w21=>∃ o20 k39 k40,v11 = vS o20 k39 k40∧∃ o21 k41 k42,World.cell? w21 (aM k22) = some (vS o21 k41 k42)∧br (decide (256 < (↑k41:Int))) (iA w21 (aM k2) [vS none 0 0,iI 0,iI 0] fun w22=>∃ o22 k43 k44 n10 n11,V.rowAt w22 (aM k2) 0 3 = some [vS o22 k43 k44,iI n10,iI n11]∧R (vT (Array.mk [vA (Array.mk [vS o22 k43 k44,iI n10,iI n11]),iI 11])) w22) (aG (n7 + 1)∧x5 o20 k39 k40 (n7 + 1) w21∧x6 o20 k39 k40 (n7 + 1) w21 < x6 o17 k32 k33 n7 w16)) (∀ w23,drawn w16 w23→∃ (I4:World→Prop),I4 w23∧∃ o23 k45 k46,(∀ w24,I4 w24→World.cell? w24 (aM k22) = some (vS o23 k45 k46))∧au Proofs.Tryz.prog Ev 66 [vS o17 k32 k33] w23 fun v12 w25=>∃ o24 k47 k48,v12 = vS o24 k47 k48∧I4 w25∧idx o23 k45 n6 2 fun a3=>st1 w25 (Addr.add a3 1) (vS o24 k47 k48) fun w26=>aG (n6 + 1)∧x1 (n6 + 1) w26∧x2 (n6 + 1) w26 < x2 n6 w10))∨∃ n12 v13,v6 = vT (Array.mk [vB true,iI n12,v13])∧az Proofs.Tryz.prog (Instr.entry (vP o15)) w14 fun v14 w27=>∃ n13 v15,v14 = vT (Array.mk [iI n13,v15])∧new w27 (oC [iI n13] 3) fun k49 w28=>az Proofs.Tryz.prog (f_ 24 (Array.mk [vS o16 k30 k31,vS (some (aM k49)) 1 1])) w28 fun v16 w29=>∃ o25 k50 k51,v16 = vS o25 k50 k51∧x3 o25 k50 k51 w29∧x4 o25 k50 k51 w29 < x4 o16 k30 k31 w13) (∃ o26 k52 k53,World.cell? w10 (aM k22) = some (vS o26 k52 k53)∧au Proofs.Tryz.prog Ev 67 [vS o26 k52 k53] w10 fun v17 w30=>∃ o27 k54 k55,v17 = vS o27 k54 k55∧st1 w30 (aM k22) (vS o27 k54 k55) fun w31=>∃ o28 k56 k57 n14 n15,V.rowAt w31 (aM k22) 0 3 = some [vS o28 k56 k57,iI n14,iI n15]∧iA w31 (aM k2) [vS o28 k56 k57,iI n14,iI n15] fun w32=>∃ o29 k58 k59 n16 n17,V.rowAt w32 (aM k2) 0 3 = some [vS o29 k58 k59,iI n16,iI n17]∧R (vT (Array.mk [vA (Array.mk [vS o29 k58 k59,iI n16,iI n17]),iI 0])) w32))
theorem B9 (a:Option Addr) (b c:Nat) (d:Option Addr) (e f:Nat) (g:Option Addr) (i j:Nat) (k:Int) (l:Option Addr) (m n:Nat) (w:World) (R:Value→WP) (h:DF a b c d e f g i j k l m n w R):aC Tryz.prog 28 [(.agg #[(.slice a b c),(.slice d e f),(.slice g i j),(.int .i64 k),(.slice l m n)])] w R:=rv Tryz.func28 B8 (by kernel_rfl) h

abbrev LC:FuncId:=61
def GV:bj:={ rngs:=[],loops:=[(3,[(13,(.one (.int .i64)))])],joins:=[],blocks:=[] }
def JL (a:Option Addr) (b c:Nat) (d:Option Addr) (e f:Nat) (g:Option Addr) (i j:Nat) (k:Int) (l:Option Addr) (m n:Nat) (w:World) (R:Value→WP):Prop :=  new w (oC [vS a b c,vS d e f,vS g i j,iI k,vS l m n] 27) fun k1 w1=>∃ o1 k2 k3 o2 k4 k5 o3 k6 k7 n1 o4 k8 k9,V.rowAt w1 (aM k1) 0 5 = some [vS o1 k2 k3,vS o2 k4 k5,vS o3 k6 k7,iI n1,vS o4 k8 k9]∧new w1 (Obj.map (Array.mk []) 0) fun k10 w2=>new w2 (oC [vS o1 k2 k3,vS o2 k4 k5,vS o3 k6 k7,iI n1,vS o4 k8 k9,Value.map (some k10)] 169) fun k11 w3=>∃ o5 k12 k13,World.cell? w3 (Addr.add (aM k1) 4) = some (vS o5 k12 k13)∧∃ (x1:lP [(13,aI)]),∃ (x2:lN [(13,aI)]),x1 0 w3∧∀ (I1:Nat→Value) (n2:Int) (w4:World),x1 n2 w4→br (decide (n2 < (↑k12:Int))) (idx o5 k12 n2 3 fun a1=>∃ n3 o6 k14 k15 n4,V.rowAt w4 a1 0 3 = some [iI n3,vS o6 k14 k15,iI n4]∧new w4 (oC [iI 0,vS none 0 0,iI 0] 55) fun k16 w5=>iA w5 (aM k16) [iI n3,vS o6 k14 k15,iI n4] fun w6=>∀ w7,drawn w6 w7→∃ (I2:World→Prop),I2 w7∧∃ o7,(∀ w8,I2 w8→World.cell? w8 (Addr.add (aM k11) 5) = some (Value.map o7))∧∃ n5,(∀ w9,I2 w9→World.cell? w9 (aM k16) = some (iI n5))∧∃ o8,(∀ w10,I2 w10→World.cell? w10 (Addr.add (aM k11) 5) = some (Value.map o8))∧∃ n6,(∀ w11,I2 w11→World.cell? w11 (aM k16) = some (iI n6))∧(az Proofs.Tryz.prog (Instr.lookup 109 (Value.map o8) (iI n6) false) w7 fun v1 w12=>∃ o9 k17 k18,v1 = vS o9 k17 k18∧I2 w12∧new w12 (oC [iI n2] 3) fun k19 w13=>I2 w13∧az Proofs.Tryz.prog (f_ 24 (Array.mk [vS o9 k17 k18,vS (some (aM k19)) 1 1])) w13 fun v2 w14=>∃ o10 k20 k21,v2 = vS o10 k20 k21∧I2 w14∧az Proofs.Tryz.prog (Instr.mapUpdate 109 (Value.map o7) (iI n5) (vS o10 k20 k21)) w14 fun (x3:Unit) (w15:World)=>aG (n2 + 1)∧x1 (n2 + 1) w15∧x2 (n2 + 1) w15 < x2 n2 w4)∧new w7 (oC [iI n2] 3) fun k22 w16=>I2 w16∧az Proofs.Tryz.prog (Instr.lookup 109 (Value.map o8) (iI n6) false) w16 fun v3 w17=>∃ o11 k23 k24,v3 = vS o11 k23 k24∧I2 w17∧az Proofs.Tryz.prog (f_ 24 (Array.mk [vS o11 k23 k24,vS (some (aM k22)) 1 1])) w17 fun v4 w18=>∃ o12 k25 k26,v4 = vS o12 k25 k26∧I2 w18∧az Proofs.Tryz.prog (Instr.mapUpdate 109 (Value.map o7) (iI n5) (vS o12 k25 k26)) w18 fun (x4:Unit) (w19:World)=>aG (n2 + 1)∧x1 (n2 + 1) w19∧x2 (n2 + 1) w19 < x2 n2 w4) (R (vP (some (aM k11))) w4)
theorem GW (a:Option Addr) (b c:Nat) (d:Option Addr) (e f:Nat) (g:Option Addr) (i j:Nat) (k:Int) (l:Option Addr) (m n:Nat) (w:World) (R:Value→WP) (h:JL a b c d e f g i j k l m n w R):aC Tryz.prog 61 [(.agg #[(.slice a b c),(.slice d e f),(.slice g i j),(.int .i64 k),(.slice l m n)])] w R:=rv Tryz.func61 GV (by kernel_rfl) h

abbrev uB:FuncId:=62
def qI:bj:={ rngs:=[],loops:=[],joins:=[(5,[])],blocks:=[] }
def tf (a b:Option Addr) (c d:Nat) (w:World) (R:Value→WP):Prop :=  nn a fun a1=>∃ n1,World.cell? w (Addr.add a1 1) = some (iI n1)∧aG (n1 + 1)∧nn a fun a2=>st1 w (Addr.add a2 1) (iI (n1 + 1)) fun w1=>au Proofs.Tryz.prog Ev 98 [vS b c d] w1 fun v1 w2=>∃ s1,v1 = Value.string s1∧∃ (x1:lP []),(∀ w3,drawn w2 w3→∃ (I1:World→Prop),I1 w3∧nn a fun a3=>∃ o1,(∀ w4,I1 w4→World.cell? w4 (Addr.add a3 3) = some (Value.map o1))∧az Proofs.Tryz.prog (Instr.lookup 133 (Value.map o1) (Value.string s1) false) w3 fun v2 w5=>∃ n2,v2 = iI n2∧∃ (I2:World→Prop),I2 w5∧(∀ w6,I2 w6→I1 w6)∧br (decide (0 < n2)) (nn a fun a4=>∃ o2 k1 k2,(∀ w7,I2 w7→World.cell? w7 a4 = some (vS o2 k1 k2))∧nn a fun a5=>∃ o3,(∀ w8,I2 w8→World.cell? w8 (Addr.add a5 3) = some (Value.map o3))∧idx b c 0 2 fun a6=>∃ n3 n4,(∀ w9,I2 w9→V.rowAt w9 a6 0 2 = some [iI n3,iI n4])∧az Proofs.Tryz.prog (Instr.lookup 133 (Value.map o3) (Value.string s1) false) w5 fun v3 w10=>∃ n5,v3 = iI n5∧∃ (I3:World→Prop),I3 w10∧(∀ w11,I3 w11→I2 w11)∧aG (n5 - 1)∧idx o2 k1 (n5 - 1) 2 fun a7=>∃ o4 k3 k4,(∀ w12,I3 w12→World.cell? w12 a7 = some (vS o4 k3 k4))∧idx o4 k3 0 2 fun a8=>∃ n6 n7,(∀ w13,I3 w13→V.rowAt w13 a8 0 2 = some [iI n6,iI n7])∧∃ v4,(∀ w14,I3 w14→Sem.run Proofs.Tryz.prog (iX BinOp.eql 76 (Operand.tmp 41) (Operand.tmp 44) (vG [iI n6,iI n7]) (vG [iI n3,iI n4])) w14 = Result.ok v4 w14)∧∃ b1,v4 = vB b1∧br b1 (nn a fun a9=>∃ o5,World.cell? w10 (Addr.add a9 3) = some (Value.map o5)∧az Proofs.Tryz.prog (Instr.lookup 133 (Value.map o5) (Value.string s1) false) w10 fun v5 w15=>∃ n8,v5 = iI n8∧aG (n8 - 1)∧R (iI (n8 - 1)) w15) (x1 w10)) (x1 w5))∧∀ (I4:Nat→Value) (w16:World),x1 w16→nn a fun a10=>∃ n9,World.cell? w16 (Addr.add a10 2) = some (iI n9)∧aG (n9 + 1)∧nn a fun a11=>st1 w16 (Addr.add a11 2) (iI (n9 + 1)) fun w17=>nn a fun a12=>∃ o6 k5 k6,World.cell? w17 a12 = some (vS o6 k5 k6)∧new w17 (oC [vS b c d,vS none 0 0] 71) fun k7 w18=>az Proofs.Tryz.prog (f_ 61 (Array.mk [vS o6 k5 k6,vS (some (aM k7)) 1 1])) w18 fun v6 w19=>∃ o7 k8 k9,v6 = vS o7 k8 k9∧nn a fun a13=>st1 w19 a13 (vS o7 k8 k9) fun w20=>∀ w21,drawn w20 w21→∃ (I5:World→Prop),I5 w21∧nn a fun a14=>∃ o8,(∀ w22,I5 w22→World.cell? w22 (Addr.add a14 3) = some (Value.map o8))∧nn a fun a15=>∃ o9 k10 k11,(∀ w23,I5 w23→World.cell? w23 a15 = some (vS o9 k10 k11))∧az Proofs.Tryz.prog (Instr.mapUpdate 133 (Value.map o8) (Value.string s1) (iI (↑k10:Int))) w21 fun (x2:Unit) (w24:World)=>nn a fun a16=>∃ o10,World.cell? w24 (Addr.add a16 3) = some (Value.map o10)∧az Proofs.Tryz.prog (Instr.lookup 133 (Value.map o10) (Value.string s1) false) w24 fun v7 w25=>∃ n10,v7 = iI n10∧aG (n10 - 1)∧R (iI (n10 - 1)) w25
theorem qJ (a b:Option Addr) (c d:Nat) (w:World) (R:Value→WP) (h:tf a b c d w R):aC Tryz.prog 62 [(.pointer a),(.slice b c d)] w R:=rv Tryz.func62 qI (by kernel_rfl) h

abbrev tg:FuncId:=63
def pq:bj:={ rngs:=[],loops:=[(3,[(14,(.one (.int .i64)))])],joins:=[],blocks:=[] }
def qK (a b:Option Addr) (c d:Nat) (w:World) (R:Value→WP):Prop :=  new w (Obj.map (Array.mk []) 0) fun k1 w1=>au Proofs.Tryz.prog Ev 69 [vP a,vS b c d] w1 fun v1 w2=>∃ o1 k2 k3,v1 = vS o1 k2 k3∧∃ (x1:lP [(14,aI)]),∃ (x2:lN [(14,aI)]),x1 0 w2∧∀ (I1:Nat→Value) (n1:Int) (w3:World),x1 n1 w3→br (decide (n1 < (↑k2:Int))) (idx o1 k2 n1 2 fun a1=>∃ n2 n3,V.rowAt w3 a1 0 2 = some [iI n2,iI n3]∧new w3 (oC [iI 0,iI 0] 76) fun k4 w4=>iA w4 (aM k4) [iI n2,iI n3] fun w5=>∃ n4 n5,V.rowAt w5 (aM k4) 0 2 = some [iI n4,iI n5]∧au Proofs.Tryz.prog Ev 99 [vP a,vA (Array.mk [iI n4,iI n5])] w5 fun v2 w6=>∃ n6,v2 = iI n6∧br (decide (0≤n6)) (az Proofs.Tryz.prog (Instr.lookup 137 (Value.map (some k1)) (iI n6) false) w6 fun v3 w7=>∃ o2 k5 k6,v3 = vS o2 k5 k6∧∃ n7,World.cell? w7 (aM k4) = some (iI n7)∧∃ n8,World.cell? w7 (Addr.add (aM k4) 1) = some (iI n8)∧aG (n8 + 1)∧new w7 (oC [iI n7,iI (n8 + 1)] 76) fun k7 w8=>az Proofs.Tryz.prog (f_ 66 (Array.mk [vS o2 k5 k6,vS (some (aM k7)) 1 1])) w8 fun v4 w9=>∃ o3 k8 k9,v4 = vS o3 k8 k9∧az Proofs.Tryz.prog (Instr.mapUpdate 137 (Value.map (some k1)) (iI n6) (vS o3 k8 k9)) w9 fun (x3:Unit) (w10:World)=>aG (n1 + 1)∧x1 (n1 + 1) w10∧x2 (n1 + 1) w10 < x2 n1 w3) (aG (n1 + 1)∧x1 (n1 + 1) w6∧x2 (n1 + 1) w6 < x2 n1 w3)) (R (Value.map (some k1)) w3)
theorem pt (a b:Option Addr) (c d:Nat) (w:World) (R:Value→WP) (h:qK a b c d w R):aC Tryz.prog 63 [(.pointer a),(.slice b c d)] w R:=rv Tryz.func63 pq (by kernel_rfl) h

abbrev GX:FuncId:=65
def DG:bj:={ rngs:=[],loops:=[],joins:=[],blocks:=[] }
def Fa (a:Option Addr) (b c:Nat) (w:World) (R:Value→WP):Prop :=  au Proofs.Tryz.prog Ev 102 [vS a b c,Value.func (Fn.func 103) (Array.mk []) (Array.mk [])] w fun v1 w1=>v1 = vT (Array.mk [])∧au Proofs.Tryz.prog Ev 107 [vS a b c] w1 fun v2 w2=>∃ o1 k1 k2,v2 = vS o1 k1 k2∧au Proofs.Tryz.prog Ev 106 [vS o1 k1 k2] w2 fun v3 w3=>∃ o2 k3 k4,v3 = vS o2 k3 k4∧R (vS o2 k3 k4) w3
theorem DH (a:Option Addr) (b c:Nat) (w:World) (R:Value→WP) (h:Fa a b c w R):aC Tryz.prog 65 [(.slice a b c)] w R:=rv Tryz.func65 DG (by kernel_rfl) h

def fE:bj:={ rngs:=[],loops:=[],joins:=[],blocks:=[] }
def fV (a:Option Addr) (b c:Nat) (w:World) (R:Value→WP):Prop :=  p8 a b c none (some (↑b:Int)) (some (↑b:Int)) 2 fun (o1:Option Addr) (k1 k2:Nat)=>R (vS o1 k1 k2) w
theorem fF (a:Option Addr) (b c:Nat) (w:World) (R:Value→WP) (h:fV a b c w R):aC Tryz.prog 66 [(.slice a b c)] w R:=rv Tryz.func66 fE (by kernel_rfl) h

def eJ:bj:={ rngs:=[],loops:=[],joins:=[],blocks:=[] }
def fe (a:Option Addr) (b c:Nat) (w:World) (R:Value→WP):Prop :=  p8 a b c none (some (↑b:Int)) (some (↑b:Int)) 2 fun (o1:Option Addr) (k1 k2:Nat)=>R (vS o1 k1 k2) w
theorem eM (a:Option Addr) (b c:Nat) (w:World) (R:Value→WP) (h:fe a b c w R):aC Tryz.prog 67 [(.slice a b c)] w R:=rv Tryz.func67 eJ (by kernel_rfl) h

abbrev th:FuncId:=69
def pw:bj:={ rngs:=[],loops:=[(4,[(5,(.one .slice)),(7,(.one (.int .i64)))]),(10,[(5,(.one .slice)),(45,(.one (.int .i64)))])],joins:=[],blocks:=[] }
def qL (a b:Option Addr) (c d:Nat) (w:World) (R:Value→WP):Prop :=  au Proofs.Tryz.prog Ev 108 [vS b c d] w fun v1 w1=>∃ o1 k1 k2,v1 = vS o1 k1 k2∧new w1 (Obj.map (Array.mk []) 0) fun k3 w2=>∃ (x1:lP [(5,js),(7,aI)]),∃ (x2:lN [(5,js),(7,aI)]),x1 o1 k1 k2 0 w2∧∀ (I1:Nat→Value) (o2:Option Addr) (k4 k5:Nat) (n1:Int) (w3:World),x1 o2 k4 k5 n1 w3→br (decide (n1 < (↑k4:Int))) (idx o2 k4 n1 2 fun a1=>∃ n2 n3,V.rowAt w3 a1 0 2 = some [iI n2,iI n3]∧au Proofs.Tryz.prog Ev 99 [vP a,vA (Array.mk [iI n2,iI n3])] w3 fun v2 w4=>∃ n4,v2 = iI n4∧br (decide (n4 < 0)) (aG (n1 + 1)∧x1 o2 k4 k5 (n1 + 1) w4∧x2 o2 k4 k5 (n1 + 1) w4 < x2 o2 k4 k5 n1 w3) (az Proofs.Tryz.prog (Instr.lookup 178 (Value.map (some k3)) (iI n4) false) w4 fun v3 w5=>∃ n5,v3 = iI n5∧br (decide (0 < n5)) (aG (n1 + 1)∧x1 o2 k4 k5 (n1 + 1) w5∧x2 o2 k4 k5 (n1 + 1) w5 < x2 o2 k4 k5 n1 w3) (az Proofs.Tryz.prog (Instr.lookup 178 (Value.map (some k3)) (iI n4) false) w5 fun v4 w6=>∃ n6,v4 = iI n6∧aG (n6 + 1)∧az Proofs.Tryz.prog (Instr.mapUpdate 178 (Value.map (some k3)) (iI n4) (iI (n6 + 1))) w6 fun (x3:Unit) (w7:World)=>nn a fun a2=>∃ o3,World.cell? w7 (Addr.add a2 5) = some (Value.map o3)∧az Proofs.Tryz.prog (Instr.lookup 109 (Value.map o3) (iI n4) false) w7 fun v5 w8=>∃ o4 k6 k7,v5 = vS o4 k6 k7∧∃ (x4:lP [(5,js),(45,aI)]),∃ (x5:lN [(5,js),(45,aI)]),x4 o2 k4 k5 0 w8∧∀ (I2:Nat→Value) (o5:Option Addr) (k8 k9:Nat) (n7:Int) (w9:World),x4 o5 k8 k9 n7 w9→br (decide (n7 < (↑k6:Int))) (idx o4 k6 n7 1 fun a3=>∃ n8,World.cell? w9 a3 = some (iI n8)∧new w9 (oC [iI n8,iI 0] 76) fun k10 w10=>az Proofs.Tryz.prog (f_ 66 (Array.mk [vS o5 k8 k9,vS (some (aM k10)) 1 1])) w10 fun v6 w11=>∃ o6 k11 k12,v6 = vS o6 k11 k12∧aG (n7 + 1)∧x4 o6 k11 k12 (n7 + 1) w11∧x5 o6 k11 k12 (n7 + 1) w11 < x5 o5 k8 k9 n7 w9) (aG (n1 + 1)∧x1 o5 k8 k9 (n1 + 1) w9∧x2 o5 k8 k9 (n1 + 1) w9 < x2 o2 k4 k5 n1 w3)))) (au Proofs.Tryz.prog Ev 65 [vS o2 k4 k5] w3 fun v7 w12=>∃ o7 k13 k14,v7 = vS o7 k13 k14∧R (vS o7 k13 k14) w12)
theorem py (a b:Option Addr) (c d:Nat) (w:World) (R:Value→WP) (h:qL a b c d w R):aC Tryz.prog 69 [(.pointer a),(.slice b c d)] w R:=rv Tryz.func69 pw (by kernel_rfl) h

abbrev JM:FuncId:=98
def Fb:bj:={ rngs:=[],loops:=[(3,[(3,(.one .slice)),(8,(.one (.int .i64)))])],joins:=[],blocks:=[] }
def GY (a:Option Addr) (b c:Nat) (w:World) (R:Value→WP):Prop :=  ∃ (x1:lP [(3,js),(8,aI)]),∃ (x2:lN [(3,js),(8,aI)]),x1 none 0 0 0 w∧∀ (I1:Nat→Value) (o1:Option Addr) (k1 k2:Nat) (n1:Int) (w1:World),x1 o1 k1 k2 n1 w1→br (decide (n1 < (↑b:Int))) (idx a b n1 2 fun a1=>∃ n2 n3,V.rowAt w1 a1 0 2 = some [iI n2,iI n3]∧new w1 (oC [iI 0,iI 0] 76) fun k3 w2=>iA w2 (aM k3) [iI n2,iI n3] fun w3=>∃ n4,World.cell? w3 (aM k3) = some (iI n4)∧∃ n5,World.cell? w3 (Addr.add (aM k3) 1) = some (iI n5)∧∃ n6,World.cell? w3 (Addr.add (aM k3) 1) = some (iI n6)∧ns 8∧new w3 (oC [Value.int IntKind.u8 (IntKind.wrap IntKind.u8 n4),Value.int IntKind.u8 (IntKind.wrap IntKind.u8 n5),Value.int IntKind.u8 (IntKind.wrap IntKind.u8 (y6 IntKind.i64 n6 8))] 5) fun k4 w4=>az Proofs.Tryz.prog (f_ 195 (Array.mk [vS o1 k1 k2,vS (some (aM k4)) 3 3])) w4 fun v1 w5=>∃ o2 k5 k6,v1 = vS o2 k5 k6∧aG (n1 + 1)∧x1 o2 k5 k6 (n1 + 1) w5∧x2 o2 k5 k6 (n1 + 1) w5 < x2 o1 k1 k2 n1 w1) (az Proofs.Tryz.prog (convert 195 9 (vS o1 k1 k2)) w1 fun v2 w6=>∃ s1,v2 = Value.string s1∧R (Value.string s1) w6)
theorem Fc (a:Option Addr) (b c:Nat) (w:World) (R:Value→WP) (h:GY a b c w R):aC Tryz.prog 98 [(.slice a b c)] w R:=rv Tryz.func98 Fb (by kernel_rfl) h

abbrev uC:FuncId:=99
def qM:bj:={ rngs:=[],loops:=[],joins:=[],blocks:=[] }
def tj (a:Option Addr) (b c:Int) (w:World) (R:Value→WP):Prop :=  new w (oC [iI b,iI c] 76) fun k1 w1=>∀ w2,drawn w1 w2→∃ (I1:World→Prop),I1 w2∧nn a fun a1=>∃ o1 k2 k3,(∀ w3,I1 w3→World.cell? w3 (Addr.add a1 4) = some (vS o1 k2 k3))∧∃ n1,(∀ w4,I1 w4→World.cell? w4 (aM k1) = some (iI n1))∧idx o1 k2 n1 3 fun a2=>∃ o2 k4 k5,(∀ w5,I1 w5→World.cell? w5 (Addr.add a2 1) = some (vS o2 k4 k5))∧∃ n2,World.cell? w2 (Addr.add (aM k1) 1) = some (iI n2)∧br (n2 == (↑k4:Int)) (R (iI (-1)) w2) (∃ n3,World.cell? w2 (Addr.add (aM k1) 1) = some (iI n3)∧idx o2 k4 n3 1 fun a3=>∃ n4,World.cell? w2 a3 = some (iI n4)∧R (iI n4) w2)
theorem qN (a:Option Addr) (b c:Int) (w:World) (R:Value→WP) (h:tj a b c w R):aC Tryz.prog 99 [(.pointer a),(.agg #[(.int .i64 b),(.int .i64 c)])] w R:=rv Tryz.func99 qM (by kernel_rfl) h

def zt:bj:={ rngs:=[],loops:=[],joins:=[],blocks:=[] }
def A1 (a b c d:Int) (w:World) (R:Value→WP):Prop :=  new w (oC [iI a,iI b] 76) fun k1 w1=>new w1 (oC [iI c,iI d] 76) fun k2 w2=>∀ w3,drawn w2 w3→∃ (I1:World→Prop),I1 w3∧∃ n1,(∀ w4,I1 w4→World.cell? w4 (aM k1) = some (iI n1))∧∃ n2,(∀ w5,I1 w5→World.cell? w5 (aM k2) = some (iI n2))∧∃ n3,(∀ w6,I1 w6→World.cell? w6 (Addr.add (aM k1) 1) = some (iI n3))∧∃ n4,(∀ w7,I1 w7→World.cell? w7 (Addr.add (aM k2) 1) = some (iI n4))∧au Proofs.Tryz.prog Ev 105 [iI n1,iI n2] w3 fun v1 w8=>∃ n5,v1 = iI n5∧I1 w8∧au Proofs.Tryz.prog Ev 105 [iI n3,iI n4] w8 fun v2 w9=>∃ n6,v2 = iI n6∧I1 w9∧new w9 (oC [iI n5,iI n6] 3) fun k3 w10=>I1 w10∧au Proofs.Tryz.prog Ev 104 [vS (some (aM k3)) 2 2] w10 fun v3 w11=>∃ n7,v3 = iI n7∧I1 w11∧R (iI n7) w11
theorem zu (a b c d:Int) (w:World) (R:Value→WP) (h:A1 a b c d w R):aC Tryz.prog 103 [(.agg #[(.int .i64 a),(.int .i64 b)]),(.agg #[(.int .i64 c),(.int .i64 d)])] w R:=rv Tryz.func103 zt (by kernel_rfl) h

def zv:bj:={ rngs:=[],loops:=[(3,[(8,(.one (.int .i64)))])],joins:=[],blocks:=[] }
def A2 (a:Option Addr) (b c:Nat) (w:World) (R:Value→WP):Prop :=  ∃ (x1:lP [(8,aI)]),∃ (x2:lN [(8,aI)]),x1 0 w∧∀ (I1:Nat→Value) (n1:Int) (w1:World),x1 n1 w1→br (decide (n1 < (↑b:Int))) (idx a b n1 1 fun a1=>∃ n2,World.cell? w1 a1 = some (iI n2)∧br (n2 != 0) (R (iI n2) w1) (aG (n1 + 1)∧x1 (n1 + 1) w1∧x2 (n1 + 1) w1 < x2 n1 w1)) (R (iI 0) w1)
theorem zw (a:Option Addr) (b c:Nat) (w:World) (R:Value→WP) (h:A2 a b c w R):aC Tryz.prog 104 [(.slice a b c)] w R:=rv Tryz.func104 zv (by kernel_rfl) h

def qO:bj:={ rngs:=[],loops:=[],joins:=[],blocks:=[] }
def tk (a b:Int) (w:World) (R:Value→WP):Prop :=  au Proofs.Tryz.prog Ev 145 [iI a] w fun v1 w1=>∃ b1,v1 = vB b1∧au Proofs.Tryz.prog Ev 145 [iI b] w1 fun v2 w2=>∃ b2,v2 = vB b2∧br b1 (br b2 (R (iI 0) w2) (R (iI (-1)) w2)) (br b2 (R (iI 1) w2) (br (decide (a < b)) (R (iI (-1)) w2) (br (decide (b < a)) (R (iI 1) w2) (R (iI 0) w2))))
theorem qP (a b:Int) (w:World) (R:Value→WP) (h:tk a b w R):aC Tryz.prog 105 [(.int .i64 a),(.int .i64 b)] w R:=rv Tryz.func105 qO (by kernel_rfl) h

def fG:bj:={ rngs:=[],loops:=[],joins:=[],blocks:=[] }
def fW (a:Option Addr) (b c:Nat) (w:World) (R:Value→WP):Prop :=  p8 a b c none (some (↑b:Int)) (some (↑b:Int)) 2 fun (o1:Option Addr) (k1 k2:Nat)=>R (vS o1 k1 k2) w
theorem fH (a:Option Addr) (b c:Nat) (w:World) (R:Value→WP) (h:fW a b c w R):aC Tryz.prog 106 [(.slice a b c)] w R:=rv Tryz.func106 fG (by kernel_rfl) h

abbrev ff:FuncId:=107
def eA:bj:={ rngs:=[],loops:=[(4,[(3,(.one (.int .i64)))]),(9,[(3,(.one (.int .i64))),(5,(.one (.int .i64)))])],joins:=[],blocks:=[] }
def eO (a:Option Addr) (b c:Nat) (w:World) (R:Value→WP):Prop :=  br (decide ((↑b:Int) < 2)) (R (vS a b c) w) (∃ (x1:lP [(3,aI)]),∃ (x2:lN [(3,aI)]),x1 1 w∧∀ (I1:Nat→Value) (n1:Int) (w1:World),x1 n1 w1→br (decide (n1 < (↑b:Int))) (∀ w2,drawn w1 w2→∃ (I2:World→Prop),I2 w2∧idx a b n1 2 fun a1=>∃ n2 n3,(∀ w3,I2 w3→V.rowAt w3 a1 0 2 = some [iI n2,iI n3])∧aG (n1 - 1)∧idx a b (n1 - 1) 2 fun a2=>∃ n4 n5,(∀ w4,I2 w4→V.rowAt w4 a2 0 2 = some [iI n4,iI n5])∧∃ v1,(∀ w5,I2 w5→Sem.run Proofs.Tryz.prog (iX BinOp.eql 76 (Operand.tmp 19) (Operand.tmp 24) (vG [iI n2,iI n3]) (vG [iI n4,iI n5])) w5 = Result.ok v1 w5)∧∃ b1,v1 = vB b1∧br b1 (p8 a b c (some n1) none none 2 fun (o1:Option Addr) (k1 k2:Nat)=>∃ (x3:lP [(3,aI),(5,aI)]),∃ (x4:lN [(3,aI),(5,aI)]),x3 n1 1 w2∧∀ (I3:Nat→Value) (n6 n7:Int) (w6:World),x3 n6 n7 w6→br (decide (n7 < (↑k1:Int))) (∀ w7,drawn w6 w7→∃ (I4:World→Prop),I4 w7∧idx o1 k1 n7 2 fun a3=>∃ n8 n9,(∀ w8,I4 w8→V.rowAt w8 a3 0 2 = some [iI n8,iI n9])∧aG (n7 - 1)∧idx o1 k1 (n7 - 1) 2 fun a4=>∃ n10 n11,(∀ w9,I4 w9→V.rowAt w9 a4 0 2 = some [iI n10,iI n11])∧∃ v2,(∀ w10,I4 w10→Sem.run Proofs.Tryz.prog (iX BinOp.neq 76 (Operand.tmp 38) (Operand.tmp 43) (vG [iI n8,iI n9]) (vG [iI n10,iI n11])) w10 = Result.ok v2 w10)∧∃ b2,v2 = vB b2∧br b2 (idx o1 k1 n7 2 fun a5=>∃ n12 n13,V.rowAt w7 a5 0 2 = some [iI n12,iI n13]∧idx a b n6 2 fun a6=>iA w7 a6 [iI n12,iI n13] fun w11=>aG (n6 + 1)∧aG (n7 + 1)∧x3 (n6 + 1) (n7 + 1) w11∧x4 (n6 + 1) (n7 + 1) w11 < x4 n6 n7 w6) (aG (n7 + 1)∧x3 n6 (n7 + 1) w7∧x4 n6 (n7 + 1) w7 < x4 n6 n7 w6)) (p8 a b c (some n6) none none 2 fun (o2:Option Addr) (k3 k4:Nat)=>az Proofs.Tryz.prog (Builtin.clear_ (Array.mk [66]) 0 (Array.mk [vS o2 k3 k4])) w6 fun v3 w12=>p8 a b c none (some n6) none 2 fun (o3:Option Addr) (k5 k6:Nat)=>R (vS o3 k5 k6) w12)) (aG (n1 + 1)∧x1 (n1 + 1) w2∧x2 (n1 + 1) w2 < x2 n1 w1)) (R (vS a b c) w1))
theorem eB (a:Option Addr) (b c:Nat) (w:World) (R:Value→WP) (h:eO a b c w R):aC Tryz.prog 107 [(.slice a b c)] w R:=rv Tryz.func107 eA (by kernel_rfl) h

abbrev fX:FuncId:=108
def fh:bj:={ rngs:=[],loops:=[],joins:=[],blocks:=[] }
def fI (a:Option Addr) (b c:Nat) (w:World) (R:Value→WP):Prop :=  br (Option.isNone a) (R (vS none 0 0) w) (new w (oC [] 76) fun k1 w1=>az Proofs.Tryz.prog (f_ 66 (Array.mk [vS (some (aM k1)) 0 0,vS a b c])) w1 fun v1 w2=>∃ o1 k2 k3,v1 = vS o1 k2 k3∧R (vS o1 k2 k3) w2)
theorem fi (a:Option Addr) (b c:Nat) (w:World) (R:Value→WP) (h:fI a b c w R):aC Tryz.prog 108 [(.slice a b c)] w R:=rv Tryz.func108 fh (by kernel_rfl) h

end Go.Proofs.YtngdohpikfcifaaGreatDoor
namespace Go.V
open Go.Proofs Go.Sort
instance:Inhabited aj:=⟨⟨0,0⟩⟩
def cg (x:aj):List Value:=[.int .i64 x.prod,.int .i64 x.dot]
def tv (xs:List aj):List Value:=xs.flatMap cg
theorem wo (x:aj) (xs:List aj):tv (x :: xs) = .int .i64 x.prod :: .int .i64 x.dot :: tv xs:=rfl
theorem df:∀ xs:List aj,(tv xs).length = xs.length * 2
 | []=>rfl
 | x :: xs=>by rw [wo,S4,S4,df xs,S4]; omega
theorem lE (xs ys:List aj):tv (xs ++ ys) = tv xs ++ tv ys:=Tv
theorem LD:∀ (xs:List aj) (t:Nat),(tv xs)[t]? = (xs[t / 2]?).bind fun x=>(cg x)[t % 2]?
 | [],t=>by simp [tv]
 | x :: xs,0=>rfl
 | x :: xs,1=>rfl
 | x :: xs,t + 2=>by
  rw [wo,TV,TV,LD xs t,show (t + 2) / 2 = t / 2 + 1 by omega,show (t + 2) % 2 = t % 2 by omega,TV]
theorem DI (xs:List aj):(flatK cg 2 xs.toArray).toList = tv xs:=by
 apply Tb
 intro t
 rw [LD]
 by_cases h:t < xs.length * 2
 ·have h1:t / 2 < xs.length:=by omega
  have h2:t < (flatK cg 2 xs.toArray).size:=by simp; omega
  have h3:=get_flatK cg 2 xs.toArray t (by simpa using h)
  rw [getElem!_pos _ t h2] at h3
  rw [SS,Array.getElem?_eq_getElem h2,h3,Sm h1,Option.bind_some,getElem!_pos xs.toArray (t / 2) (by simpa using h1)]
  have h4:t % 2 < (cg xs[t / 2]).length:=by simp [cg]; omega
  rw [Sm h4]
  congr 1
  simp [h4]
 ·rw [SS,Array.getElem?_eq_none (by simp; omega),SH (by omega)]; rfl
section
variable {w:World} {L:List aw}
theorem LF {a:Option Addr} {l c:Nat} {xs:List aj} (h:St w (own 2 a l c (tv xs) :: L)) (hl:0 < l) :
  ∃ b off,a = some ⟨b,off,none⟩∧l = xs.length∧HoldsK cg 2 w b off xs.toArray∧b < w.heap.size ∧
   (∀ (m:Nat) (os:Array Obj) (d' : Array aj),d'.size = xs.length→St (sortWorldK cg 2 w b off m d' os) (own 2 a l c (tv d'.toList) :: L)):=by
 rcases da h with ⟨_,h2,_⟩ | ⟨b,pre,cs,post,rfl,hc,h1,h2,h3⟩
 ·omega
 ·have hsz:l = xs.length:=by rw [df] at h1; omega
  refine ⟨b,pre.length,rfl,hsz,?_,?_,?_⟩
  ·intro j hj
   have hj2:j < (tv xs).length:=by rw [df]; simpa using hj
   refine ⟨?_,hc.frozen _ _⟩
   rw [hc.cell,SC (by omega),Tr,Sw hj2,← DI,SS,Array.getElem?_eq_getElem hj,getElem!_pos _ j hj]
   rfl
  ·obtain ⟨e,h⟩:=iB.1 hc
   exact (S3.1 h.get).1
  ·intro m os d' hs
   have h5:=hc.sort (enc:=id) pre.length m (flatK cg 2 d') os
   have e1:tv xs = (flatK cg 2 xs.toArray).toList.map id:=by rw [DI]; simp
   have e2:(flatK cg 2 d').toList.map id = tv d'.toList:=by
    have:=DI d'.toList
    simp only [Array.toArray_toList] at this
    rw [this]; simp
   rw [e1,we pre (cs ++ post) (flatK cg 2 xs.toArray) (flatK cg 2 d') (by simp [hs]),e2] at h5
   refine d_ h5 ?_ ?_ h3
   ·rw [df,Array.length_toList,hs]; omega
   ·rw [Sx,df] at h2 ⊢
    rw [Array.length_toList,hs]; omega
end
def pz (a b:Int):Int:=if a < b then -1 else if b < a then 1 else 0
def GZ (x y:aj):Int:=if pz x.prod y.prod = 0 then pz x.dot y.dot else pz x.prod y.prod
theorem kS (x y:aj):ltOf GZ x y = decide (x.lt y):=by
 have h:GZ x y < 0↔x.lt y:=by
  unfold GZ pz aj.lt
  by_cases h1:x.prod < y.prod
  ·simp [h1]
  ·by_cases h2:y.prod < x.prod
   ·simp [h1,h2]; omega
   ·have h3:x.prod = y.prod:=by omega
    by_cases h4:x.dot < y.dot
    ·simp [h3,h4]
    ·by_cases h5:y.dot < x.dot
     ·simp [h3,h4,h5]
     ·simp [h3,h4,h5]
 unfold ltOf
 rw [decide_eq_decide,h]
theorem RT:SWO (ltOf GZ):=⟨fun x=>by rw [kS]; exact TD (aj.lt_irrefl x),fun x y z=>by rw [kS,kS,kS]; simp only [Sy]; exact aj.lt_trans,fun x y z=>by
 rw [kS,kS,kS]; simp only [SZ]; unfold aj.lt; intro h1 h2 h3; omega⟩
end Go.V
namespace Go.Proofs.YtngdohpikfcifaaGreatDoor
open Go.V Go.Sort Go.Shelf
variable {w:World} {L:List aw}
theorem LG (a b:Int):rE te [.int .i64 a,.int .i64 b] w fun v w'=>v = .int .i64 (pz a b)∧w' = w:=by
 have nan:∀ a:Int,∀ w,rE vW [.int .i64 a] w fun v w'=>v = .bool false∧w' = w:=fun a w=>jF _ w _ ⟨by simp,rfl⟩
 refine qP _ _ w _ ((nan a w).mono ?_)
 rintro _ _ ⟨rfl,rfl⟩
 refine ⟨_,rfl,(nan b _).mono ?_⟩
 rintro _ _ ⟨rfl,rfl⟩
 refine ⟨_,rfl,ae (fun h=>by cases h) fun _=>ae (fun h=>by cases h) fun _=>ae (fun h=>?_) fun h=>ae (fun h2=>?_) fun h2=>?_⟩
 ·have h:=Si h; unfold pz; rw [Sz h]; exact ⟨rfl,rfl⟩
 ·have h:=Sj h; have h2:=Si h2; unfold pz; rw [Sr h,Sz h2]; exact ⟨rfl,rfl⟩
 ·have h:=Sj h; have h2:=Sj h2; unfold pz; rw [Sr h,Sr h2]; exact ⟨rfl,rfl⟩
theorem RU {a:Option Addr} {x y:Int} (hx:aW (hp w) [x,y] a 2):rE AL [.slice a 2 2] w fun v w'=>v = .int .i64 (if x = 0 then y else x)∧w' = w:=by
 refine zw _ _ _ w _ ⟨fun z w'=>∃ i:Nat,z = i∧i≤2∧(0 < i→x = 0)∧(1 < i→y = 0)∧w' = w,fun z _=>2 - z.toNat,⟨0,rfl,by omega,by omega,by omega,rfl⟩,?_⟩
 rintro _ z w1 ⟨i,rfl,hi,h0,h1,e1⟩
 rw [e1]
 refine ae (fun h2=>?_) fun h2=>?_
 ·have h2:i < 2:=by have:=Si h2; omega
  obtain ⟨u,ad,hu,ha,cu⟩:=hx.bL h2
  refine aq ha h2 ⟨u,cu _ (sub.refl _),ae (fun h3=>?_) fun h3=>?_⟩
  ·have h3:u≠0:=bne_iff_ne.1 h3
   match i,h2 with
   | 0,_=>simp at hu; subst hu; exact ⟨by rw [Sr h3],rfl⟩
   | 1,_=>simp at hu; subst hu; rw [Sz (h0 (by omega))]; exact ⟨rfl,rfl⟩
  ·have h3:u = 0:=by simpa using h3
   subst h3
   refine ⟨⟨by omega,by omega⟩,⟨i + 1,rfl,h2,fun _=>?_,fun _=>?_,rfl⟩,bA h2⟩
   ·match i,h2 with
    | 0,_=>simpa using hu
    | 1,_=>exact h0 (by omega)
   ·match i,h2 with
    | 0,_=>omega
    | 1,_=>simpa using hu
 ·have h2:i = 2:=by have:=Sj h2; omega
  subst h2
  have e0:=h0 (by omega)
  have e1:=h1 (by omega)
  subst e0; subst e1
  exact ⟨by simp,rfl⟩
theorem PS (x y:aj) (w:World):aC Tryz.prog dc [.agg (cg x).toArray,.agg (cg y).toArray] w fun v w'=>v = .int .i64 (GZ x y)∧∃ q os',w' = grow (w.drewN q) os':=by
 refine zu _ _ _ _ w _ ?_
 intro k1 w1 b1 e1
 have h1:St w1 (aR k1 (cg x) :: all w):=(ah (St.all w) fun b w' h=>h:new w (oC [iI x.prod,iI x.dot] bu) fun b w'=>St w' (aR b (cg x) :: all w)) k1 w1 b1 e1
 intro k2 w2 b2 e2
 have h2:St w2 (aR k2 (cg y) :: aR k1 (cg x) :: all w):=(ah h1 fun b w' h=>h:new w1 (oC [iI y.prod,iI y.dot] bu) fun b w'=>St w' (aR b (cg y) :: aR k1 (cg x) :: all w)) k2 w2 b2 e2
 intro w3 e3
 have h3:=h2.eq (dA e3)
 have r1:ax (hp w3) (aM k1) (cg x):=ai 1 h3.l
 have r2:ax (hp w3) (aM k2) (cg y):=ai 0 h3.l
 refine ⟨fun u=>Gr w3 u,Gr.refl _,x.prod,fun u s=>r1.cell0 s,y.prod,fun u s=>r2.cell0 s,x.dot,fun u s=>r1.cell s (j:=1) rfl,y.dot,fun u s=>r2.cell s (j:=1) rfl,(LG _ _).mono ?_⟩
 rintro _ _ ⟨rfl,rfl⟩
 refine ⟨_,rfl,Gr.refl _,(LG _ _).mono ?_⟩
 rintro _ _ ⟨rfl,rfl⟩
 refine ⟨_,rfl,Gr.refl _,?_⟩
 intro k3 w10 b3 e10
 have h10:St w10 (aR k3 [iI (pz x.prod y.prod),iI (pz x.dot y.dot)] :: all _):=(ah (St.all _) fun b w' h=>h:new _ (oC [iI (pz x.prod y.prod),iI (pz x.dot y.dot)] eI) fun b w'=>St w' (aR b [iI (pz x.prod y.prod),iI (pz x.dot y.dot)] :: all _)) k3 w10 b3 e10
 have g10:=h10.aX
 refine ⟨g10,(RU (x:=pz x.prod y.prod) (y:=pz x.dot y.dot) (b8 rfl (.inr ⟨_,rfl,ai 0 h10.l⟩))).mono ?_⟩
 rintro _ _ ⟨rfl,rfl⟩
 refine ⟨_,rfl,g10,rfl,1,#[oC [iI x.prod,iI x.dot] bu,oC [iI y.prod,iI y.dot] bu,oC [iI (pz x.prod y.prod),iI (pz x.dot y.dot)] eI],?_⟩
 unfold drawn at e3
 rw [e10,e3,e2,e1]
 unfold grow World.drewN
 simp only [World.mk.injEq,true_and,and_true]
 apply TF
 simp
theorem NV {blk off:Nat} {n:Nat}:CmpLays Tryz.prog dc #[] cg 2 GZ blk off n w:=fun m os dk hdk x y=>by
 refine Calls.mono (PS x y _) ?_
 rintro e w' ⟨v,rfl,_,rfl,q,os',rfl⟩
 exact ⟨rfl,q,os',rfl⟩
theorem Ev.Q2 (w:World) (blk off m:Nat) (dk:Array aj) (os:Array Obj):Ev w (sortWorldK cg 2 w blk off m dk os):=Ev.sort (enc:=id) (blk:=blk) w off m (flatK cg 2 dk) os
theorem NW {a:Option Addr} {l c:Nat} {xs:List aj} (h:St w (own 2 a l c (tv xs) :: L)) (hb:l < 4611686018427387904) :
  rE eh [.slice a l c,.func (.func dc) (Array.mk []) (Array.mk [])] w fun v w'=>v = .tuple (Array.mk [])∧∃ ys:List aj,ys.Perm xs∧ys.Pairwise (fun x y=>¬y.lt x)∧St w' (own 2 a l c (tv ys) :: L):=by
 have hln:=ea h
 rw [df] at hln
 by_cases hl:0 < l
 ·obtain ⟨b,off,rfl,hsz,hH,hblk,hk⟩:=LF h hl
  subst hsz
  have eg:∀ args w,(callFunc dc args).run Tryz.prog w = .ok (.enter dc args) w:=enters_of zp (by kernel_rfl) rfl
  refine Calls.mono (AnyQ.slices_SortFunc O1 2 Dt Du cg (fun _=>rfl) (fun x v hv=>by simp [cg] at hv; rcases hv with rfl | rfl <;> rfl) GZ RT dc #[] b off c xs.toArray w eg NV hH hblk (by simpa using hb)) ?_
  rintro e w' ⟨rfl,d',n,os,hP,hS,rfl⟩
  have hsz:d'.size = xs.length:=by simpa using hP.1
  refine ⟨_,rfl,Ev.Q2 w b off n _ os,rfl,d'.toList,?_,?_,hk n os d' hsz⟩
  ·have:=hP.2.2
   rw [Array.extract_size] at this
   have e2:d'.extract 0 xs.toArray.size = d':=by rw [← hP.1,Array.extract_size]
   rw [e2] at this
   simpa using this
  ·rw [List.pairwise_iff_getElem]
   intro i j hi hj hij
   rw [Array.length_toList] at hi hj
   have:=hS i j (Sv _) hij (by rw [← hP.1]; exact hj)
   rw [kS,getElem!_pos d' j hj,getElem!_pos d' i hi] at this
   simpa using this
 ·have e:l = 0:=by omega
  subst e
  have ex:xs = []:=SV (by omega)
  subst ex
  refine Calls.mono (AnyF.slices_SortFunc_none O1 a c _ w) ?_
  rintro e w' ⟨rfl,rfl⟩
  exact ⟨_,rfl,Ev.refl _,rfl,[],.refl _,.nil,h⟩
theorem Ig {a:Option Addr} {l c:Nat} {zs:List Int} (h:St w (own 1 a l c (iv zs) :: L)) (hb:l < 4611686018427387904) :
  rE mG [.slice a l c] w fun v w'=>v = .tuple (Array.mk [])∧St w' (own 1 a l c (iv (zs.mergeSort fun x y=>decide (x≤y))) :: L):=by
 rcases Nat.eq_zero_or_pos l with rfl | hl
 ·have hz:zs = []:=SV (by have:=ea h; simpa [iv] using this)
  subst hz
  refine Calls.mono (Any.slices_Sort_int_none O2 a c w) ?_
  rintro e w' ⟨rfl,rfl⟩
  exact ⟨_,rfl,Ev.refl _,rfl,by simpa using h⟩
 obtain ⟨b,off,rfl,hsz,hH,hblk,hk⟩:=NR (d:=zs.toArray) (enc:=Value.int .i64) (by simpa [iv] using h) hl
 simp only [List.size_toArray] at hsz
 subst hsz
 refine Calls.mono (Any.slices_Sort_int O2 b off c zs w hH hblk hb) ?_
 rintro e w' ⟨rfl,n,os,rfl⟩
 refine ⟨_,rfl,Ev.sort (enc:=Value.int .i64) w off n _ os,rfl,?_⟩
 have:=hk n os (zs.mergeSort fun x y=>decide (x≤y)).toArray (by simp)
 have e:(zs.mergeSort fun x y=>decide (x≤y)).toArray.toList.map (Value.int .i64) = iv (zs.mergeSort fun x y=>decide (x≤y)):=by simp [iv]
 rw [e] at this
 exact this
end Go.Proofs.YtngdohpikfcifaaGreatDoor
namespace Go.V
section
variable {P:Program} {Ty:TypeId→Option di} {w:World} {L:List aw}
theorem CL (hT:dy P Ty) {t e ty:TypeId} {i:di} {z:Value} (hk:ag Ty t = .slice e) (hi:Ty e = some i) (hz:i.zero = some z) (hzs:(cellsOf z).length = i.size) (h1:∀ v∈cellsOf z,aS v = true) (h0:0 < i.size)
  {a:Option Addr} {l c kk c2:Nat} {us:List Value} (h:St w (own i.size a l c us :: L)) (hkl:kk≤l) :
  az P (Builtin.clear_ (Array.mk [t]) ty (Array.mk [.slice (fw a kk c i.size) (l - kk) c2])) w fun v w'=>∃ us' : List Value,us'.take (kk * i.size) = us.take (kk * i.size)∧St w' (own i.size a l c us' :: L):=by
 obtain ⟨d,hd,hd'⟩:=cX hT hk (by simp)
 rw [ga hd'] at hd
 obtain ⟨info,d2,ha⟩:=qd hT hi
 have hzz:(zeroValue e).run P w = .ok z w:=g_ ha.inf (by rw [← ha.zero,hz])
 have hul:=ea h
 by_cases hk2:kk < l
 ·have hlt:0 < us.length:=by rw [hul]; exact Nat.mul_pos (by omega) h0
  obtain ⟨ad,rfl⟩:=jG h hlt
  have hle:=dJ h
  have esl:fw (some ad) kk c i.size = some (ad.add (kk * i.size)):=by
   unfold fw; rw [Sr (by omega),aH]; rfl
  obtain ⟨m,hm⟩ : ∃ m,l - kk = m + 1:=⟨l - kk - 1,by omega⟩
  have hcz:z.cells = ⟨cellsOf z⟩:=by rw [cT]
  have hzc:(Builtin.zeroCells z.cells (m + 1)).toList = (List.replicate (m + 1) (cellsOf z)).flatten:=by
   unfold Builtin.zeroCells
   rw [hcz]
   have:=Ag (cellsOf z) (m + 1)
   simp only [List.size_toArray] at this ⊢
   rw [this]
  have hfl:∀ n,(List.replicate n (cellsOf z)).flatten.length = n * i.size:=fun n=>by
   induction n with
   | zero=>simp
   | succ n ih=>rw [T0,T8,Sx,ih,hzs,TN,Nat.add_comm]
  have hbig:(m + 1) * i.size = l * i.size - kk * i.size:=by rw [← hm,Nat.sub_mul]
  have hkl2:kk * i.size≤l * i.size:=TT _ hkl
  have hst:=Ia (i:=kk * i.size) (vs:=(List.replicate (m + 1) (cellsOf z)).flatten) (k:=fun w'=>St w' (own i.size (some ad) l c (us.take (kk * i.size) ++ (List.replicate (m + 1) (cellsOf z)).flatten ++ us.drop (kk * i.size + (List.replicate (m + 1) (cellsOf z)).flatten.length)) :: L)) h rfl
   (by rw [hfl,hul,hbig]; omega) (fun v hv=>by
    obtain ⟨x,hx,hv⟩:=List.mem_flatten.1 hv
    rw [List.eq_of_mem_replicate hx] at hv; exact h1 v hv) (by rw [hfl]; exact Nat.mul_pos (by omega) h0) fun w' h=>h
  refine ⟨.tuple #[],_,?_,Ev.bZ w _ _ _ _ (Ev.refl _),_,?_,hst.2 _ rfl⟩
  ·unfold Builtin.clear_
   rw [esl,hm]
   simp only [Sem.run_bind,aN hd,Result.andThen_ok,hzz,hzc,dR _ _ _ _ hst.1,Sem.run_pure]
   simp [Sem.run_bind,aN hd,hzz,hzc,dR _ _ _ _ hst.1]
  ·rw [SI,List.take_left' (by rw [SN]; omega)]
 ·have e:l - kk = 0:=by omega
  rw [e]
  refine ⟨.tuple #[],w,?_,Ev.refl _,us,rfl,h⟩
  unfold Builtin.clear_
  cases hs:fw a kk c i.size <;> simp [Sem.run_bind,aN hd]
end
end Go.V
namespace Go.V
section
variable {w:World} {L:List aw} {xs:List aj} {a:Option Addr} {l c:Nat}
theorem LH {h:Hp} {ad:Addr} (r:ax h ad (tv xs)) {i:Nat} {x:aj} (hx:xs[i]? = some x):ax h (ad.add (dP i 2)) (cg x):=fun j v hv=>by
 have hj:j < 2:=(Sk.1 hv).1
 rw [aH,add_add]
 refine r (i * 2 + j) v ?_
 rw [LD,show (i * 2 + j) / 2 = i by omega,show (i * 2 + j) % 2 = j by omega,hx]
 exact hv
theorem DJ {h:Hp} (hl:xs.length = l) (r:gN a (tv xs) h):aW h xs a l:=by
 refine ⟨hl,fun i x hx=>?_⟩
 rcases r with e | ⟨ad,rfl,hc⟩
 ·have h1:=congrArg List.length e
  rw [df,T6] at h1
  have:=(Sk.1 hx).1
  omega
 ·exact ⟨ad,_,rfl,LH hc hx,rfl⟩
theorem b9 (h:St w (own 2 a l c (tv xs) :: L)):aW (hp w) xs a l:=by
 have hl:=ea h
 rw [df] at hl
 obtain ⟨h1,s,ha⟩:=h.first
 exact (DJ (by omega) (bV ha)).mono s
theorem b_ {h:Hp} (r:aW h xs a l) {i:Nat} (hi:i < l):∃ x ad,xs[i]? = some x∧a = some ad∧∀ u:World,sub h (hp u)→V.rowAt u (ad.add (dP i 2)) 0 2 = some [.int .i64 x.prod,.int .i64 x.dot]:=by
 obtain ⟨x,ad,vs,hx,ha,hr,rfl⟩:=r.get hi
 exact ⟨x,ad,hx,ha,fun u s=>hr.at s rfl⟩
theorem PT {i:Nat} {x:aj} (hi:i < xs.length):(tv xs).take (i * 2) ++ [.int .i64 x.prod,.int .i64 x.dot] ++ (tv xs).drop (i * 2 + 2) = tv (xs.set i x):=by
 rw [List.set_eq_take_append_cons_drop,Sz hi]
 have e1:tv xs = tv (xs.take i) ++ tv (xs.drop i):=by rw [← lE,S5]
 have e2:tv xs = tv (xs.take (i + 1)) ++ tv (xs.drop (i + 1)):=by rw [← lE,S5]
 have l1:(tv (xs.take i)).length = i * 2:=by rw [df,SN]; omega
 have l2:(tv (xs.take (i + 1))).length = i * 2 + 2:=by rw [df,SN]; omega
 have t1:(tv xs).take (i * 2) = tv (xs.take i):=by rw [e1,List.take_left' l1]
 have t2:(tv xs).drop (i * 2 + 2) = tv (xs.drop (i + 1)):=by rw [e2,List.drop_left' l2]
 rw [t1,t2,lE,wo]
 simp
theorem NX (xs:List aj) (k:Nat):(tv xs).take (k * 2) = tv (xs.take k):=by
 by_cases h:k≤xs.length
 ·have e1:tv xs = tv (xs.take k) ++ tv (xs.drop k):=by rw [← lE,S5]
  rw [e1,List.take_left' (by rw [df,SN]; omega)]
 ·rw [SD (by rw [df]; omega),SD (by omega)]
theorem fj {sz:Nat} {vs:List Value} (h:St w (own sz a l c vs :: L)):St w (own sz (fw a 0 l sz) l l vs :: L):=by
 rcases da h with ⟨rfl,rfl,rfl,rfl⟩ | ⟨b,pre,cs,post,rfl,hc,h1,h2,h3⟩
 ·have:fw none 0 0 sz = none:=by simp [fw]
  rw [this]; exact h
 ·have e:fw (some (⟨b,pre.length,none⟩ : Addr)) 0 l sz = some ⟨b,pre.length,none⟩:=by
   unfold fw; split
   ·rfl
   ·simp [aH,add_lit]
  rw [e]
  exact d_ (cs:=[]) (post:=cs ++ post) (by simpa using hc) h1 (by simpa using h1) (SF _)
theorem fk {a:Option Addr} {l c sz:Nat} {k:Option Addr→Nat→Nat→Prop} (h1:l≤c) (hk:k (fw a 0 l sz) l l):p8 a l c none (some (l:Int)) (some (l:Int)) sz k :=
 ⟨.inr ⟨by simp,by show (0:Int)≤(l:Int); omega,by show (l:Int)≤(c:Int); omega⟩,.inr ⟨by show (0:Int)≤(l:Int); omega,by show (l:Int)≤(l:Int); omega⟩,⟨by decide,by show (0:Int)≤(l:Int); omega⟩,by simpa using hk⟩
end
abbrev Q3 (l:List aj):Prop:=l.Pairwise fun x y=>¬y.lt x
theorem Q3.at {xs:List aj} (h:Q3 xs) {i j:Nat} {x y:aj} (hij:i < j) (hi:xs[i]? = some x) (hj:xs[j]? = some y):¬y.lt x:=by
 obtain ⟨h1,rfl⟩:=Sk.1 hi
 obtain ⟨h2,rfl⟩:=Sk.1 hj
 exact List.pairwise_iff_getElem.1 h i j h1 h2 hij
theorem Ih {xs:List aj} {n:Nat} {x:aj} (h1:xs[n]? = some x) (h2:xs[n + 1]? = some x):lay (xs.take (n + 2)) = lay (xs.take (n + 1)) :=
 GQ (ew _) fun y=>by
  rw [dN,Su (i:=n + 1),h2,Ti,Sp,SE]
  refine ⟨.inl,fun h=>h.elim id ?_⟩
  rintro rfl
  exact Sl (i:=n) (by rw [TE,Sz (by omega)]; exact h1)
theorem Ii {xs:List aj} (hs:Q3 xs) {n:Nat} {x z:aj} (h1:xs[n]? = some z) (h2:xs[n + 1]? = some x) (hne:x≠z):lay (xs.take (n + 2)) = lay (xs.take (n + 1)) ++ [x]:=by
 refine GQ ?_ fun y=>by rw [Sp,dN,Su (i:=n + 1),h2,Ti,Sp]
 rw [gC,List.pairwise_append]
 refine ⟨ew _,by simp,fun y hy u hu=>?_⟩
 rw [SE] at hu
 subst hu
 rw [dN] at hy
 obtain ⟨i,hi⟩:=SP hy
 have hin:i < n + 1:=by have:=(Sk.1 hi).1; rw [SN] at this; omega
 rw [TE,Sz hin] at hi
 have hzu:z.lt u:=(aj.Ib hne).resolve_left (hs.at (Nat.lt_succ_self n) h1 h2)
 by_cases e:i = n
 ·subst e; rw [h1] at hi; cases hi; exact hzu
 ·have hzy:=hs.at (show i < n by omega) hi h1
  by_cases e2:y = z
  ·rw [e2]; exact hzu
  ·exact aj.lt_trans ((aj.Ib e2).resolve_right hzy) hzu
theorem LI {xs:List aj} (hs:Q3 xs) {n:Nat} {x z:aj} (h:gC (xs.take (n + 1))) (h1:xs[n]? = some z) (h2:xs[n + 1]? = some x) (hne:x≠z):gC (xs.take (n + 2)):=by
 have e:=Ii hs h1 h2 hne
 rw [mK h] at e
 have e2:xs.take (n + 2) = xs.take (n + 1) ++ [x]:=by rw [Su (i:=n + 1),h2]; rfl
 rw [e2,← e]
 exact ew _
end Go.V
namespace Go.Proofs.YtngdohpikfcifaaGreatDoor
open Go.V
variable {w:World} {L:List aw}
theorem CM (w:World) (x y:aj):(Op.equalIn (9998 + 1 + 1) bu (.agg ⟨cg x⟩) (.agg ⟨cg y⟩)).run Tryz.prog w = .ok (decide (x = y)) w:=by
 have ht:Tryz.prog.underlying bu = some (.struct (Tryz.prog.fieldsOf bu)):=by kernel_rfl
 have hi:Tryz.prog.underlying eI = some (.int .i64):=bz
 have hf : (Tryz.prog.fieldsOf bu).toList = [{ name := "Prod", type := eI, offset := 0, embedded := false, tag := "", pkgPath := "", byteOffset := 0 }, { name := "Dot", type := eI, offset := 1, embedded := false, tag := "", pkgPath := "", byteOffset := 8 }] := by kernel_rfl
 have p0:∀ (v u:Value) (w:World),(part eI #[v,u] 0).run Tryz.prog w = .ok v w:=fun v u w=>by simp [part,c_ hi,dx,Kd.isAgg]
 have p1:∀ (v u:Value) (w:World),(part eI #[v,u] 1).run Tryz.prog w = .ok u w:=fun v u w=>by simp [part,c_ hi,dx,Kd.isAgg]
 have eqI:∀ n m d w,(Op.equalIn (d + 1) eI (.int .i64 n) (.int .i64 m)).run Tryz.prog w = .ok (n == m) w:=fun n m d w=>run_equalIn_int w d _ _ _ _ _ hi
 have e:decide (x = y) = (x.prod == y.prod && x.dot == y.dot):=by
  rw [S9]; simp only [Sy,SB,beq_iff_eq]
  exact ⟨fun h=>by subst h; exact ⟨rfl,rfl⟩,fun ⟨h1,h2⟩=>aj.ext' h1 h2⟩
 unfold cg
 rw [run_equalIn_agg w (9998 + 1) bu _ _ ht Dr,hf,e]
 unfold Op.eqFields
 simp only [ne_eq,String.reduceEq,not_false_eq_true,if_true,Sem.run_bind,p0,Result.andThen_ok,eqI]
 cases hq:(x.prod == y.prod)
 ·simp
 ·unfold Op.eqFields
  simp only [ne_eq,String.reduceEq,not_false_eq_true,if_true,Sem.run_bind,p1,Result.andThen_ok,eqI,Bool.not_true,T4,if_false]
  cases hn:(x.dot == y.dot)
  ·simp
  ·unfold Op.eqFields; simp
theorem DK (w:World) (xo yo:Operand) (x y:aj):Sem.run Tryz.prog (iX .eql bu xo yo (.agg ⟨cg x⟩) (.agg ⟨cg y⟩)) w = .ok (.bool (decide (x = y))) w:=by
 unfold iX
 rw [Sem.run_bind,run_eqGuard_agg w _ _ _ _ _ _ vV]
 simp only [Result.andThen_ok]
 rw [run_eql_struct]
 show ((Op.equalIn (9998 + 1 + 1) bu (.agg ⟨cg x⟩) (.agg ⟨cg y⟩)).run Tryz.prog w).andThen _ = _
 rw [CM]
 rfl
theorem LK (w:World) (xo yo:Operand) (x y:aj):Sem.run Tryz.prog (iX .neq bu xo yo (.agg ⟨cg x⟩) (.agg ⟨cg y⟩)) w = .ok (.bool (!decide (x = y))) w:=by
 unfold iX
 rw [Sem.run_bind,run_eqGuard_agg w _ _ _ _ _ _ vV]
 simp only [Result.andThen_ok]
 rw [run_neq_struct]
 show ((Op.equalIn (9998 + 1 + 1) bu (.agg ⟨cg x⟩) (.agg ⟨cg y⟩)).run Tryz.prog w).andThen _ = _
 rw [CM]
 rfl
end Go.Proofs.YtngdohpikfcifaaGreatDoor
namespace Go.V
theorem Ij {xs:List aj} {n:Nat} (h:n≤1):gC (xs.take n):=by
 match n,h with
 | 0,_=>simp
 | 1,_=>cases xs <;> simp
theorem LL {xs ys:List aj} (h:ys.Perm xs):lay ys = lay xs:=GQ (ew _) fun y=>by rw [dN,h.mem_iff]
end Go.V
namespace Go.Proofs.YtngdohpikfcifaaGreatDoor
open Go.V
variable {w:World} {L:List aw} {a:Option Addr} {l c:Nat} {xs:List aj}
theorem JN (h:St w (own 2 a l c (tv xs) :: L)) (hs:Q3 xs) (hb:l < 4611686018427387904) :
  aC Tryz.prog ff [.slice a l c] w fun v w'=>∃ a' c',v = .slice a' (lay xs).length c'∧St w' (own 2 a' (lay xs).length c' (tv (lay xs)) :: L):=by
 have hln:=ea h
 rw [df] at hln
 have hlc:=dJ h
 have hl:xs.length = l:=by omega
 refine eB _ _ _ w _ (ae (fun h1=>?_) fun h1=>?_)
 ·have h1:l < 2:=by have:=Si h1; omega
  have e:lay xs = xs:=mK (by have:=Ij (xs:=xs) (n:=l) (by omega); rwa [SD (by omega)] at this)
  rw [e,hl]; exact ⟨a,c,rfl,h⟩
 have h1:2≤l:=by have:=Sj h1; omega
 refine ⟨fun z w'=>∃ n:Nat,z = ((n + 1:Nat):Int)∧n + 1≤l∧gC (xs.take (n + 1))∧St w' (own 2 a l c (tv xs) :: L),fun z _=>l - z.toNat,⟨0,rfl,by omega,Ij (SF _),h⟩,?_⟩
 clear h
 rintro _ z w1 ⟨n,rfl,hn,hS,h⟩
 refine ae (fun h2=>?_) fun h2=>?_
 rotate_left
 ·have h2:l = n + 1:=by have:=Sj h2; omega
  have e:lay xs = xs:=mK (by rwa [SD (by omega)] at hS)
  rw [e,hl]; exact ⟨a,c,rfl,h⟩
 have h2:n + 1 < l:=by have:=Si h2; omega
 intro w2 hd
 have h:=h.eq (aD hd)
 have hr:=b9 h
 obtain ⟨x,ad,hx,rfl,cx⟩:=b_ hr h2
 obtain ⟨z,ad2,hz,e2,cz⟩:=b_ hr (by omega:n < l)
 cases e2
 have e1:((n + 1:Nat):Int) - 1 = (n:Int):=by omega
 rw [e1]
 refine ⟨fun u=>Gr w2 u,Gr.refl _,ay rfl h2 ⟨_,_,cx,⟨by omega,by omega⟩,ay rfl (by omega) ⟨_,_,cz,_,fun u _=>DK u _ _ x z,_,rfl,ae (fun h3=>?_) fun h3=>?_⟩⟩⟩
 rotate_left
 ·have h3:x≠z:=Sj h3
  exact ⟨⟨by omega,by omega⟩,⟨n + 1,by simp,h2,LI hs hS hz hx h3,h⟩,bA h2⟩
 have h3:x = z:=Si h3
 subst h3
 refine cJ (by omega) hlc ?_
 refine ⟨fun z y w'=>∃ (k t:Nat) (us:List aj),z = (k:Int)∧y = ((t + 1:Nat):Int)∧n + 1≤k∧k≤n + 1 + t∧n + 1 + t + 1≤l∧us.length = l∧us.drop k = xs.drop k∧us.take k = lay (xs.take (n + 1 + t + 1))∧St w' (own 2 (some ad) l c (tv us) :: L),fun _ y _=>l - y.toNat,
  ⟨n + 1,0,xs,rfl,rfl,SF _,SF _,by omega,hl,rfl,?_,h⟩,?_⟩
 ·rw [show n + 1 + 0 + 1 = n + 2 by omega,Ih hz hx,mK hS]
 clear h hr cx cz
 rintro _ _ _ w3 ⟨k,t,us,rfl,rfl,hk1,hk2,ht,hul,hud,hut,h⟩
 have hul2:(tv us).length = l * 2:=by rw [df,hul]
 refine ae (fun h3=>?_) fun h3=>?_
 rotate_left
 ·have h3:l = n + 1 + t + 1:=by have:=Sj h3; omega
  rw [← h3,SD (show xs.length≤l by omega)] at hut
  have hkl:(lay xs).length = k:=by rw [← hut,SN]; omega
  have hc:=CL (ty:=0) (c2:=c - k) aK (rfl:ag Ty BX = .slice _) (rfl:Ty bu = some _) rfl rfl (fun v hv=>by rcases SA.1 hv with rfl | hv; rfl; rw [SE] at hv; subst hv; rfl) (by show 0 < 2; decide) h (show k≤l by omega)
  refine cJ (by omega) hlc (hc.mono ?_)
  rintro _ w4 ⟨vs,hv,h⟩
  refine kR (by omega) ?_
  have h:=zQ h (k:=k) (by omega)
  have e:vs.take (k * 2) = tv (lay xs):=hv.trans (by rw [← hut]; exact NX us k)
  rw [hkl]
  exact ⟨_,_,rfl,by rw [← e]; exact h⟩
 have h3:t + 1 < l - (n + 1):=by have:=Si h3; omega
 intro w4 hd
 have h:=h.eq (aD hd)
 have hr:=(b9 h).drop (k:=n + 1) (m:=c) (by omega) hlc
 have same:∀ j,k≤j→us[j]? = xs[j]?:=fun j hj=>by
  have:=congrArg (fun l=>l[j - k]?) hud
  simp only [S8] at this
  rwa [show k + (j - k) = j by omega] at this
 obtain ⟨x2,ad3,hx2,e3,cx⟩:=b_ hr h3
 obtain ⟨z2,ad4,hz2,e4,cz⟩:=b_ hr (by omega:t < l - (n + 1))
 rw [e3] at e4
 cases e4
 rw [S8,same _ (by omega)] at hx2 hz2
 have e1:((t + 1:Nat):Int) - 1 = (t:Int):=by omega
 have hx3:xs[n + 1 + t + 1]? = some x2:=by rw [← hx2]; congr 1
 have hz3:xs[n + 1 + t]? = some z2:=by rw [← hz2]
 rw [e1]
 refine ⟨fun u=>Gr w4 u,Gr.refl _,ay e3 h3 ⟨_,_,cx,⟨by omega,by omega⟩,ay e3 (by omega) ⟨_,_,cz,_,fun u _=>LK u _ _ x2 z2,_,rfl,ae (fun h4=>?_) fun h4=>?_⟩⟩⟩
 rotate_left
 ·have h4:x2 = z2:=by simpa using h4
  subst h4
  refine ⟨⟨by omega,by omega⟩,⟨k,t + 1,us,rfl,by simp,hk1,by omega,by omega,hul,hud,?_,h⟩,bA (by omega)⟩
  rw [hut,show n + 1 + (t + 1) + 1 = n + 1 + t + 2 by omega,Ih hz3 hx3]
 have h4:x2≠z2:=by simpa using h4
 refine ay e3 h3 ⟨_,_,cx _ (Gr.refl _),ay rfl (by omega) ?_⟩
 rw [aH]
 refine Ia (i:=k * 2) h rfl (by rw [hul2]; simp; omega) (by simp [aS]) (by simp) fun w5 h=>?_
 rw [show (k * 2 + [Value.int .i64 x2.prod,Value.int .i64 x2.dot].length) = k * 2 + 2 from rfl,PT (by omega)] at h
 refine ⟨⟨by omega,by omega⟩,⟨by omega,by omega⟩,⟨k + 1,t + 1,us.set k x2,by simp,by simp,by omega,by omega,by omega,by rw [SL,hul],?_,?_,h⟩,bA (by omega)⟩
 ·rw [List.drop_set_of_lt (by omega),← List.drop_drop (i:=1),hud,List.drop_drop]
 ·have hku:k < us.length:=by omega
  rw [show n + 1 + (t + 1) + 1 = n + 1 + t + 2 by omega,Ii hs hz3 hx3 h4,← hut,Su,SY hku,List.take_set_of_le (SF _)]
  rfl
theorem LM (h:St w (own 2 a l c (tv xs) :: L)) (hb:l < 4611686018427387904) :
  aC Tryz.prog GX [.slice a l c] w fun v w'=>∃ a',v = .slice a' (lay xs).length (lay xs).length∧St w' (own 2 a' (lay xs).length (lay xs).length (tv (lay xs)) :: L):=by
 refine DH _ _ _ w _ ((NW h hb).mono ?_)
 rintro _ w1 ⟨rfl,ys,hp,hn,h⟩
 refine ⟨rfl,(JN h hn hb).mono ?_⟩
 rintro _ w2 ⟨a2,c2,rfl,h⟩
 have hlc:=dJ h
 refine ⟨_,_,_,rfl,fH _ _ _ w2 _ (fk hlc ?_)⟩
 have h:=fj h
 rw [LL hp] at h ⊢
 exact ⟨_,_,_,rfl,_,rfl,h⟩
end Go.Proofs.YtngdohpikfcifaaGreatDoor
namespace Go.V
open MapKept
section
variable {κ : Type} [DecidableEq κ] [MVal κ] {P:Program} {Ty:TypeId→Option di} {w:World} {L:List aw} {b r:Nat} {m:List (κ × Value)} {ks:List κ}
structure NY (es:Array MapEntry) (seen:Array Nat) (m:List (κ × Value)) (ks:List κ):Prop where
 perm:(ks.map MVal.val ++ (leftOf es seen).toList.map (·.key)).Perm (m.map fun x=>MVal.val x.1)
def CN (b r:Nat) (m:List (κ × Value)) (ks:List κ):aw:=ex fun (x:Array MapEntry × Nat × Array Nat)=>aT [pu (tX x.1 x.2.1 m∧NY x.1 x.2.2 m ks),blk b (.map x.1 x.2.1),blk r (.mapIter (some b) x.2.1 x.2.2 x.2.1)]
def DL (b r:Nat) (m:List (κ × Value)) (ks:List κ) (k:κ) (u:Value):aw:=ex fun (x:Array MapEntry × Nat × Array Nat × MapEntry) =>
 aT [pu (tX x.1 x.2.1 m∧NY x.1 (x.2.2.1.push x.2.2.2.born) m ks∧x.2.2.2∈x.1.toList∧x.2.2.2.key = MVal.val k∧x.2.2.2.val = u),blk b (.map x.1 x.2.1),blk r (.mapIter (some b) x.2.1 (x.2.2.1.push x.2.2.2.born) x.2.1)]
theorem sE:St w (CN b r m ks :: L)↔∃ es cl seen,tX es cl m∧NY es seen m ks∧St w (blk b (.map es cl) :: blk r (.mapIter (some b) cl seen cl) :: L):=by
 constructor
 ·intro h
  obtain ⟨⟨es,cl,seen⟩,h⟩:=St.ex.1 h
  obtain ⟨⟨h1,h2⟩,h3⟩:=St.pu.1 (St.flat.1 h)
  exact ⟨es,cl,seen,h1,h2,h3⟩
 ·rintro ⟨es,cl,seen,h1,h2,h3⟩
  exact St.ex.2 ⟨⟨es,cl,seen⟩,St.flat.2 (St.pu.2 ⟨⟨h1,h2⟩,h3⟩)⟩
theorem uD {k:κ} {u:Value}:St w (DL b r m ks k u :: L)↔∃ es cl,∃ (seen:Array Nat) (e:MapEntry),tX es cl m∧NY es (seen.push e.born) m ks∧e∈es.toList∧e.key = MVal.val k∧e.val = u∧St w (blk b (.map es cl) :: blk r (.mapIter (some b) cl (seen.push e.born) cl) :: L):=by
 constructor
 ·intro h
  obtain ⟨⟨es,cl,seen,e⟩,h⟩:=St.ex.1 h
  obtain ⟨⟨h1,h2,h3,h4,h5⟩,h6⟩:=St.pu.1 (St.flat.1 h)
  exact ⟨es,cl,seen,e,h1,h2,h3,h4,h5,h6⟩
 ·rintro ⟨es,cl,seen,e,h1,h2,h3,h4,h5,h6⟩
  exact St.ex.2 ⟨⟨es,cl,seen,e⟩,St.flat.2 (St.pu.2 ⟨⟨h1,h2,h3,h4,h5⟩,h6⟩)⟩
theorem JO {k:κ} {u:Value} (h:St w (DL b r m ks k u :: L)):St w (CN b r m ks :: L):=by
 obtain ⟨es,cl,seen,e,h1,h2,_,_,_,h6⟩:=uD.1 h
 exact sE.2 ⟨es,cl,_,h1,h2,h6⟩
theorem JP (h:St w (CN b r m ks :: L)):St w (mapA b m :: L):=by
 obtain ⟨es,cl,seen,h1,h2,h3⟩:=sE.1 h
 exact gX.2 ⟨es,cl,h1,h3.swap.tail⟩
theorem JQ (hT:dy P Ty) {t kt et:TypeId} (hk:ag Ty t = .map kt et) (h:St w (mapA b m :: L)) :
  az P (Instr.range t (.map (some b))) w fun v w'=>∃ r,v = .pointer (some ⟨r,0,none⟩)∧St w' (CN b r m ([] : List κ) :: L):=by
 obtain ⟨d,hd,hd'⟩:=cX hT hk (by simp)
 rw [vU hd'] at hd
 obtain ⟨es,cl,he,h⟩:=gX.1 h
 refine ⟨_,_,run_range_map w t kt et b es cl hd h.get,Ev.push w _,_,rfl,sE.2 ⟨es,cl,#[],he,⟨?_⟩,?_⟩⟩
 ·have e1:leftOf es #[] = es:=by unfold leftOf; simp
  rw [e1]
  have:=congrArg (List.map Prod.fst) he.eq
  simp only [List.map_map] at this
  have e2:es.toList.map (·.key) = m.map fun x=>MVal.val x.1:=this
  rw [e2]; exact .refl _
 ·exact (h.push (.mapIter (some b) cl #[] cl)).swap
theorem Fe (e:MapEntry):∀ (l:List MapEntry),(l.map (·.born)).Nodup→e∈l→l.Perm (e :: l.filter fun x=>decide (x.born≠e.born))
 | x :: l,hn,he=>by
  have hn' : x.born∉l.map (·.born)∧(l.map (·.born)).Nodup:=Te.1 hn
  rcases SA.1 he with rfl | h
  ·have:l.filter (fun x=>decide (x.born≠e.born)) = l:=List.filter_eq_self.2 fun x hx=>by
    rw [Sy]
    intro e'; exact hn'.1 (SG.2 ⟨x,hx,e'⟩)
   rw [List.filter_cons,Sr (by simp),this]
  ·have hx:x.born≠e.born:=fun e'=>hn'.1 (by rw [e']; exact SG.2 ⟨e,h,rfl⟩)
   rw [List.filter_cons,Sz (by simpa using hx)]
   exact (List.Perm.cons x (Fe e l hn'.2 h)).trans (.swap _ _ _)
theorem St.setIter {b' : Option Nat} {s c:Nat} {seen:Array Nat} (h:St w (blk r (.mapIter b' s seen c) :: L)) {w1:World} (hw:w1 = w∨w1 = w.drew) (o:Obj) (ho:Eg o = true:=by rfl):Ev w (ChangeMaps.setBlock w1 r o)∧St (ChangeMaps.setBlock w1 r o) (blk r o :: L):=by
 have h1:St w1 (blk r (.mapIter b' s seen c) :: L):=by
  rcases hw with rfl | rfl
  ·exact h
  ·exact h.same rfl
 have e1:Ev w w1:=by
  rcases hw with rfl | rfl
  ·exact Ev.refl _
  ·exact Ev.drew _ _
 refine ⟨e1.trans ⟨rfl,rfl,rfl,by simp [ChangeMaps.setBlock],?_,?_⟩,h1.setObj o ho⟩ <;>
 ·intro x d hx
  unfold ChangeMaps.setBlock
  rw [Tm]; exact hx
  intro e; subst e; rw [h1.get] at hx; cases hx
theorem PU {es:Array MapEntry} {cl:Nat} {e:MapEntry} (h:tX es cl m) (he:e∈es.toList):∃ k,(k,e.val)∈m∧e.key = MVal.val k:=by
 have:(e.key,e.val)∈es.toList.map fun e=>(e.key,e.val):=SG.2 ⟨e,he,rfl⟩
 rw [h.eq] at this
 obtain ⟨x,hx,e2⟩:=SG.1 this
 injection e2 with e3 e4
 refine ⟨x.1,?_,e3.symm⟩
 rw [← e4]; exact hx
theorem val_inj {a c:κ} (h:MVal.val a = MVal.val c):a = c:=MVal.inj a c h
theorem Ff {α β : Type} {f:α→β} (hf:∀ a c,f a = f c→a = c):∀ {l l' : List α},(l.map f).Perm (l'.map f)→l.Perm l'
 | [],[],_=>.refl _
 | [],_ :: _,h=>by have:=h.length_eq; simp at this
 | a :: l,l',h=>by
  have hm:f a∈l'.map f:=h.subset (by simp)
  obtain ⟨x,hx,e⟩:=SG.1 hm
  have:=hf _ _ e
  subst this
  obtain ⟨s,t,rfl⟩:=TQ hx
  have h2:(f x :: l.map f).Perm (f x :: (s ++ t).map f):=h.trans (by
   rw [SU,S0,SU]; exact Tq)
  exact (List.Perm.cons x (Ff hf ((List.perm_cons _).1 h2))).trans Tq.symm
theorem LN {ty:TypeId} (h:St w (CN b r m ks :: L)):az P (Instr.next (.pointer (some ⟨r,0,none⟩)) false ty) w fun v w' =>
  (v = .tuple #[.bool false]∧ks.Perm (m.map Prod.fst)∧St w' (mapA b m :: L)) ∨
  ∃ (k:κ) (u:Value),(k,u)∈m∧v = .tuple #[.bool true,MVal.val k,u]∧ks.length < m.length∧St w' (DL b r m (ks ++ [k]) k u :: L):=by
 have hmap:=JP h
 obtain ⟨es,cl,seen,h1,h2,h3⟩:=sE.1 h
 rcases run_next_at (P:=P) w ty r b cl cl seen es cl h3.swap.get h3.get h1.lt (SF _) with ⟨h4,h5⟩ | ⟨e,he,w1,hw,h5⟩
 ·refine ⟨_,_,h5,Ev.refl _,.inl ⟨rfl,?_,hmap⟩⟩
  have h6:=h2.perm
  have e1:(leftOf es seen).toList = []:=SV (by simpa using h4)
  rw [e1,List.map_nil,S6] at h6
  have e2:(m.map fun x=>MVal.val (κ:=κ) x.1) = (m.map Prod.fst).map MVal.val:=by rw [List.map_map]; rfl
  rw [e2] at h6
  exact Ff (fun a c=>val_inj) h6
 ·have hes:e∈es.toList:=by unfold leftOf at he; simp at he ⊢; exact he.1
  obtain ⟨k,hkm,hk⟩:=PU h1 hes
  obtain ⟨hev,hst⟩:=St.setIter (h3.swap) hw (.mapIter (some b) cl (seen.push e.born) cl)
  have hnd:((leftOf es seen).toList.map (·.born)).Nodup:=by
   refine h1.nd.sublist ?_
   unfold leftOf
   rw [Array.toList_filter]
   exact List.Sublist.map _ List.filter_sublist
  have hout:=Fe e _ hnd he
  have e3:(leftOf es seen).toList.filter (fun x=>decide (x.born≠e.born)) = (leftOf es (seen.push e.born)).toList:=by
   unfold leftOf
   rw [Array.toList_filter,Array.toList_filter,List.filter_filter]
   congr 1
   funext x
   simp only [Array.contains_push,ne_eq]
   rw [S9]
   simp only [SB,Sy,Tt,Bool.or_eq_false_iff,TK,ne_eq]
   constructor
   ·rintro ⟨a,c⟩; exact ⟨c,fun e'=>a e'⟩
   ·rintro ⟨a,c⟩; exact ⟨fun e'=>c e',a⟩
  rw [e3] at hout
  have hp:=h2.perm
  have hp2:(MVal.val k :: (leftOf es (seen.push e.born)).toList.map (·.key)).Perm ((leftOf es seen).toList.map (·.key)):=by
   have:=(hout.map (·.key)).symm
   rw [S0,hk] at this
   exact this
  refine ⟨_,_,h5,hev,.inr ⟨k,e.val,hkm,by rw [hk],?_,uD.2 ⟨es,cl,seen,e,h1,⟨?_⟩,hes,hk,rfl,hst.swap⟩⟩⟩
  ·have:=hp.length_eq
   have l2:=hp2.length_eq
   simp at this l2; omega
  ·refine List.Perm.trans ?_ hp
   rw [SU,S0,List.map_nil,SI]
   exact List.Perm.append_left _ hp2
theorem JR {k:κ} {u:Value} (h:St w (DL b r m ks k u :: L)):az P (Instr.entry (.pointer (some ⟨r,0,none⟩))) w fun v w'=>v = .tuple #[MVal.val k,u]∧w' = w:=by
 obtain ⟨es,cl,seen,e,h1,h2,hes,hk,hu,h3⟩:=uD.1 h
 have:=run_entry_at (P:=P) w r b cl seen es cl e h3.swap.get h3.get hes h1.nd
 rw [hk,hu] at this
 exact ⟨_,_,this,Ev.refl _,rfl,rfl⟩
end
end Go.V
namespace Go.V
section
variable {κ α : Type} [DecidableEq κ] {w:World} {L:List aw} {b sz:Nat} {f:List α→List Value} {s t:κ}
abbrev Lq (α : Type):=(Option Addr × Nat) × List α
def bF (q:Lq α):Value:=.slice q.1.1 q.2.length q.1.2
def bX (sz:Nat) (f:List α→List Value) (q:Lq α):aw:=own sz q.1.1 q.2.length q.1.2 (f q.2)
def mV (ps:List (κ × Lq α)):List (κ × Value):=ps.map fun q=>(q.1,bF q.2)
def mO (sz:Nat) (f:List α→List Value) (ps:List (κ × Lq α)):List aw:=ps.map fun q=>bX sz f q.2
def cP (s:κ):List (κ × Lq α)→Option (Lq α)
 | []=>none
 | (a,q) :: m=>if s = a then some q else cP s m
def gP (s:κ) (ps:List (κ × Lq α)):List α:=match cP s ps with | some q=>q.2 | none=>[]
def jg (s:κ) (q:Lq α):List (κ × Lq α)→List (κ × Lq α)
 | []=>[(s,q)]
 | (a,u) :: m=>if s = a then (s,q) :: m else (a,u) :: jg s q m
theorem gl:∀ ps:List (κ × Lq α),assoc s (mV ps) = (cP s ps).map bF
 | []=>rfl
 | (a,q) :: m=>by
  show (if s = a then some (bF q) else assoc s (mV m)) = _
  unfold cP
  split
  ·rfl
  ·exact gl m
theorem LO (q:Lq α):∀ ps:List (κ × Lq α),mV (jg s q ps) = bx s (bF q) (mV ps)
 | []=>rfl
 | (a,u) :: m=>by
  unfold jg
  show _ = (if s = a then (s,bF q) :: mV m else (a,bF u) :: bx s (bF q) (mV m))
  split
  ·rfl
  ·rw [← LO q m]; rfl
theorem Fg (q:Lq α):∀ ps:List (κ × Lq α),cP t (jg s q ps) = if t = s then some q else cP t ps
 | []=>by simp [jg,cP]
 | (a,u) :: m=>by
  unfold jg
  by_cases h:s = a
  ·subst h
   by_cases ht:t = s <;> simp [cP,ht]
  ·rw [Sr h]
   unfold cP
   rw [Fg q m]
   by_cases ht:t = a
   ·subst ht; simp [TM h]
   ·simp [ht]
theorem jI (q:Lq α) (ps:List (κ × Lq α)):gP t (jg s q ps) = if t = s then q.2 else gP t ps:=by
 unfold gP; rw [Fg]; by_cases h:t = s <;> simp [h]
theorem xM (q:Lq α):∀ ps:List (κ × Lq α),(jg s q ps).map Prod.fst = if s∈ps.map Prod.fst then ps.map Prod.fst else ps.map Prod.fst ++ [s]
 | []=>by simp [jg]
 | (a,u) :: m=>by
  unfold jg
  by_cases h:s = a
  ·subst h; simp
  ·rw [Sr h,S0,xM q m]
   by_cases h2:s∈m.map Prod.fst
   ·simp [h,h2]
   ·simp [h,h2]
theorem Ik (q:Lq α) {ps:List (κ × Lq α)} (h:(ps.map Prod.fst).Nodup):((jg s q ps).map Prod.fst).Nodup:=by
 rw [xM]
 split
 ·exact h
 ·rename_i hn
  rw [SX]
  exact ⟨h,by simp,fun a ha c hc e=>by simp at hc; subst hc; subst e; exact hn ha⟩
theorem Fh {q:Lq α}:∀ {ps:List (κ × Lq α)},cP s ps = some q→(s,q)∈ps
 | [],h=>by cases h
 | (a,u) :: m,h=>by
  unfold cP at h
  split at h
  ·rename_i e; subst e; cases h; simp
  ·exact T7 _ (Fh h)
theorem LP {ps:List (κ × Lq α)}:(cP s ps).isSome = true↔s∈ps.map Prod.fst:=by
 induction ps with
 | nil=>simp [cP]
 | cons x m ih =>
  obtain ⟨a,u⟩:=x
  unfold cP
  by_cases h:s = a
  ·simp [h]
  ·rw [Sr h,ih]; simp [h]
theorem Fi (sz:Nat) (f:List α→List Value) (s:κ):∀ ps:List (κ × Lq α),
  (∃ q M,cP s ps = some q∧(mO sz f ps).Perm (bX sz f q :: M)∧∀ q',(mO sz f (jg s q' ps)).Perm (bX sz f q' :: M))∨(cP s ps = none∧∀ q',(mO sz f (jg s q' ps)).Perm (bX sz f q' :: mO sz f ps))
 | []=>.inr ⟨rfl,fun q'=>.refl _⟩
 | (a,u) :: m=>by
  by_cases h:s = a
  ·refine .inl ⟨u,mO sz f m,by simp [cP,h],.refl _,fun q'=>?_⟩
   simp only [jg,h,if_true]; exact .refl _
  ·rcases Fi sz f s m with ⟨q,M,h1,h2,h3⟩ | ⟨h1,h2⟩
   ·refine .inl ⟨q,bX sz f u :: M,by simp [cP,h,h1],(List.Perm.cons _ h2).trans (.swap _ _ _),fun q'=>?_⟩
    simp only [jg,h,if_false]
    exact (List.Perm.cons _ (h3 q')).trans (.swap _ _ _)
   ·refine .inr ⟨by simp [cP,h,h1],fun q'=>?_⟩
    simp only [jg,h,if_false]
    exact (List.Perm.cons _ (h2 q')).trans (.swap _ _ _)
theorem sF (hf:f [] = []) {ps:List (κ × Lq α)} (h:St w (aT (mO sz f ps) :: L)) (s:κ):∃ (q:Lq α) (M:List aw),(assoc s (mV ps)).getD (.slice none 0 0) = bF q∧q.2 = gP s ps∧St w (bX sz f q :: aT M :: L) ∧
  ∀ (w' : World) (L' : List aw) (q' : Lq α),St w' (bX sz f q' :: aT M :: L')→St w' (aT (mO sz f (jg s q' ps)) :: L'):=by
 have back:∀ (M:List aw) (q' : Lq α),(mO sz f (jg s q' ps)).Perm (bX sz f q' :: M)→∀ (w' : World) (L' : List aw),St w' (bX sz f q' :: aT M :: L')→St w' (aT (mO sz f (jg s q' ps)) :: L'):=fun M q' hp w' L' h=>by
  have h1:=St.flat.1 h.swap
  have h2:St w' ((bX sz f q' :: M) ++ L'):=h1.perm Tq
  exact St.flat.2 (h2.perm (hp.symm.append_right _))
 rcases Fi sz f s ps with ⟨q,M,h1,h2,h3⟩ | ⟨h1,h2⟩
 ·refine ⟨q,M,by rw [gl,h1]; rfl,by unfold gP; rw [h1],?_,fun w' L' q'=>back M q' (h3 q') w' L'⟩
  have h4:=(St.flat.1 h).perm (h2.append_right _)
  have h5:St w (M ++ (bX sz f q :: L)):=h4.perm Tq.symm
  exact (St.flat.2 h5).swap
 ·refine ⟨((none,0),[]),mO sz f ps,by rw [gl,h1]; rfl,by unfold gP; rw [h1],?_,fun w' L' q'=>back _ q' (h2 q') w' L'⟩
  unfold bX; rw [hf]; exact aB sz h
theorem A3:∀ {L:List aw} {i:Nat} (h:i < L.length),sR L i = L[i]
 | [],i,h=>by simp at h
 | A :: L,0,_=>rfl
 | A :: L,i + 1,h=>by
  show sR L i = _
  rw [A3 (L:=L) (by simpa using h)]; rfl
theorem Il {ps:List (κ × Lq α)} {h:Hp} (hs:aE (aT (mO sz f ps) :: L) h) {q:Lq α} (hq:cP s ps = some q):∃ h1,sub h1 h∧bX sz f q h1:=by
 have h2:=jv.1 hs
 have hm:bX sz f q∈mO sz f ps:=SG.2 ⟨(s,q),Fh hq,rfl⟩
 obtain ⟨i,hi⟩:=SP hm
 have hlt:=(Sk.1 hi).1
 obtain ⟨h1,s1,ha⟩:=dG i (by rw [Sx]; omega) h2
 have e:sR (mO sz f ps ++ L) i = bX sz f q:=by
  rw [A3 (by rw [Sx]; omega),List.getElem_append_left hlt]
  exact (Sk.1 hi).2
 rw [e] at ha
 exact ⟨h1,s1,ha⟩
end
section
variable {κ : Type} [DecidableEq κ] [MVal κ] {P:Program} {Ty:TypeId→Option di} {w:World} {b:Nat} {m:List (κ × Value)} {h:Hp}
theorem xN {α : Type} {sz:Nat} {f:List α→List Value} {L:List aw} {s:κ} {ps:List (κ × Lq α)} {M:List aw} (back:∀ (w' : World) (L' : List aw) (q' : Lq α),St w' (bX sz f q' :: aT M :: L')→St w' (aT (mO sz f (jg s q' ps)) :: L'))
  {o:Option Addr} {n c:Nat} (us:List α) {vs:List Value} (hn:n = us.length) (hv:vs = f us) (h:St w (mapA b (bx s (.slice o n c) (mV ps)) :: own sz o n c vs :: aT M :: L)) :
  St w (mapA b (mV (jg s ((o,c),us) ps)) :: aT (mO sz f (jg s ((o,c),us) ps)) :: L):=by
 subst hn; subst hv
 have e:mV (jg s ((o,c),us) ps) = bx s (.slice o us.length c) (mV ps):=LO _ _
 rw [e]
 exact (back w _ ((o,c),us) (h.pick 3 [1,2,0])).swap
theorem JS {A:aw} (hA:A h):aE [A] h:=⟨h,fun _=>none,fun _=>.inr rfl,sub.refl _,fun _ _ h=>(nomatch h),hA,trivial⟩
theorem dg {h' : Hp} (s:sub h h') (hm:mapA b m h):mapA b m h':=by
 obtain ⟨es,cl,h1,h2⟩:=hm
 exact ⟨es,cl,s _ _ h1,h2⟩
theorem cQ (hm:mapA b m h) (s:sub h (hp w)) (hT:dy P Ty) {t kt et:TypeId} {i:di} {z:Value} (hk:ag Ty t = .map kt et) (hkt:uw P kt κ) (hi:Ty et = some i) (hz:i.zero = some z) (k:κ) :
  az P (Instr.lookup t (.map (some b)) (MVal.val k) false) w fun v w'=>v = (assoc k m).getD z∧w' = w :=
 qA (L:=[]) hT hk hkt hi hz (JS (dg s hm)) k
end
section
variable {κ : Type} [DecidableEq κ] [vR κ] {P:Program} {Ty:TypeId→Option di} {w:World} {b:Nat} {m:List (κ × Value)} {h:Hp}
theorem Fj (hm:mapA b m h) (s:sub h (hp w)) (hT:dy P Ty) {t kt et:TypeId} {i:di} {z:Value} (hk:ag Ty t = .map kt et) (hkt:P.underlying kt = some (vR.kd κ)) (hi:Ty et = some i) (hz:i.zero = some z) (k:κ) :
  az P (Instr.lookup t (.map (some b)) (MVal.val k) false) w fun v w'=>v = (assoc k m).getD z∧w' = w:=cQ hm s hT hk (uw.AK hkt) hi hz k
end
end Go.V
namespace Go.V
def JT (g:af) (j:Nat) (s:Int):List Nat:=(List.range j).filter fun i=>decide ((g.prods[i]?.map aJ.left) = some s)
abbrev A4 (g:af) (s:Int):List Nat:=JT g g.prods.length s
theorem qQ {g:af} {j:Nat} {p:aJ} (h:g.prods[j]? = some p) (s:Int):JT g (j + 1) s = JT g j s ++ if s = p.left then [j] else []:=by
 unfold JT
 rw [TX,Th]
 congr 1
 by_cases e:s = p.left
 ·subst e; simp [h]
 ·simp [h,e,TM e]
theorem DM (g:af) (j:Nat) (s:Int):(JT g j s).length≤j:=by
 have:=Tj (fun i=>decide ((g.prods[i]?.map aJ.left) = some s)) (List.range j)
 rwa [Ts] at this
theorem nL {g:af} {s:Int} {i:Nat}:i∈A4 g s↔∃ p,g.prods[i]? = some p∧p.left = s:=by
 unfold A4 JT
 rw [S7,SO,Sy]
 constructor
 ·rintro ⟨h1,h2⟩
  refine ⟨g.prods[i],Sm h1,?_⟩
  rw [Sm h1] at h2
  exact Option.some.inj h2
 ·rintro ⟨p,h1,rfl⟩
  exact ⟨(Sk.1 h1).1,by rw [h1]; rfl⟩
structure O3 (h:Hp) (g:af) (k:Nat):Prop where
 ex:∃ (x:GA) (kb:Nat) (m:List (Int × Value)),ax h (aM k) (x.cells ++ [.map (some kb)])∧gR h g x∧mapA kb m h ∧
  ∀ s:Int,∃ (a:Option Addr) (c:Nat),(assoc s m).getD (.slice none 0 0) = .slice a (A4 g s).length c∧aW h ((A4 g s).map Int.ofNat) a (A4 g s).length
theorem O3.mono {h h' : Hp} {g:af} {k:Nat} (s:sub h h') (r:O3 h g k):O3 h' g k:=by
 obtain ⟨x,kb,m,h1,h2,h3,h4⟩:=r.ex
 exact ⟨x,kb,m,h1.mono s,h2.mono s,dg s h3,fun z=>by obtain ⟨a,c,e,r⟩:=h4 z; exact ⟨a,c,e,r.mono s⟩⟩
end Go.V
namespace Go.Proofs.YtngdohpikfcifaaGreatDoor
open Go.V
variable {w:World} {L:List aw} {a:Option Addr} {l c:Nat} {xs:List aj} {g:af} {x:GA}
theorem Q4 (hg:gR (hp w) g x) (hb:iM g):aC Tryz.prog LC [.agg ⟨x.cells⟩] w fun v w'=>∃ (k kb:Nat) (ps:List (Int × Lq Int)),v = .pointer (some (aM k))∧(∀ s,gP s ps = (A4 g s).map Int.ofNat)∧St w' (aR k (x.cells ++ [.map (some kb)]) :: mapA kb (mV ps) :: aT (mO 1 iv ps) :: all w):=by
 refine GW _ _ _ _ _ _ _ _ _ _ _ _ _ w _ ?_
 refine de hg fun k1 w1 gw hg B=>?_
 have pl:=hg.p.1
 obtain ⟨_,_,_,b4,_,_,_⟩:=hb
 refine ⟨_,_,_,_,_,_,_,_,_,_,_,_,_,B.row (sub.refl _),?_⟩
 refine mg (St.all w1) fun kb w2 h=>?_
 have h:=dC (κ:=Int) h
 refine ah (vs:=x.cells ++ [.map (some kb)]) h fun km w3 h=>?_
 refine ⟨_,_,_,B.c4 (aZ 2 h.l),fun z w'=>∃ (j:Nat) (ps:List (Int × Lq Int)),z = j∧j≤x.pl∧(∀ s,gP s ps = (JT g j s).map Int.ofNat)∧St w' (aR km (x.cells ++ [.map (some kb)]) :: mapA kb (mV ps) :: aT (mO 1 iv ps) :: all w1),fun z _=>x.pl - z.toNat,
  ⟨0,[],rfl,Sv _,fun s=>rfl,(show St w3 (aR km (x.cells ++ [.map (some kb)]) :: mapA kb ([] : List (Int × Value)) :: aT [] :: all w1) from by
   have h:=h.pick 2 [1,0]
   exact ((St.flat (M:=[])).2 h).pick 3 [2,1,0])⟩,?_⟩
 clear h
 rintro _ _ w4 ⟨j,ps,rfl,hj,hps,h⟩
 have s4:sub (hp w1) (hp w4):=aZ 3 h.l
 refine ae (fun h1=>?_) fun h1=>?_
 rotate_left
 ·have h1:j = x.pl:=by have:=Sj h1; omega
  subst h1
  rw [← pl] at hps
  exact ⟨km,kb,ps,rfl,hps,St.on (N:=[_,_,_]) h (cE gw)⟩
 have h1:j < x.pl:=by have:=Si h1; omega
 obtain ⟨p,ad,vs,hp1,hpa,hp2,ra,rl,rc,rfl,hrc,hp3⟩:=hg.p.get h1
 refine ay hpa h1 ⟨_,_,_,_,_,hp2.at s4 rfl,ah h fun k16 w5 h=>bh h rfl (by simp [aS]) fun w6 h=>?_⟩
 intro w7 hd
 have h:=h.eq (aD hd)
 have cm:∀ {u:World} {L' : List aw},St u (aR km (x.cells ++ [.map (some kb)]) :: L')→u.cell? ((aM km).add 5) = some (.map (some kb)):=fun h=>(ai 0 h.l).cell (sub.refl _) (j:=5) rfl
 have cp:∀ {u:World} {L' : List aw},St u (aR k16 [.int .i64 p.left,.slice ra rl rc,.int .i64 p.level] :: L')→u.cell? (aM k16) = some (.int .i64 p.left):=fun h=>(ai 0 h.l).cell0 (sub.refl _)
 refine ⟨fun u=>u.cell? ((aM km).add 5) = some (.map (some kb))∧u.cell? (aM k16) = some (.int .i64 p.left),⟨cm (h.pick 2 [1]),cp h⟩,_,fun u hu=>hu.1,_,fun u hu=>hu.2,_,fun u hu=>hu.1,_,fun u hu=>hu.2,?_,?_⟩
 ·refine (bW (κ:=Int) aK (rfl:ag Ty _ = .map _ _) bz rfl rfl (h.pick 3 [2]) p.left).mono ?_
  rintro _ _ ⟨rfl,rfl⟩
  obtain ⟨q,M,e1,e2,hq,back⟩:=sF rfl (h.pick 4 [3,0,1,2]) p.left
  have hql:q.2.length≤j:=by rw [e2,hps,Ss]; exact DM _ _ _
  refine ⟨_,_,_,e1,⟨cm (hq.pick 4 [3]),cp (hq.pick 3 [2])⟩,ah hq fun k19 w13 h=>⟨⟨cm (h.pick 5 [4]),cp (h.pick 4 [3])⟩,?_⟩⟩
  refine (aQ (us:=iv q.2) aK (rfl:ag Ty _ = .slice _) (rfl:ag Ty _ = .slice _) rfl rfl rfl h rfl (by simp [aS]) (by show (q.2.length + 1) * 8≤_; omega) (by omega)).mono ?_
  rintro _ w14 ⟨o,c',rfl,h⟩
  refine ⟨_,_,_,rfl,⟨cm (h.pick 5 [4]),cp (h.pick 4 [3])⟩,(cH (κ:=Int) aK (rfl:ag Ty _ = .map _ _) bz (h.pick 7 [5,0,2,4,6]) p.left _).mono ?_⟩
  rintro _ w15 h
  have h:=xN back (q.2 ++ [(j:Int)]) (by simp) (by simp [iv]) h
  exact ⟨⟨by omega,by omega⟩,⟨j + 1,_,by simp,h1,fun s=>by rw [jI,qQ hp1,e2,hps]; by_cases e:s = p.left <;> simp [e,hps],h.pick 4 [2,0,1,3]⟩,bA h1⟩
 ·refine ah h fun k22 w16 h=>⟨⟨cm (h.pick 3 [2]),cp (h.pick 2 [1])⟩,(bW (κ:=Int) aK (rfl:ag Ty _ = .map _ _) bz rfl rfl (h.pick 4 [3]) p.left).mono ?_⟩
  rintro _ _ ⟨rfl,rfl⟩
  obtain ⟨q,M,e1,e2,hq,back⟩:=sF rfl (h.pick 5 [4,0,1,2,3]) p.left
  have hql:q.2.length≤j:=by rw [e2,hps,Ss]; exact DM _ _ _
  refine ⟨_,_,_,e1,⟨cm (hq.pick 5 [4]),cp (hq.pick 4 [3])⟩,?_⟩
  refine (aQ (us:=iv q.2) aK (rfl:ag Ty _ = .slice _) (rfl:ag Ty _ = .slice _) rfl rfl rfl (hq.pick 3 [2,0,1]) rfl (by simp [aS]) (by show (q.2.length + 1) * 8≤_; omega) (by omega)).mono ?_
  rintro _ w14 ⟨o,c',rfl,h⟩
  refine ⟨_,_,_,rfl,⟨cm (h.pick 5 [4]),cp (h.pick 4 [3])⟩,(cH (κ:=Int) aK (rfl:ag Ty _ = .map _ _) bz (h.pick 7 [5,0,2,4,6]) p.left _).mono ?_⟩
  rintro _ w15 h
  have h:=xN back (q.2 ++ [(j:Int)]) (by simp) (by simp [iv]) h
  exact ⟨⟨by omega,by omega⟩,⟨j + 1,_,by simp,h1,fun s=>by rw [jI,qQ hp1,e2,hps]; by_cases e:s = p.left <;> simp [e,hps],h.pick 4 [2,0,1,3]⟩,bA h1⟩
theorem Q5 {h:Hp} {k kb:Nat} {ps:List (Int × Lq Int)} (hg:gR h g x) (hps:∀ s,gP s ps = (A4 g s).map Int.ofNat) (hs:aE (aR k (x.cells ++ [.map (some kb)]) :: mapA kb (mV ps) :: aT (mO 1 iv ps) :: L) h):O3 h g k:=by
 obtain ⟨hm,sm,hA⟩:=M4 1 hs
 refine ⟨x,kb,mV ps,ai 0 hs,hg,dg sm hA,fun s=>?_⟩
 have e:=hps s
 cases hq:cP s ps with
 | none =>
  have e0:gP s ps = []:=by unfold gP; rw [hq]
  rw [e0] at e
  have e1:A4 g s = []:=List.map_eq_nil_iff.1 e.symm
  rw [gl,hq,e1]
  exact ⟨none,0,rfl,aW.nil⟩
 | some q =>
  have e0:gP s ps = q.2:=by unfold gP; rw [hq]
  rw [e0] at e
  obtain ⟨hq1,sq,ho⟩:=Il (bq (bq hs)) hq
  have hl:q.2.length = (A4 g s).length:=by rw [e,Ss]
  refine ⟨q.1.1,q.1.2,by rw [gl,hq]; show bF q = _; unfold bF; rw [hl],?_⟩
  rw [← e,← hl]
  exact (b8 rfl (bV ho)).mono sq
def A5 (g:af) (I:List aj):Prop:=∀ x∈I,mL g x
theorem Fk {k:Nat} {y:aj} (hm:O3 (hp w) g k) (hf:mL g y) :
  aC Tryz.prog uC [.pointer (some (aM k)),.agg (cg y).toArray] w fun v w'=>v = .int .i64 (dO g y)∧Gr w w':=by
 obtain ⟨x,kb,m,h1,hg,_,_⟩:=hm.ex
 obtain ⟨h2,h3,p,hpr,h4⟩:=hf
 refine qN _ _ _ w _ (ah (St.all w) fun k1 w1 h=>?_)
 intro w2 hd
 have h:=h.eq (aD hd)
 have g2:Gr w w2:=h.aX
 have r2:ax (hp w2) (aM k1) [.int .i64 y.prod,.int .i64 y.dot]:=ai 0 h.l
 obtain ⟨n,hn⟩ : ∃ n:Nat,y.prod = n:=⟨y.prod.toNat,by omega⟩
 obtain ⟨d,hdn⟩ : ∃ d:Nat,y.dot = d:=⟨y.dot.toNat,by omega⟩
 have hpn:g.prods[n]? = some p:=by rw [hn] at hpr; exact hpr
 have hnl:n < x.pl:=by have:=(Sk.1 hpn).1; have:=hg.p.1; omega
 obtain ⟨p',pad,vs,hp1,hpa,hp2,ra,rl,rc,rfl,hrc,hp3⟩:=hg.p.get hnl
 rw [hpn] at hp1; cases hp1
 have hrl:=hp3.1
 refine ⟨fun u=>Gr w2 u,Gr.refl _,x.pa,x.pl,x.pc,fun u s=>h1.cell (sub.trans g2 s) (j:=4) rfl,_,fun u s=>r2.cell0 s,?_⟩
 rw [hn]
 refine ay hpa hnl ⟨_,_,_,fun u s=>hp2.cell (sub.trans g2 s) (j:=1) rfl,_,r2.cell (sub.refl _) (j:=1) rfl,?_⟩
 rw [qF hpr,hdn,SJ]
 refine ae (fun h5=>?_) fun h5=>?_
 ·have h5:d = rl:=by have:=eq_of_beq h5; omega
  rw [Sq,SH (by omega)]
  exact ⟨rfl,g2⟩
 ·have h5:d≠rl:=fun e=>by subst e; simp at h5
  obtain ⟨v,ad,hv,hva,cv⟩:=hp3.bL (i:=d) (by omega)
  refine ⟨_,(r2.cell (sub.refl _) (j:=1) rfl),?_⟩
  show idx ra rl y.dot 1 _
  rw [hdn]
  refine aq hva (by omega) ⟨v,cv _ g2,?_⟩
  rw [Sq,hv]
  exact ⟨rfl,g2⟩
end Go.Proofs.YtngdohpikfcifaaGreatDoor
namespace Go.V
theorem Q6 {n:Nat} (h:(n + 1) * 16≤140737488355328):n < 9223372036854775807:=by omega
theorem gQ {α : Type}:∀ {l m:List α},l.Nodup→(∀ x∈l,x∈m)→l.length≤m.length
 | [],m,_,_=>Sv _
 | a :: l,m,h,hs=>by
  obtain ⟨m1,m2,rfl⟩:=TQ (hs a (by simp))
  rw [Te] at h
  have:=gQ (l:=l) (m:=m1 ++ m2) h.2 fun x hx=>by
   have h1:=hs x (by simp [hx])
   rw [Sp,SA] at h1
   rw [Sp]
   rcases h1 with h1 | rfl | h1
   ·exact .inl h1
   ·exact absurd hx h.1
   ·exact .inr h1
  simp at this ⊢; omega
def CO (i:Nat):aj:=⟨(i:Int),0⟩
theorem zq.or {g:af} {I:List aj} {x:aj} (h:zq g I x):x∈I∨∃ i,i < g.prods.length∧x = CO i:=by
 cases h with
 | base h=>exact .inl h
 | step _ _ hp _=>exact .inr ⟨_,(Sk.1 hp).1,rfl⟩
theorem DN (g:af) (I:List aj):(cls g I).length≤I.length + g.prods.length:=by
 have:=gQ (m:=I ++ (List.range g.prods.length).map CO) (DC (g:=g) (I:=I)).nodup fun x hx=>by
  rw [Sp]
  rcases (sC.1 hx).or with h | ⟨i,hi,rfl⟩
  ·exact .inl h
  ·exact .inr (SG.2 ⟨i,SO.2 hi,rfl⟩)
 simpa using this
theorem qR {h:Hp} {xs:List aj} {a:Option Addr} {l:Nat} (r:aW h xs a l):gN a (tv xs) h:=by
 cases xs with
 | nil=>exact .inl rfl
 | cons x0 xs' =>
  obtain ⟨ad,vs,rfl,_⟩:=r.2 0 x0 rfl
  refine .inr ⟨ad,rfl,xK (n:=2) (fun _=>rfl) _ ad fun i x hx=>?_⟩
  obtain ⟨ad',vs,e,h2,h3⟩:=r.2 i x hx
  cases e
  rw [show vs = cg x from h3] at h2
  exact h2
theorem A6 (xs:List aj):∀ v∈tv xs,aS v = true:=fun v hv=>by
 obtain ⟨x,_,hv⟩:=T2.1 hv
 rcases SA.1 hv with rfl | hv
 ·rfl
 ·rw [SE] at hv; subst hv; rfl
theorem sG {P:Program} {Ty:TypeId→Option di} {w:World} {L:List aw} {e e' : TypeId} (hT:dy P Ty) {t tx ty:TypeId} {i:di} {z:Value} (hk:ag Ty t = .slice e) (hkx:ag Ty tx = .slice e') (hi:Ty e = some i) (hz:i.zero = some z) (hzs:(cellsOf z).length = i.size)
  {a a2:Option Addr} {l c n c2:Nat} {us news:List Value} (h:St w (own i.size a l c us :: L)) (hn:news.length = n * i.size) (h0:0 < i.size) (hx:gN a2 news (hp w)) (h1:∀ u∈news,aS u = true) (hb:(l + n) * i.bytes≤140737488355328) (h63:l + n≤9223372036854775807) :
  az P (Builtin.append_ (Array.mk [t,tx]) ty (Array.mk [.slice a l c,.slice a2 n c2])) w fun v w'=>∃ a' c',v = .slice a' (l + n) c'∧St w' (own i.size a' (l + n) c' (us ++ news) :: L):=by
 refine eY hT hk hi hz hzs h (n:=n) (news:=news) (dE hT hkx hn ?_ h1) hb h63
 rcases hx with rfl | ⟨ad,rfl,hc⟩
 ·left
  rcases Nat.eq_zero_or_pos n with h | h
  ·exact h
  ·have:=Nat.mul_pos h h0; simp at hn; omega
 ·exact .inr ⟨ad,rfl,fun j u hj=>kO (hc j u hj)⟩
structure uE (g:af) (I:List aj) (m:List (Int × Value)) (H:List Int) (i:Nat) (ls:List aj):Prop where
 nd:H.Nodup
 eq:ls = I ++ (H.flatMap (A4 g)).map CO
 of:∀ s∈H,0≤s∧∃ y,zq g I y∧dO g y = s
 mp:∀ s,(assoc s m).getD (.int .i64 0) = .int .i64 (if s∈H then 1 else 0)
 dn:∀ (j:Nat) y,j < i→ls[j]? = some y→0≤dO g y→dO g y∈H
section
variable {g:af} {I ls:List aj} {m:List (Int × Value)} {H:List Int} {i:Nat}
theorem Im:∀ {H:List Int},H.Nodup→(H.flatMap (A4 g)).Nodup
 | [],_=>by simp
 | s :: H,h=>by
  rw [Te] at h
  rw [Tg,SX]
  refine ⟨List.nodup_range.filter _,Im h.2,fun a ha b hb e=>?_⟩
  subst e
  obtain ⟨t,ht,hb⟩:=T2.1 hb
  obtain ⟨p,h1,rfl⟩:=nL.1 ha
  obtain ⟨q,h2,rfl⟩:=nL.1 hb
  rw [h1] at h2; cases h2
  exact h.1 ht
theorem uE.len (h:uE g I m H i ls):ls.length≤I.length + g.prods.length:=by
 have:=gQ (m:=List.range g.prods.length) (Im (g:=g) h.nd) fun x hx=>by
  obtain ⟨t,_,hb⟩:=T2.1 hx
  obtain ⟨p,h1,_⟩:=nL.1 hb
  exact SO.2 (Sk.1 h1).1
 rw [Ts] at this
 rw [h.eq,Sx,Ss]; omega
theorem uE.sound (h:uE g I m H i ls) {x:aj} (hx:x∈ls):zq g I x:=by
 rw [h.eq,Sp] at hx
 rcases hx with hx | hx
 ·exact .base hx
 ·obtain ⟨n,hn,rfl⟩:=SG.1 hx
  obtain ⟨s,hs,hn⟩:=T2.1 hn
  obtain ⟨p,hp,e⟩:=nL.1 hn
  obtain ⟨h0,y,hy,e2⟩:=h.of s hs
  exact .step hy (by omega) hp (by rw [e,e2])
theorem uE.start:uE g I [] [] 0 I:=⟨by simp,by simp,fun s hs=>by simp at hs,fun s=>by simp [assoc],fun j y hj=>by omega⟩
theorem uE.skip (h:uE g I m H i ls) {y:aj} (hy:ls[i]? = some y) (hs:dO g y < 0∨dO g y∈H):uE g I m H (i + 1) ls :=
 ⟨h.nd,h.eq,h.of,h.mp,fun j z hj hz h0=>by
  by_cases e:j = i
  ·subst e; rw [hy] at hz; cases hz
   rcases hs with hs | hs
   ·omega
   ·exact hs
  ·exact h.dn j z (by omega) hz h0⟩
theorem uE.more (h:uE g I m H i ls) {y:aj} (hy:ls[i]? = some y) (h0:0≤dO g y) (hs:dO g y∉H):uE g I (bx (dO g y) (.int .i64 1) m) (H ++ [dO g y]) (i + 1) (ls ++ (A4 g (dO g y)).map CO):=by
 have hm:=Sl hy
 refine ⟨?_,?_,fun s hs2=>?_,fun s=>?_,fun j z hj hz h1=>?_⟩
 ·rw [SX]
  exact ⟨h.nd,by simp,fun a ha b hb e=>by simp at hb; subst hb; subst e; exact hs ha⟩
 ·rw [Tv,SU,← SI,← h.eq]; simp
 ·rw [Sp,SE] at hs2
  rcases hs2 with hs2 | rfl
  ·exact h.of s hs2
  ·exact ⟨h0,y,h.sound hm,rfl⟩
 ·rw [db]
  by_cases e:s = dO g y
  ·simp [e]
  ·rw [Sr e,h.mp s]; simp [e]
 ·rw [Sp,SE]
  have hjl:j < ls.length:=by have:=(Sk.1 hy).1; omega
  rw [Sw hjl] at hz
  by_cases e:j = i
  ·subst e; rw [hy] at hz; cases hz; exact .inr rfl
  ·exact .inl (h.dn j z (by omega) hz h1)
theorem uE.fin (h:uE g I m H i ls) (hi:i = ls.length):lay ls = cls g I:=by
 refine Ic (ew _) fun x=>?_
 rw [dN]
 refine ⟨h.sound,fun hx=>?_⟩
 induction hx with
 | base hx=>rw [h.eq]; exact TU _ hx
 | @step y k p _ h1 h2 h3 ih =>
  obtain ⟨j,hj⟩:=SP ih
  have:=h.dn j y (by have:=(Sk.1 hj).1; omega) hj h1
  rw [h.eq,Sp]
  exact .inr (SG.2 ⟨k,T2.2 ⟨_,this,nL.2 ⟨p,h2,h3⟩⟩,rfl⟩)
end
end Go.V
namespace Go.Proofs.YtngdohpikfcifaaGreatDoor
open Go.V
variable {w:World} {L:List aw} {a:Option Addr} {l c:Nat} {I:List aj} {g:af}
theorem NZ (hr:aW (hp w) I a l) (hb:l * 16≤140737488355328):aC Tryz.prog fX [.slice a l c] w fun v w'=>∃ o c',v = .slice o l c'∧St w' (own 2 o l c' (tv I) :: all w):=by
 have hl:=hr.1
 refine fi _ _ _ w _ (ae (fun h=>?_) fun h=>?_)
 ·have ha:a = none:=by simpa using h
  subst ha
  have hI:I = []:=by
   cases I with
   | nil=>rfl
   | cons x _=>obtain ⟨ad,_,e,_⟩:=hr.2 0 x rfl; cases e
  subst hI
  have:l = 0:=hl.symm
  subst this
  exact ⟨_,_,rfl,aB 2 (St.all w)⟩
 ·refine ah (St.all w) fun k w1 h=>?_
  have g1:Gr w w1:=h.aX
  have h:St w1 (own 2 (some (aM k)) 0 0 [] :: all w):=eX (cs:=[]) h rfl rfl (SF _)
  refine (sG (us:=[]) (news:=tv I) aK (rfl:ag Ty _ = .slice _) (rfl:ag Ty _ = .slice _) rfl rfl rfl h (by rw [df,hl]) (by show 0 < 2; decide) (qR (hr.mono g1)) (A6 I) (by show (0 + l) * 16≤_; omega) (by omega)).mono ?_
  rintro _ w2 ⟨o,c',rfl,h⟩
  refine ⟨_,_,_,rfl,o,c',by simp,?_⟩
  have h2:St w2 (own 2 o (0 + l) c' (tv I) :: all w):=h
  rwa [Tn] at h2
theorem JU {k:Nat} (hm:O3 (hp w) g k) (hr:aW (hp w) I a l) (hf:A5 g I) (hb:(l + g.prods.length + 1) * 16≤140737488355328) :
  aC Tryz.prog th [.pointer (some (aM k)),.slice a l c] w fun v w'=>∃ o,v = .slice o (cls g I).length (cls g I).length∧St w' (own 2 o (cls g I).length (cls g I).length (tv (cls g I)) :: all w):=by
 have hl:=hr.1
 refine py _ _ _ _ w _ ((NZ hr (by omega)).mono ?_)
 rintro _ w1 ⟨o,c',rfl,h⟩
 refine ⟨_,_,_,rfl,mg h fun kh w2 h=>?_⟩
 have h:=dC (κ:=Int) h
 refine ⟨fun o n c z w'=>∃ (i:Nat) (ls:List aj) (m:List (Int × Value)) (H:List Int),z = i∧n = ls.length∧i≤ls.length∧uE g I m H i ls∧St w' (own 2 o n c (tv ls) :: mapA kh m :: all w),fun _ _ _ z _=>(l + g.prods.length) - z.toNat,
  ⟨0,I,[],[],rfl,hl.symm,Sv _,.start,h.pick 2 [1,0]⟩,?_⟩
 clear h
 rintro _ o _ c2 _ w3 ⟨i,ls,m,H,rfl,rfl,hi,hC,h⟩
 have hlen:=hC.len
 rw [hl] at hlen
 refine ae (fun h1=>?_) fun h1=>?_
 rotate_left
 ·have h1:i = ls.length:=by have:=Sj h1; omega
  refine (LM h (by omega)).mono ?_
  rintro _ w12 ⟨a',rfl,h⟩
  rw [hC.fin h1] at h ⊢
  exact ⟨_,_,_,rfl,_,rfl,h.pick 3 [0,2]⟩
 have h1:i < ls.length:=by have:=Si h1; omega
 obtain ⟨y,ad,hy,rfl,cy⟩:=b_ (b9 h) h1
 have hym:=Sl hy
 have hyf:mL g y:=(hC.sound hym).fit hf
 have s3:sub (hp w) (hp w3):=aZ 2 h.l
 refine ay rfl h1 ⟨_,_,cy _ (sub.refl _),(Fk (hm.mono s3) hyf).mono ?_⟩
 rintro _ w4 ⟨rfl,g4⟩
 have h:=h.gr g4
 refine ⟨_,rfl,ae (fun h2=>?_) fun h2=>?_⟩
 ·have h2:=Si h2
  exact ⟨⟨by omega,by omega⟩,⟨i + 1,ls,m,H,by simp,rfl,h1,hC.skip hy (.inl h2),h⟩,bA (by omega)⟩
 have h2:0≤dO g y:=by have:=Sj h2; omega
 refine (bW (κ:=Int) aK (rfl:ag Ty _ = .map _ _) bz rfl rfl (h.pick 3 [1,0,2]) _).mono ?_
 rintro _ _ ⟨rfl,rfl⟩
 refine ⟨_,hC.mp _,ae (fun h3=>?_) fun h3=>?_⟩
 ·have h3:dO g y∈H:=by
   have:=Si h3
   refine Tl fun hn=>?_
   rw [Sr hn] at this; omega
  exact ⟨⟨by omega,by omega⟩,⟨i + 1,ls,m,H,by simp,rfl,h1,hC.skip hy (.inr h3),h⟩,bA (by omega)⟩
 have h3:dO g y∉H:=fun hn=>by
  have:=Sj h3
  rw [Sz hn] at this; omega
 refine (bW (κ:=Int) aK (rfl:ag Ty _ = .map _ _) bz rfl rfl (h.pick 3 [1,0,2]) _).mono ?_
 rintro _ _ ⟨rfl,rfl⟩
 refine ⟨_,hC.mp _,⟨by split <;> omega,by split <;> omega⟩,(cH (κ:=Int) aK (rfl:ag Ty _ = .map _ _) bz (h.pick 3 [1,0,2]) _ _).mono ?_⟩
 rintro _ w7 h
 rw [Sr h3,show (0:Int) + 1 = 1 from rfl] at h
 have hC2:=hC.more hy h2 h3
 have hlen2:=hC2.len
 rw [hl,Sx,Ss] at hlen2
 have s7:sub (hp w) (hp w7):=aZ 2 h.l
 obtain ⟨x,kb,mb,r1,hg,hmb,hby⟩:=hm.ex
 obtain ⟨ab,cb,eb,rb⟩:=hby (dO g y)
 refine ⟨_,r1.cell s7 (j:=5) rfl,(Fj (κ:=Int) hmb s7 aK (rfl:ag Ty _ = .map _ _) bz rfl rfl _).mono ?_⟩
 rintro _ w8 ⟨rfl,e8⟩
 rw [e8]
 refine ⟨_,_,_,eb,?_⟩
 refine ⟨fun o n c z w'=>∃ j:Nat,z = j∧j≤(A4 g (dO g y)).length∧n = ls.length + j∧St w' (own 2 o n c (tv (ls ++ ((A4 g (dO g y)).take j).map CO)) :: mapA kh (bx (dO g y) (.int .i64 1) m) :: all w),fun _ _ _ z _=>(A4 g (dO g y)).length - z.toNat,
  ⟨0,rfl,Sv _,rfl,?_⟩,?_⟩
 ·rw [List.take_zero,List.map_nil,S6]; exact h.pick 3 [1,0,2]
 clear h
 rintro _ o _ c9 _ w9 ⟨j,rfl,hj,rfl,h⟩
 have s9:sub (hp w) (hp w9):=aZ 2 h.l
 refine ae (fun h4=>?_) fun h4=>?_
 rotate_left
 ·have h4:j = (A4 g (dO g y)).length:=by have:=Sj h4; omega
  subst h4
  rw [SM] at h
  exact ⟨⟨by omega,by omega⟩,⟨i + 1,_,_,_,by simp,by simp,by rw [Sx]; exact Nat.le_add_right_of_le h1,hC2,h⟩,bA (TR h1 hlen)⟩
 have h4:j < (A4 g (dO g y)).length:=by have:=Si h4; omega
 obtain ⟨n,hn⟩ : ∃ n,(A4 g (dO g y))[j]? = some n:=⟨_,Sm h4⟩
 obtain ⟨v,adb,hv,hab,cb⟩:=rb.bL h4
 have hv2:v = (n:Int):=by rw [Sn,hn] at hv; exact (Option.some.inj hv).symm
 subst hv2
 have hz1:(ls.length + j + 1) * 16≤140737488355328:=SK (TT 16 (Nat.succ_le_succ (SK (Nat.add_le_add_left (Nat.le_of_lt h4) _) hlen2))) hb
 have hz2:=Q6 hz1
 clear hlen hlen2 hC2 hby hmb
 refine aq hab h4 ⟨_,cb _ s9,ah h fun k10 w10 h=>?_⟩
 refine (aQ (us:=tv (ls ++ ((A4 g (dO g y)).take j).map CO)) aK (rfl:ag Ty _ = .slice _) (rfl:ag Ty _ = .slice _) rfl rfl rfl h rfl (by simp [aS]) hz1 hz2).mono ?_
 rintro _ w11 ⟨o6,c11,rfl,h⟩
 refine ⟨_,_,_,rfl,⟨by omega,by omega⟩,⟨j + 1,by simp,h4,rfl,?_⟩,bA h4⟩
 have e:tv (ls ++ ((A4 g (dO g y)).take (j + 1)).map CO) = tv (ls ++ ((A4 g (dO g y)).take j).map CO) ++ [.int .i64 (n:Int),.int .i64 0]:=by
  rw [Su,hn,Ti,SU,← SI,lE]; rfl
 rw [e]
 exact h.pick 4 [0,2,3]
def dt (g:af) (K:List aj) (s:Int):List aj:=(K.filter fun x=>decide (dO g x = s)).map fun x=>⟨x.prod,x.dot + 1⟩
theorem A7 {g:af} {K:List aj} {x:aj} {s:Int}:dt g (K ++ [x]) s = if s = dO g x then dt g K s ++ [⟨x.prod,x.dot + 1⟩] else dt g K s:=by
 unfold dt
 rw [Th,SU]
 by_cases e:s = dO g x
 ·simp [e]
 ·simp [e,TM e]
theorem sI (g:af) (K:List aj) (s:Int):(dt g K s).length≤K.length:=by
 unfold dt; rw [Ss]; exact Tj _ _
theorem JV {k:Nat} (hm:O3 (hp w) g k) (hr:aW (hp w) I a l) (hf:A5 g I) (hb:(l + g.prods.length + 1) * 16≤140737488355328) (hbr:∀ p∈g.prods,p.right.length≤17592186043904) :
  aC Tryz.prog tg [.pointer (some (aM k)),.slice a l c] w fun v w'=>∃ (kk:Nat) (ps:List (Int × Lq aj)),v = .map (some kk)∧(∀ s,0≤s→gP s ps = aF g I s)∧(ps.map Prod.fst).Nodup∧(∀ s,s∈ps.map Prod.fst↔0≤s∧aF g I s≠[])∧St w' (mapA kk (mV ps) :: aT (mO 2 tv ps) :: all w):=by
 have hl:=hr.1
 refine pt _ _ _ _ w _ (mg (St.all w) fun kk w1 h=>?_)
 have h:=dC (κ:=Int) h
 have g1:Gr w w1:=aZ 1 h.l
 refine ((JU (hm.mono g1) (hr.mono g1) hf hb).mono ?_)
 rintro _ w2 ⟨o,rfl,h2⟩
 have h:=h2.vK h.l
 have hcl:=DN g I
 rw [hl] at hcl
 refine ⟨_,_,_,rfl,?_⟩
 refine ⟨fun z w'=>∃ (j:Nat) (ps:List (Int × Lq aj)),z = j∧j≤(cls g I).length∧(∀ s,0≤s→gP s ps = dt g ((cls g I).take j) s)∧(ps.map Prod.fst).Nodup∧(∀ s,s∈ps.map Prod.fst↔0≤s∧dt g ((cls g I).take j) s≠[]) ∧
   St w' (mapA kk (mV ps) :: aT (mO 2 tv ps) :: own 2 o (cls g I).length (cls g I).length (tv (cls g I)) :: all w),fun z _=>(cls g I).length - z.toNat,
  ⟨0,[],rfl,Sv _,fun s _=>by simp [dt]; rfl,by simp,fun s=>by simp [dt],?_⟩,?_⟩
 ·have h3:St w2 (mapA kk ([] : List (Int × Value)) :: own 2 o (cls g I).length (cls g I).length (tv (cls g I)) :: all w):=h.pick 3 [1,0,2]
  exact ((St.flat (M:=[])).2 h3).swap
 clear h h2
 rintro _ _ w3 ⟨j,ps,rfl,hj,hps,hnd,hks,h⟩
 refine ae (fun h1=>?_) fun h1=>?_
 rotate_left
 ·have h1:j = (cls g I).length:=by have:=Sj h1; omega
  rw [h1,SM] at hps hks
  exact ⟨kk,ps,rfl,hps,hnd,hks,h.pick 4 [0,1,3]⟩
 have h1:j < (cls g I).length:=by have:=Si h1; omega
 obtain ⟨y,ad,hy,rfl,cy⟩:=b_ (b9 (h.pick 3 [2])) h1
 have hyf:mL g y:=(sC.1 (Sl hy)).fit hf
 have hyd:y.dot + 1≤9223372036854775807:=by
  obtain ⟨_,_,p,hp,h5⟩:=hyf
  have:=hbr p (Sl hp); omega
 have hyd0:=hyf.2.1
 have s3:sub (hp w) (hp w3):=aZ 3 h.l
 have hkt:∀ s,dt g ((cls g I).take (j + 1)) s = if s = dO g y then dt g ((cls g I).take j) s ++ [⟨y.prod,y.dot + 1⟩] else dt g ((cls g I).take j) s:=fun s=>by
  rw [Su,hy,Ti,A7]
 refine ay rfl h1 ⟨_,_,cy _ (sub.refl _),ah h fun k4 w4 h=>bh h rfl (by simp [aS]) fun w5 h=>⟨_,_,(ai 0 h.l).at (sub.refl _) rfl,(Fk (hm.mono (aZ 4 h.l)) hyf).mono ?_⟩⟩
 rintro _ w6 ⟨rfl,g6⟩
 have h:=h.gr g6
 refine ⟨_,rfl,ae (fun h2=>?_) fun h2=>?_⟩
 rotate_left
 ·have h2:dO g y < 0:=by have:=Sj h2; omega
  refine ⟨⟨by omega,by omega⟩,⟨j + 1,ps,by simp,h1,fun s hs=>?_,hnd,fun s=>?_,h.pick 5 [1,2,3,4]⟩,bA h1⟩
  ·rw [hkt,Sr (by omega)]; exact hps s hs
  ·rw [hks,hkt]
   by_cases e:s = dO g y
   ·constructor <;> (rintro ⟨e2,_⟩; omega)
   ·rw [Sr e]
 have h2:0≤dO g y:=Si h2
 refine (bW (κ:=Int) aK (rfl:ag Ty _ = .map _ _) bz rfl rfl (h.pick 5 [1,0,2,3,4]) _).mono ?_
 rintro _ w7 ⟨rfl,e7⟩
 rw [e7]
 obtain ⟨q,M,e1,e2,hq,back⟩:=sF rfl (h.pick 5 [2,0,1,3,4]) (dO g y)
 have hql:q.2.length≤(cls g I).length:=by
  rw [e2,hps _ h2]
  refine SK (sI _ _ _) (by rw [SN]; omega)
 have r4:ax (hp w6) (aM k4) [.int .i64 y.prod,.int .i64 y.dot]:=ai 2 hq.l
 have hz1:(q.2.length + 1) * 16≤140737488355328:=SK (TT 16 (Nat.succ_le_succ (SK hql hcl))) hb
 have hz2:=Q6 hz1
 refine ⟨_,_,_,e1,_,r4.cell0 (sub.refl _),_,r4.cell (sub.refl _) (j:=1) rfl,⟨by omega,by omega⟩,ah hq fun k7 w8 h=>?_⟩
 refine (aQ (us:=tv q.2) aK (rfl:ag Ty _ = .slice _) (rfl:ag Ty _ = .slice _) rfl rfl rfl h rfl (by simp [aS]) hz1 hz2).mono ?_
 rintro _ w9 ⟨o3,c3,rfl,h⟩
 refine ⟨_,_,_,rfl,(cH (κ:=Int) aK (rfl:ag Ty _ = .map _ _) bz (h.pick 7 [4,0,2,5,6]) (dO g y) _).mono ?_⟩
 rintro _ w10 h
 have h:=xN back (q.2 ++ [⟨y.prod,y.dot + 1⟩]) (by simp) (by rw [lE]; rfl) h
 refine ⟨⟨by omega,by omega⟩,⟨j + 1,_,by simp,h1,fun s hs=>?_,Ik _ hnd,fun s=>?_,h⟩,bA h1⟩
 ·rw [jI,hkt,e2]
  by_cases e:s = dO g y
  ·subst e; rw [Sz rfl,Sz rfl,hps _ hs]
  ·rw [Sr e,Sr e,hps _ hs]
 ·rw [xM,hkt]
  have:=hks s
  by_cases e:s = dO g y
  ·subst e
   rw [Sz rfl]
   refine ⟨fun _=>⟨h2,by simp⟩,fun _=>?_⟩
   split
   ·assumption
   ·simp
  ·rw [Sr e,← this]
   split
   ·exact Iff.rfl
   ·rw [Sp,SE]; simp [e]
end Go.Proofs.YtngdohpikfcifaaGreatDoor
namespace Go.V
section
variable {α : Type} {f:α→List Value} {n:Nat}
theorem A8 (hf:∀ x,(f x).length = n):∀ xs:List α,(xs.flatMap f).length = xs.length * n
 | []=>by simp
 | x :: xs=>by rw [Tg,Sx,hf,A8 hf xs,S4,TN,Nat.add_comm]
theorem LQ (hf:∀ x,(f x).length = n):∀ (xs:List α) (i j:Nat) (x y:α) (v:Value),xs[i]? = some x→j < n→f y = (f x).set j v→(xs.flatMap f).set (i * n + j) v = (xs.set i y).flatMap f
 | [],i,j,x,y,v,h,_,_=>by simp at h
 | z :: xs,0,j,x,y,v,h,hj,he=>by
  simp at h; subst h
  rw [Nat.zero_mul,Tn,List.set_cons_zero,Tg,Tg,List.set_append_left _ _ (by rw [hf]; exact hj),he]
 | z :: xs,i + 1,j,x,y,v,h,hj,he=>by
  rw [List.set_cons_succ,Tg,Tg,T3 _ _ (by rw [hf,TN]; omega),hf,show (i + 1) * n + j - n = i * n + j by rw [TN]; omega]
  rw [LQ hf xs i j x y v (by simpa using h) hj he]
end
theorem zR {M L:List aw} {h:Hp} {i:Nat} {A:aw} (hs:aE (aT M :: L) h) (hi:M[i]? = some A):∃ h1,sub h1 h∧A h1:=by
 have h2:=jv.1 hs
 obtain ⟨hlt,e⟩:=Sk.1 hi
 obtain ⟨h1,s1,ha⟩:=dG i (by rw [Sx]; omega) h2
 rw [A3 (by rw [Sx]; omega),List.getElem_append_left hlt,e] at ha
 exact ⟨h1,s1,ha⟩
def LR (x:aL):List Value:=[.int .i64 x.sym,.int .i64 x.to]
def F8 (xs:List aL):List Value:=xs.flatMap LR
theorem N0 (xs:List aL):(F8 xs).length = xs.length * 2:=A8 (f:=LR) (n:=2) (fun _=>rfl) xs
abbrev SQ:=Lq aj × Lq aL
def N1 (q:SQ):List Value:=[bF q.1,bF q.2]
def tZ (ss:List SQ):List Value:=ss.flatMap N1
def xO (ss:List SQ):List aw:=ss.map fun q=>bX 2 tv q.1
def t_ (ss:List SQ):List aw:=ss.map fun q=>bX 2 F8 q.2
def bB (ss:List SQ):List cf:=ss.map fun q=>q.1.2
def bf (ss:List SQ):List (List aL):=ss.map fun q=>q.2.2
theorem DO (ss:List SQ):(tZ ss).length = ss.length * 2:=A8 (f:=N1) (n:=2) (fun _=>rfl) ss
theorem Fl (ss:List SQ) (q:SQ):tZ (ss ++ [q]) = tZ ss ++ N1 q:=by unfold tZ; rw [Tv]; simp
def gm (x:aj):Prop:=0≤x.prod∧x.prod < 256∧0≤x.dot∧x.dot < 65536
def zx (x:aj):List UInt8:=[UInt8.ofNat x.prod.toNat,UInt8.ofNat (x.dot.toNat % 256),UInt8.ofNat (x.dot.toNat / 256)]
def nM (K:List aj):List UInt8:=K.flatMap zx
def gT (K:List aj):ByteArray:=⟨(nM K).toArray⟩
def QG (b:UInt8):Value:=.int .u8 (b.toNat:Int)
theorem LS {x y:aj} (hx:gm x) (hy:gm y) (h:zx x = zx y):x = y:=by
 obtain ⟨a1,a2,a3,a4⟩:=hx
 obtain ⟨b1,b2,b3,b4⟩:=hy
 unfold zx at h
 simp only [List.cons.injEq,and_true] at h
 obtain ⟨h1,h2,h3⟩:=h
 have e1:=congrArg UInt8.toNat h1
 have e2:=congrArg UInt8.toNat h2
 have e3:=congrArg UInt8.toNat h3
 simp only [UInt8.toNat_ofNat'] at e1 e2 e3
 exact aj.ext' (by omega) (by omega)
theorem Fm:∀ {K M:List aj},(∀ x∈K,gm x)→(∀ x∈M,gm x)→nM K = nM M→K = M
 | [],[],_,_,_=>rfl
 | [],y :: M,_,_,h=>by simp [nM,zx] at h
 | x :: K,[],_,_,h=>by simp [nM,zx] at h
 | x :: K,y :: M,hk,hm,h=>by
  unfold nM at h
  rw [Tg,Tg] at h
  obtain ⟨h1,h2⟩:=List.append_inj h rfl
  rw [LS (hk x (by simp)) (hm y (by simp)) h1,Fm (fun z hz=>hk z (by simp [hz])) (fun z hz=>hm z (by simp [hz])) h2]
theorem G0 {K M:List aj} (hk:∀ x∈K,gm x) (hm:∀ x∈M,gm x) (h:gT K = gT M):K = M:=by
 refine Fm hk hm ?_
 have:=congrArg (fun b:ByteArray=>b.data.toList) h
 simpa [gT] using this
theorem JW (K:List aj) (x:aj):nM (K ++ [x]) = nM K ++ zx x:=by unfold nM; rw [Tv]; simp
theorem Fo (K:List aj):(nM K).length = K.length * 3:=by
 induction K with
 | nil=>rfl
 | cons x K ih=>unfold nM at *; rw [Tg,Sx,ih,S4]; simp [zx]; omega
theorem RV {x:aj} (h:gm x):[Value.int .u8 (IntKind.u8.wrap x.prod),Value.int .u8 (IntKind.u8.wrap x.dot),Value.int .u8 (IntKind.u8.wrap (y6 .i64 x.dot 8))] = (zx x).map QG:=by
 obtain ⟨a1,a2,a3,a4⟩:=h
 have e:y6 .i64 x.dot 8 = x.dot / 256:=by
  simp only [y6,IntKind.bits]
  rw [show min (Int.toNat 8) 64 = 8 from rfl,Int.fdiv_eq_ediv_of_nonneg _ (by decide)]
  rfl
 rw [e]
 simp only [zx,S0,List.map_nil,QG,UInt8.toNat_ofNat',IntKind.wrap,IntKind.signed,IntKind.bits]
 have w1:∀ z:Int,0≤z→z < 256→z % 256 = z:=fun z h1 h2=>Int.emod_eq_of_lt h1 h2
 simp
 refine ⟨?_,?_,?_⟩ <;> omega
def zy (m:List (ByteArray × Value)) (st:List cf):Prop:=∀ K,(∀ x∈K,gm x)→(assoc (gT K) m).getD (.int .i64 0) = .int .i64 (if K∈st then ((st.idxOf K:Nat):Int) + 1 else 0)
theorem zy.start:zy [] []:=fun K _=>by simp [assoc]
theorem zy.put {m:List (ByteArray × Value)} {st:List cf} {K:cf} (h:zy m st) (hK:∀ x∈K,gm x) (hn:K∉st):zy (bx (gT K) (.int .i64 ((st.length + 1:Nat):Int)) m) (st ++ [K]):=fun M hM=>by
 rw [db]
 by_cases e:gT M = gT K
 ·have:=G0 hM hK e
  subst this
  rw [Sz rfl,Sz (by simp),List.idxOf_append,Sr hn]
  simp
 ·rw [Sr e,h M hM]
  have hne:M≠K:=fun h=>e (by rw [h])
  by_cases e2:M∈st
  ·rw [Sz e2,Sz (by simp [e2]),List.idxOf_append,Sz e2]
  ·rw [Sr e2,Sr (by simp [e2,hne])]
end Go.V
namespace Go.Proofs.YtngdohpikfcifaaGreatDoor
open Go.V
variable {w:World} {L:List aw} {a:Option Addr} {l c:Nat} {K:List aj}
theorem Q7 (hr:aW (hp w) K a l) (hK:∀ x∈K,gm x) (hne:K≠[]) (hb:l * 16≤140737488355328) :
  aC Tryz.prog JM [.slice a l c] w fun v w'=>v = .string (gT K)∧Gr w w':=by
 have hl:=hr.1
 refine Fc _ _ _ w _ ⟨fun o n c z w'=>∃ j:Nat,z = j∧j≤l∧n = (nM (K.take j)).length∧St w' (own 1 o n c ((nM (K.take j)).map QG) :: all w),fun _ _ _ z _=>l - z.toNat,⟨0,rfl,Sv _,rfl,aB 1 (St.all w)⟩,?_⟩
 rintro _ o _ c1 _ w1 ⟨j,rfl,hj,rfl,h⟩
 have s1:sub (hp w) (hp w1):=aZ 1 h.l
 refine ae (fun h1=>?_) fun h1=>?_
 ·have h1:j < l:=by have:=Si h1; omega
  obtain ⟨x,ad,hx,rfl,cx⟩:=b_ hr h1
  have hxs:=hK x (Sl hx)
  refine ay rfl h1 ⟨_,_,cx _ s1,ah h fun k3 w2 h=>bh h rfl (by simp [aS]) fun w3 h=>?_⟩
  have r3:ax (hp w3) (aM k3) [.int .i64 x.prod,.int .i64 x.dot]:=ai 0 h.l
  refine ⟨_,r3.cell0 (sub.refl _),_,r3.cell (sub.refl _) (j:=1) rfl,_,r3.cell (sub.refl _) (j:=1) rfl,by show (0:Int)≤8; decide,?_⟩
  refine ah h fun k4 w4 h=>?_
  rw [RV hxs] at h
  have hkl:=Fo (K.take j)
  rw [SN] at hkl
  refine (sG (n:=3) (us:=(nM (K.take j)).map QG) (news:=(zx x).map QG) aK (rfl:ag Ty _ = .slice _) (rfl:ag Ty _ = .slice _) rfl rfl rfl (h.pick 3 [2,0]) rfl (by show 0 < 1; decide) (.inr ⟨_,rfl,ai 0 h.l⟩) (fun u hu=>by obtain ⟨b,_,rfl⟩:=SG.1 hu; rfl) (by show ((nM (K.take j)).length + 3) * 1≤_; omega) (by omega)).mono ?_
  rintro _ w5 ⟨o2,c2,rfl,h⟩
  have e:nM (K.take (j + 1)) = nM (K.take j) ++ zx x:=by rw [Su,hx,Ti,JW]
  refine ⟨_,_,_,rfl,⟨by omega,by omega⟩,⟨j + 1,by simp,h1,by rw [e,Sx]; rfl,?_⟩,bA h1⟩
  rw [e,SU]
  exact h.pick 3 [0,2]
 ·have h1:j = l:=by have:=Sj h1; omega
  subst h1
  rw [← hl,SM] at h ⊢
  have hlen:0 < ((nM K).map QG).length:=by
   rw [Ss,Fo]
   have:=List.length_pos_iff.2 hne; omega
  obtain ⟨ad,rfl⟩:=jG h hlen
  have hcv:=run_convert_bytes_back (P:=Tryz.prog) w1 GF mF Lj ad c1 (nM K) EY JG jH fun j hj=>zM h rfl (by rw [Sn,Sm hj]; rfl)
  exact ⟨_,_,hcv,Ev.refl _,_,rfl,rfl,h.aX⟩
end Go.Proofs.YtngdohpikfcifaaGreatDoor
namespace Go.V
abbrev G1 (kt ka:Nat) (o:Option Addr) (c:Nat) (asked int:Int) (m:List (ByteArray × Value)) (ss:List SQ) (L:List aw):List aw :=
 aR kt [.slice o ss.length c,.int .i64 asked,.int .i64 int,.map (some ka)] :: own 2 o ss.length c (tZ ss) :: mapA ka m :: aT (xO ss) :: aT (t_ ss) :: L
def dW (ss:List SQ) (b:Option Addr) (d:Nat) (K:cf):List SQ:=if K∈bB ss then ss else ss ++ [(((b,d),K),((none,0),[]))]
theorem zS (ss:List SQ) (b:Option Addr) (d:Nat) (K:cf):bB (dW ss b d K) = oM (bB ss) K:=by
 unfold dW oM; split <;> simp [bB]
theorem dh (ss:List SQ):(bB ss).length = ss.length:=Ss _
theorem PV {ss:List SQ} {K:cf} (h:K∈bB ss):∃ q,ss[(bB ss).idxOf K]? = some q∧q.1.2 = K:=by
 have h1:=TY h
 rw [dh] at h1
 refine ⟨ss[(bB ss).idxOf K],Sm h1,?_⟩
 have h2:(bB ss)[(bB ss).idxOf K]'(by rw [dh]; exact h1) = K:=List.getElem_idxOf _
 unfold bB at h2 ⊢
 rw [List.getElem_map] at h2
 exact h2
theorem xP {h:Hp} {o:Option Addr} {ss:List SQ} {i:Nat} {q:SQ} (r:gN o (tZ ss) h) (hq:ss[i]? = some q):∃ ad,o = some ad∧ax h (ad.add (dP i 2)) (N1 q):=by
 rcases r with e | ⟨ad,rfl,r⟩
 ·have h1:=congrArg List.length e
  rw [DO,T6] at h1
  have:=(Sk.1 hq).1; omega
 ·exact ⟨ad,rfl,dr (n:=2) (fun _=>rfl) ss ad r i q hq⟩
theorem DP {ss:List SQ} {i:Nat} {q:SQ} (hq:ss[i]? = some q):(xO ss)[i]? = some (bX 2 tv q.1):=by unfold xO; rw [Sn,hq]; rfl
theorem Io {ss:List SQ} {i:Nat} {q:SQ} (hq:ss[i]? = some q):(t_ ss)[i]? = some (bX 2 F8 q.2):=by unfold t_; rw [Sn,hq]; rfl
theorem DQ {q:Lq aj} {h:Hp} (ha:bX 2 tv q h):aW h q.2 q.1.1 q.2.length:=DJ rfl (bV ha)
end Go.V
namespace Go.Proofs.YtngdohpikfcifaaGreatDoor
open Go.V
variable {w:World} {L:List aw}
theorem Fp {kt ka c l d:Nat} {o b:Option Addr} {asked int:Int} {m:List (ByteArray × Value)} {ss:List SQ} {K:cf} (h:St w (G1 kt ka o c asked int m ss (own 2 b l d (tv K) :: L)))
  (hK:zy m (bB ss)) (hne:K≠[]) (hsm:∀ x∈K,gm x) (ha:0≤asked∧asked < 4611686018427387904) (hi:0≤int∧int < 4611686018427387904) (hn:ss.length≤300) (hl:l * 16≤140737488355328) :
  aC Tryz.prog uB [.pointer (some (aM kt)),.slice b l d] w fun v w'=>v = .int .i64 ((bB ss).idxOf K:Nat)∧∃ o' c' m',zy m' (oM (bB ss) K) ∧
   St w' (G1 kt ka o' c' (asked + 1) (int + ((dW ss b d K).length - ss.length:Nat)) m' (dW ss b d K) L):=by
 have hKl:l = K.length:=by have:=ea (h.pick 6 [5]); rw [df] at this; omega
 have hl0:0 < l:=by rw [hKl]; exact List.length_pos_iff.2 hne
 have hz:K[0]? = some K[0]:=Sm (by omega)
 refine qJ _ _ _ _ w _ ⟨_,(ai 0 h.l).cell (sub.refl _) (j:=1) rfl,⟨by omega,by omega⟩,?_⟩
 show st1 w ((aM kt).add 1) _ _
 rw [aO]
 refine bg h (by simp) fun w1 h=>?_
 obtain ⟨h5,s5,ho5⟩:=M4 5 h.l
 have hrK:aW (hp w1) K b l:=(DJ hKl.symm (bV ho5)).mono s5
 refine (Q7 hrK hsm hne hl).mono ?_
 rintro _ w2 ⟨rfl,g2⟩
 have h:=h.gr g2
 have hrK:=hrK.mono g2
 clear s5 ho5
 refine ⟨_,rfl,fun u=>K∉bB ss∧St u (G1 kt ka o c (asked + 1) int m ss (own 2 b l d (tv K) :: L)),?_,?_⟩
 ·intro w3 hd
  have h:=h.eq (aD hd)
  have hrK:aW (hp w3) K b l:=hrK.mono (Gr.drawn hd)
  have rt:ax (hp w3) (aM kt) [.slice o ss.length c,.int .i64 (asked + 1),.int .i64 int,.map (some ka)]:=ai 0 h.l
  have lk:az Tryz.prog (Instr.lookup zo (.map (some ka)) (.string (gT K)) false) w3 fun v w'=>v = .int .i64 (if K∈bB ss then (((bB ss).idxOf K:Nat):Int) + 1 else 0)∧w' = w3:=by
   refine (bW (κ:=ByteArray) aK (rfl:ag Ty _ = .map _ _) jH rfl rfl (h.pick 3 [2]) (gT K)).mono ?_
   rintro _ _ ⟨rfl,rfl⟩
   exact ⟨hK K hsm,rfl⟩
  refine ⟨fun u=>Gr w3 u,Gr.refl _,_,fun u s=>rt.cell s (j:=3) rfl,lk.mono ?_⟩
  rintro _ w5 ⟨rfl,e5⟩
  rw [e5]
  refine ⟨_,rfl,fun u=>Gr w3 u,Gr.refl _,fun _ h=>h,ae (fun h1=>?_) fun h1=>?_⟩
  rotate_left
  ·refine ⟨fun hm=>?_,h⟩
   rw [Sz hm] at h1
   have:=Sj h1; omega
  have hm:K∈bB ss:=Tl fun hn=>by rw [Sr hn] at h1; exact absurd (Si h1) (by omega)
  obtain ⟨q,hq,hqK⟩:=PV hm
  have hil:=(Sk.1 hq).1
  obtain ⟨ad,rfl,rs⟩:=xP (gB 1 h.l) hq
  obtain ⟨h6,s6,ho6⟩:=zR (h.pick 4 [3]).l (DP hq)
  have hrq:aW (hp w3) K q.1.1.1 q.1.2.length:=by have:=(DQ ho6).mono s6; rwa [hqK] at this ⊢
  have hql:q.1.2.length = l:=by rw [hqK,hKl]
  obtain ⟨x,ad2,hx,hb2,cx⟩:=b_ hrK hl0
  obtain ⟨y,ad3,hy,hb3,cy⟩:=b_ hrq (by omega:0 < q.1.2.length)
  rw [hx] at hy; cases hy
  rw [PN] at cx cy
  refine ⟨_,_,_,fun u s=>rt.cell0 s,_,fun u s=>rt.cell s (j:=3) rfl,mJ hb2 hl0 ⟨_,_,cx,lk.mono ?_⟩⟩
  rintro _ w10 ⟨rfl,e10⟩
  rw [e10,Sz hm]
  have e1:(((bB ss).idxOf K:Nat):Int) + 1 - 1 = (((bB ss).idxOf K:Nat):Int):=by omega
  refine ⟨_,rfl,fun u=>Gr w3 u,Gr.refl _,fun _ h=>h,⟨by omega,by omega⟩,?_⟩
  rw [e1]
  refine ay rfl hil ⟨_,_,_,fun u s=>rs.cell0 s,mJ hb3 (by omega) ⟨_,_,cy,_,fun u _=>DK u _ _ x x,_,rfl,vQ (by simp) ⟨_,rt.cell (sub.refl _) (j:=3) rfl,lk.mono ?_⟩⟩⟩
  rintro _ w15 ⟨rfl,e15⟩
  rw [e15,Sz hm]
  refine ⟨_,rfl,⟨by omega,by omega⟩,by rw [e1],some ad,c,m,?_,?_⟩
  ·unfold oM; rw [Sz hm]; exact hK
  ·unfold dW; rw [Sz hm,Tx]
   rw [show int + ((0:Nat):Int) = int by omega]
   exact h.pick 6 [0,1,2,3,4]
 clear h hrK
 rintro _ w16 ⟨hm,h⟩
 refine ⟨_,(ai 0 h.l).cell (sub.refl _) (j:=2) rfl,⟨by omega,by omega⟩,?_⟩
 show st1 w16 ((aM kt).add 2) _ _
 rw [aO]
 refine bg h (by simp) fun w17 h=>?_
 refine ⟨_,_,_,(ai 0 h.l).cell0 (sub.refl _),ah h fun k7 w18 h=>?_⟩
 refine (aQ (us:=tZ ss) aK (rfl:ag Ty _ = .slice _) (rfl:ag Ty _ = .slice _) rfl rfl rfl (h.pick 3 [0,2,1]) rfl (by simp [aS]) (by show (ss.length + 1) * 48≤_; omega) (by omega)).mono ?_
 rintro _ w19 ⟨o7,c7,rfl,h⟩
 refine ⟨_,_,_,rfl,bg (h.pick 3 [2,0]) (by simp) fun w20 h=>?_⟩
 intro w21 hd
 have h:=h.eq (aD hd)
 have h:St w21 (aR kt [.slice o7 (ss.length + 1) c7,.int .i64 (asked + 1),.int .i64 (int + 1),.map (some ka)] :: own 2 o7 (ss.length + 1) c7 (tZ ss ++ [.slice b l d,.slice none 0 0]) :: mapA ka m :: aT (xO ss) :: aT (t_ ss) :: own 2 b l d (tv K) :: L):=h
 have rt:ax (hp w21) (aM kt) [.slice o7 (ss.length + 1) c7,.int .i64 (asked + 1),.int .i64 (int + 1),.map (some ka)]:=ai 0 h.l
 refine ⟨fun u=>Gr w21 u,Gr.refl _,_,fun u s=>rt.cell s (j:=3) rfl,_,_,_,fun u s=>rt.cell0 s,(cH (κ:=ByteArray) aK (rfl:ag Ty _ = .map _ _) jH (h.pick 3 [2,0,1]) (gT K) _).mono ?_⟩
 rintro _ w24 h
 have hK2:=hK.put hsm hm
 rw [dh] at hK2
 refine ⟨_,(ai 1 h.l).cell (sub.refl _) (j:=3) rfl,(bW (κ:=ByteArray) aK (rfl:ag Ty _ = .map _ _) jH rfl rfl h (gT K)).mono ?_⟩
 rintro _ w25 ⟨rfl,e25⟩
 rw [e25]
 have e1:=hK2 K hsm
 have e2:[K].idxOf K = 0:=by simp
 rw [Sz (by simp),List.idxOf_append,Sr hm,e2,Tn,dh] at e1
 have hnS:dW ss b d K = ss ++ [(((b,d),K),((none,0),[]))]:=by unfold dW; rw [Sr hm]
 have hiK:oM (bB ss) K = bB ss ++ [K]:=by unfold oM; rw [Sr hm]
 refine ⟨_,e1,⟨by omega,by omega⟩,?_,o7,c7,bx (gT K) (.int .i64 ((ss.length + 1:Nat):Int)) m,?_,?_⟩
 ·rw [List.idxOf_eq_length hm,dh]
  show Value.int .i64 _ = _
  rw [show ((ss.length:Nat):Int) + 1 - 1 = (ss.length:Int) by omega]
 ·rw [hiK]; exact hK2
 ·rw [hnS]
  have h:=St.snoc ((aB 2 h).pick 7 [0,5,1,2,3,4,6])
  have h:=(St.snoc (h.pick 6 [5,4,0,1,2,3])).pick 5 [3,4,2,0,1]
  have e3:tZ (ss ++ [(((b,d),K),((none,0),[]))]) = tZ ss ++ [.slice b l d,.slice none 0 0]:=by rw [Fl,hKl]; rfl
  have e4:xO (ss ++ [(((b,d),K),((none,0),[]))]) = xO ss ++ [own 2 b l d (tv K)]:=by rw [hKl]; simp [xO,bX]
  have e5:t_ (ss ++ [(((b,d),K),((none,0),[]))]) = t_ ss ++ [own 2 none 0 0 []]:=by simp [t_,bX,F8]
  have e6:(ss ++ [(((b,d),K),(((none,0),[]):Lq aL))]).length = ss.length + 1:=by simp
  show St w24 (aR kt [.slice o7 _ c7,_,.int .i64 (int + _),_] :: own 2 o7 _ c7 _ :: _ :: _ :: _ :: L)
  rw [e3,e4,e5,e6,show ((ss.length + 1 - ss.length:Nat):Int) = 1 by omega]
  exact h
end Go.Proofs.YtngdohpikfcifaaGreatDoor
namespace Go.V
section
variable {g:af} {K:cf} {x:aj} {s:Int} {i:Nat}
theorem av.eD (h:av g):g.T≤65∧g.N≤65∧g.prods.length≤97∧2≤g.prods.length∧1≤g.T∧2≤g.N:=by
 obtain ⟨_,h1,h2,_⟩:=h
 have ht:0 < g.terms.length:=by have:=(Sk.1 h1.1).1; exact this
 exact ⟨h1.2.2.1,h1.2.2.2.1,h2.2.1,h2.1,ht,h1.2.1⟩
theorem av.sym (h:av g) {p:aJ} (hp:p∈g.prods) (hs:s∈p.right):1≤s∧s < g.T + g.N:=by
 obtain ⟨_,h1,h2,p0,hp0,_,hr,_⟩:=h
 obtain ⟨n,hn⟩:=SP hp
 cases n with
 | zero =>
  rw [hp0] at hn; cases hn
  rw [hr,SE] at hs
  have:=h2.2.2.2
  have ht:0 < g.terms.length:=by have:=(Sk.1 h1.1).1; exact this
  have hT:g.T = g.terms.length:=rfl
  omega
 | succ n =>
  have hm:p∈g.prods.drop 1:=by
   refine Sl (i:=n) ?_
   rw [S8,Nat.add_comm]; exact hn
  have:=(h2.2.2.1 p hm).2 s hs
  exact ⟨this.1,this.2.1⟩
theorem qS (hc:av g) (hf:∀ x∈K,mL g x) (h0:0≤s) (hne:aF g K s≠[]):1≤s∧s < g.T + g.N:=by
 obtain ⟨x,hx⟩:=List.exists_mem_of_ne_nil _ hne
 obtain ⟨y,h1,h2,_⟩:=ik.1 hx
 obtain ⟨p,hp,_,h3⟩:=GU (h1.fit hf) h2 h0
 exact hc.sym (Sl hp) (Sl h3)
theorem wu (hp:g.prods.length≤97) (hs:gC K) (hf:∀ x∈K,mL g x) (hd:∀ x∈K,x.dot≤299):K.length≤29100:=by
 have:=gQ (m:=(List.range 29100).map fun n=>(⟨((n / 300:Nat):Int),((n % 300:Nat):Int)⟩ : aj)) hs.nodup fun x hx=>by
  obtain ⟨h1,h2,p,h3,_⟩:=hf x hx
  have h4:=(Sk.1 h3).1
  have h5:=hd x hx
  refine SG.2 ⟨x.prod.toNat * 300 + x.dot.toNat,SO.2 (by omega),?_⟩
  exact aj.ext' (by show (((x.prod.toNat * 300 + x.dot.toNat) / 300:Nat):Int) = _; omega) (by show (((x.prod.toNat * 300 + x.dot.toNat) % 300:Nat):Int) = _; omega)
 rwa [Ss,Ts] at this
theorem LU (hp:g.prods.length≤97) (hf:mL g x) (hd:x.dot < 65536):gm x:=by
 obtain ⟨h1,h2,p,h3,_⟩:=hf
 have h4:=(Sk.1 h3).1
 exact ⟨h1,by omega,h2,hd⟩
theorem uF (g:af) (K:cf):(bp g K).Pairwise (· < ·):=(List.pairwise_lt_range (n:=g.T + g.N)).filter _
theorem N2 {ks:List Int} (hc:av g) (hf:∀ x∈K,mL g x) (hn:ks.Nodup) (hk:∀ s,s∈ks↔0≤s∧aF g K s≠[]):ks.mergeSort (fun x y=>decide (x≤y)) = (bp g K).map Int.ofNat:=by
 have hp:=List.mergeSort_perm ks (fun x y=>decide (x≤y))
 have h1:(ks.mergeSort fun x y=>decide (x≤y)).Pairwise (·≤·):=by
  have:=List.pairwise_mergeSort (le:=fun x y:Int=>decide (x≤y)) (fun a b c h1 h2=>by simp at *; omega) (fun a b=>by simp; omega) ks
  exact this.imp fun h=>by simpa using h
 have h2:((bp g K).map Int.ofNat).Pairwise (·≤·):=by
  rw [T9]
  exact (uF g K).imp fun h=>by simp; omega
 have n2:((bp g K).map Int.ofNat).Nodup:=by
  rw [TI,T9]
  exact (uF g K).imp fun h e=>by simp at e; omega
 have p2:ks.Perm ((bp g K).map Int.ofNat):=(List.perm_ext_iff_of_nodup hn n2).2 fun s=>by
  rw [hk,SG]
  constructor
  ·rintro ⟨h0,hne⟩
   obtain ⟨_,h4⟩:=qS hc hf h0 hne
   refine ⟨s.toNat,S7.2 ⟨SO.2 (by omega),?_⟩,by simp; omega⟩
   rw [Sy,Int.toNat_of_nonneg h0]; exact hne
  ·rintro ⟨n,hm,rfl⟩
   exact ⟨by simp,Si (S7.1 hm).2⟩
 exact List.Perm.eq_of_pairwise (fun a b _ _ h3 h4=>Int.le_antisymm h3 h4) h1 h2 (hp.trans p2)
end
section
variable {κ α : Type} [DecidableEq κ]
def A9 (s:κ) (ps:List (κ × Lq α)):Lq α:=(cP s ps).getD ((none,0),[])
theorem G2 {ps:List (κ × Lq α)} (hn:(ps.map Prod.fst).Nodup) {s:κ} {q:Lq α} (hm:(s,q)∈ps):cP s ps = some q:=by
 induction ps with
 | nil=>simp at hm
 | cons x m ih =>
  obtain ⟨a,u⟩:=x
  rw [S0,Te] at hn
  unfold cP
  rcases SA.1 hm with e | hm2
  ·cases e; rw [Sz rfl]
  ·have:s≠a:=fun e=>hn.1 (by subst e; exact SG.2 ⟨_,hm2,rfl⟩)
   rw [Sr this]; exact ih hn.2 hm2
theorem LV {sz:Nat} {f:List α→List Value} {ps:List (κ × Lq α)} (hn:(ps.map Prod.fst).Nodup) {ks:List κ} (hp:ks.Perm (ps.map Prod.fst)):(mO sz f ps).Perm (ks.map fun s=>bX sz f (A9 s ps)):=by
 have e:mO sz f ps = (ps.map Prod.fst).map fun s=>bX sz f (A9 s ps):=by
  unfold mO
  rw [List.map_map]
  refine TJ fun x hx=>?_
  show bX sz f x.2 = bX sz f (A9 x.1 ps)
  unfold A9
  rw [G2 hn hx]; rfl
 rw [e]
 exact (hp.map _).symm
end
theorem LW {w:World} {L M N:List aw} (h:St w (aT M :: L)) (hp:M.Perm N):St w (aT N :: L):=St.flat.2 ((St.flat.1 h).perm (hp.append_right _))
theorem N3 {w:World} {L M:List aw} {A:aw} (h:St w (aT (A :: M) :: L)):St w (A :: aT M :: L):=by
 have h1:St w (A :: (M ++ L)):=St.flat.1 h
 have h2:St w (M ++ (A :: L)):=h1.perm Tq.symm
 exact (St.flat.2 h2).swap
def wv (es:List (List aL)):Nat:=(es.map List.length).sum
theorem xQ (es:List (List aL)) (x:List aL):wv (es ++ [x]) = wv es + x.length:=by unfold wv; simp
theorem il {g:af} {K:cf}:∀ (l:List Nat) (acc:List cf × List aL),(ju g K l acc).2.length = acc.2.length + l.length
 | [],_=>rfl
 | s :: l,acc=>by
  show (ju g K l _).2.length = _
  rw [il l]; simp; omega
theorem xR {ss:List SQ} {i:Nat} {q:SQ} (hq:ss[i]? = some q) (e:Lq aL):bB (ss.set i (q.1,e)) = bB ss∧xO (ss.set i (q.1,e)) = xO ss∧bf (ss.set i (q.1,e)) = (bf ss).set i e.2∧t_ (ss.set i (q.1,e)) = (t_ ss).set i (bX 2 F8 e):=by
 refine ⟨?_,?_,?_,?_⟩
 ·unfold bB; rw [Ta]
  exact AV (by rw [Sn,hq]; rfl)
 ·unfold xO; rw [Ta]
  exact AV (by rw [Sn,hq]; rfl)
 ·unfold bf; rw [Ta]
 ·unfold t_; rw [Ta]
theorem Ip {ss:List SQ} {i:Nat} {q:SQ} (hq:ss[i]? = some q) (e:Lq aL):(tZ ss).set (i * 2 + 1) (bF e) = tZ (ss.set i (q.1,e)) :=
 LQ (f:=N1) (n:=2) (fun _=>rfl) ss i 1 q (q.1,e) _ hq (by decide) rfl
structure bG (g:af) (ss:List SQ):Prop where
 dn:E9 g ss.length
 ks:bB ss = (ct g ss.length).1
 es:bf ss = (ct g ss.length).2
structure JX (g:af) (ss:List SQ) (m:List (ByteArray × Value)) (asked:Int) (i:Nat):Prop where
 ks:bB ss = (ct g i).1
 es:bf ss = (ct g i).2 ++ List.replicate (ss.length - i) []
 lt:∀ j,j < i→j < (ct g j).1.length
 le:ss.length≤256
 key:zy m (bB ss)
 ask:asked = 1 + (wv (ct g i).2:Int)
structure Fq (g:af) (K:cf) (ss:List SQ) (m:List (ByteArray × Value)) (asked:Int) (i t:Nat) (es:List aL):Prop where
 ks:bB ss = (ju g K ((bp g K).take t) ((ct g i).1,[])).1
 ed:es = (ju g K ((bp g K).take t) ((ct g i).1,[])).2
 es:bf ss = (ct g i).2 ++ List.replicate (ss.length - i) []
 le:ss.length≤256
 key:zy m (bB ss)
 ask:asked = 1 + (wv (ct g i).2:Int) + t
section
variable {g:af} {K:cf} {ss:List SQ} {m m' : List (ByteArray × Value)} {asked:Int} {i t:Nat} {es:List aL}
theorem JX.start {b:Option Addr} {d:Nat} (h:zy m (oM [] [⟨0,0⟩])):JX g (dW [] b d [⟨0,0⟩]) m 1 0:=by
 have e:dW [] b d [⟨0,0⟩] = [(((b,d),[⟨0,0⟩]),((none,0),[]))]:=by simp [dW,bB]
 have e2:oM [] [(⟨0,0⟩ : aj)] = [[⟨0,0⟩]]:=by simp [oM]
 rw [e2] at h
 rw [e]
 exact ⟨rfl,rfl,fun j hj=>by omega,by simp,h,rfl⟩
theorem JX.inner (h:JX g ss m asked i) (hK:(ct g i).1[i]? = some K):Fq g K ss m asked i 0 [] :=
 ⟨h.ks,rfl,h.es,h.le,h.key,by rw [h.ask]; omega⟩
theorem Fq.next (h:Fq g K ss m asked i t es) {s:Nat} (hs:(bp g K)[t]? = some s) (hi:i≤ss.length) {b:Option Addr} {d:Nat} (hk:zy m' (oM (bB ss) (aF g K s))) (hle:(dW ss b d (aF g K s)).length≤256) :
  Fq g K (dW ss b d (aF g K s)) m' (asked + 1) i (t + 1) (es ++ [⟨(s:Int),(((bB ss).idxOf (aF g K s):Nat):Int)⟩]):=by
 have e:=E7 (g:=g) (K:=K) (acc:=((ct g i).1,[])) hs
 refine ⟨?_,?_,?_,hle,by rw [zS]; exact hk,by rw [h.ask]; omega⟩
 ·rw [zS,e,h.ks]
 ·rw [e,h.ed,h.ks]
 ·unfold dW
  split
  ·exact h.es
  ·have:bf (ss ++ [(((b,d),aF g K s),(((none,0),[]):Lq aL))]) = bf ss ++ [[]]:=by simp [bf]
   rw [this,h.es,Sx,T5,show ss.length + 1 - i = (ss.length - i) + 1 by omega,List.replicate_succ',SI]
theorem Fq.done (h:Fq g K ss m asked i (bp g K).length es) (hb:∀ j,j < i→j < (ct g j).1.length) (hK:(ct g i).1[i]? = some K) (hes:(ct g i).2.length = i) (hi:i < ss.length) {q:SQ} (hq:ss[i]? = some q) (e:Lq aL) (he:e.2 = es) :
  JX g (ss.set i (q.1,e)) m asked (i + 1):=by
 have hs:=xR hq e
 have hk:=h.ks
 have hd:=h.ed
 rw [SM] at hk hd
 have hb1:=dD hK
 refine ⟨by rw [hs.1,hb1,hk],?_,fun j hj=>?_,by rw [SL]; exact h.le,by rw [hs.1]; exact h.key,?_⟩
 ·rw [hs.2.2.1,h.es,hb1,he,← hd,SL,T3 _ _ (by omega),hes,Tx,show ss.length - i = (ss.length - (i + 1)) + 1 by omega,T0,List.set_cons_zero,SI]
  rfl
 ·by_cases e2:j = i
  ·subst e2; exact (Sk.1 hK).1
  ·exact hb j (by omega)
 ·rw [hb1,xQ,h.ask,il]
  simp; omega
end
end Go.V
namespace Go.V
theorem zT {g:af}:∀ i,wv (ct g i).2≤i * (g.T + g.N)
 | 0=>Sv _
 | i + 1=>by
  cases h:(ct g i).1[i]? with
  | none=>rw [mM h,TN]; exact SK (zT i) (Nat.le_add_right _ _)
  | some K =>
   rw [dD h,xQ,il,TN]
   have h1:(bp g K).length≤g.T + g.N:=by
    have:=Tj (fun s=>decide (aF g K (s:Nat)≠[])) (List.range (g.T + g.N))
    rwa [Ts] at this
   have:=zT (g:=g) i
   simp; omega
theorem A_ (ss:List SQ) (b:Option Addr) (d:Nat) (K:cf):ss.length≤(dW ss b d K).length∧(dW ss b d K).length≤ss.length + 1:=by
 unfold dW; split <;> simp
theorem N4 {κ α : Type} (ps:List (κ × Lq α)):(mV ps).map Prod.fst = ps.map Prod.fst:=by unfold mV; rw [List.map_map]; rfl
theorem PW {κ α : Type} (ps:List (κ × Lq α)):(mV ps).length = ps.length:=Ss _
abbrev z3:List Value:=[.slice none 0 0,.int .i64 0,.int .i64 0]
end Go.V
namespace Go.Proofs.YtngdohpikfcifaaGreatDoor
open Go.V
variable {w:World} {L:List aw} {g:af} {x:GA}
theorem N5 (hg:gR (hp w) g x) (hb:iM g):aC Tryz.prog yQ [.agg ⟨x.cells⟩] w fun v w' =>
  (¬av g∧v = .tuple #[.agg #[.slice none 0 0,.int .i64 0,.int .i64 0],.int .i64 1]∧Gr w w') ∨
  (av g∧NU g∧v = .tuple #[.agg #[.slice none 0 0,.int .i64 0,.int .i64 0],.int .i64 11]∧Gr w w') ∨
  (av g∧∃ (o:Option Addr) (ss:List SQ),bG g ss∧v = .tuple #[.agg #[.slice o ss.length ss.length,.int .i64 (1 + (wv (bf ss):Int)),.int .i64 (ss.length:Int)],.int .i64 0] ∧
   St w' (own 2 o ss.length ss.length (tZ ss) :: aT (xO ss) :: aT (t_ ss) :: all w)):=by
 refine B9 _ _ _ _ _ _ _ _ _ _ _ _ _ w _ (de hg fun k1 w1 gw hg B=>?_)
 refine ah (St.all w1) fun k2 w2 h=>?_
 refine ⟨_,_,_,_,_,_,_,_,_,_,_,_,_,B.row h.aX,(E4 (hg.mono h.aX) hb).mono ?_⟩
 rintro _ w3 ⟨⟨rb,rfl,hrb⟩,g3⟩
 have h:=h.gr g3
 have s3:sub (hp w1) (hp w3):=h.aX
 refine ⟨_,rfl,ae (fun h1=>?_) fun h1=>?_⟩
 ·have hn:¬av g:=fun hc=>by rw [hrb.2 hc] at h1; simp at h1
  exact bh h rfl (by simp [aS]) fun w4 h=>⟨_,_,_,_,_,(ai 0 h.l).at (sub.refl _) rfl,.inl ⟨hn,rfl,gw.trans h.aX⟩⟩
 have hc:av g:=hrb.1 (by simpa using h1)
 obtain ⟨hT,hN,hP,hP2,hT1,hN2⟩:=hc.eD
 obtain ⟨_,_,_,_,_,_,hbr⟩:=id hb
 refine ⟨_,_,_,_,_,_,_,_,_,_,_,_,_,B.row s3,(Q4 (hg.mono s3) hb).mono ?_⟩
 rintro _ w5 ⟨km,kb,pb,rfl,hpb,h5⟩
 have h:=(St.on (N:=[_,_,_]) h5 h.l).pick 5 [3,0,1,2,4]
 obtain ⟨H,hlH,sH,h⟩:=St.freeze h
 have s1H:sub (hp w1) H:=aZ 3 hlH
 have hm:O3 H g km:=Q5 (hg.mono s1H) hpb hlH
 have sw:sub (hp w) H:=sub.trans gw s1H
 clear hlH h5 sH B s3 g3
 refine ⟨_,rfl,mg h fun ka w6 h=>?_⟩
 have h:=dC (κ:=ByteArray) h
 refine ah h fun kt w7 h=>ah h fun k3 w8 h=>?_
 have h:St w8 (own 2 (some (aM k3)) 1 1 (tv [⟨0,0⟩]) :: aR kt [.slice none 0 0,.int .i64 0,.int .i64 0,.map (some ka)] :: mapA ka ([] : List (ByteArray × Value)) :: aR k2 z3 :: [has H]):=eX (cs:=[]) h rfl rfl (SF _)
 have h:=aB 2 ((St.flat (M:=[])).2 ((St.flat (M:=[])).2 h))
 refine (Fp (ss:=[]) (h.pick 8 [4,0,5,1,2,3,6,7]) zy.start (by simp) (by simp [gm]) ⟨by decide,by decide⟩ ⟨by decide,by decide⟩ (by simp) (by decide)).mono ?_
 rintro _ w9 ⟨rfl,o1,c1,m1,hk1,h⟩
 refine ⟨_,rfl,fun z w'=>∃ (i:Nat) (ss:List SQ) (o:Option Addr) (c:Nat) (m:List (ByteArray × Value)) (asked:Int),z = i∧i≤ss.length∧JX g ss m asked i∧St w' (G1 kt ka o c asked ss.length m ss (aR k2 z3 :: [has H])),fun z _=>300 - z.toNat,
  ⟨0,dW [] (some (aM k3)) 1 [⟨0,0⟩],o1,c1,m1,1,rfl,Sv _,.start hk1,?_⟩,?_⟩
 ·have e:(0:Int) + (((dW [] (some (aM k3)) 1 [⟨0,0⟩]).length - ([] : List SQ).length:Nat):Int) = ((dW [] (some (aM k3)) 1 [⟨0,0⟩]).length:Int):=by simp
  rw [e] at h
  exact h
 clear h hk1
 rintro _ _ w10 ⟨i,ss,o,c,m,asked,rfl,hi,hB,h⟩
 have hlen:ss.length≤256:=hB.le
 refine ⟨_,_,_,(ai 0 h.l).cell0 (sub.refl _),ae (fun h1=>?_) fun h1=>?_⟩
 rotate_left
 ·have h1:i = ss.length:=by have:=Sj h1; omega
  subst h1
  have hkl:=dh ss
  have hes:=hB.es
  rw [Tx,List.replicate_zero,S6] at hes
  have hA:bG g ss:=⟨⟨by rw [← hB.ks,hkl],hlen,hB.lt⟩,hB.ks,hes⟩
  refine ⟨_,_,_,(ai 0 h.l).cell0 (sub.refl _),eM _ _ _ w10 _ (fk (dJ (h.pick 2 [1])) ⟨_,_,_,rfl,?_⟩)⟩
  have h:=fj (h.pick 7 [1,0,3,4,5,6])
  refine bg (h.pick 2 [1,0]) (by simp) fun w31 h=>?_
  have r31:ax (hp w31) (aM kt) ([.slice (fw o 0 ss.length 2) ss.length ss.length,.int .i64 asked,.int .i64 (ss.length:Int)] ++ [.map (some ka)]):=ai 0 h.l
  refine ⟨_,_,_,_,_,r31.take.at (sub.refl _) rfl,bh (h.pick 6 [4,1,2,3,5]) rfl (by simp [aS]) fun w32 h=>⟨_,_,_,_,_,(ai 0 h.l).at (sub.refl _) rfl,.inr (.inr ⟨hc,fw o 0 ss.length 2,ss,hA,?_,?_⟩)⟩⟩
  ·rw [hes,← hB.ask]
  ·exact St.on (N:=[_,_,_]) (h.pick 5 [1,2,3,4]) (cE sw)
 have h1:i < ss.length:=by have:=Si h1; omega
 obtain ⟨q,hq⟩ : ∃ q,ss[i]? = some q:=⟨_,Sm h1⟩
 obtain ⟨K,hKq⟩ : ∃ K,K = q.1.2:=⟨_,rfl⟩
 have hK:(ct g i).1[i]? = some K:=by rw [← hB.ks]; unfold bB; rw [Sn,hq,hKq]; rfl
 have hI:=jf (g:=g) (by omega) i
 have hKm:=Sl hK
 have hKf:=hI.fit K hKm
 have hKd:∀ x∈K,x.dot≤i:=hI.dots i K hK
 have hKl:=wu hP (hI.QJ K hKm) hKf fun x hx=>by have:=hKd x hx; omega
 have htot:=zT (g:=g) i
 have htot2:wv (ct g i).2≤33280:=SK htot (Nat.mul_le_mul (show i≤256 by omega) (show g.T + g.N≤130 by omega))
 have hes:=DE (g:=g) i (by rw [← hB.ks,dh]; omega)
 obtain ⟨ad,rfl,rs⟩:=xP (gB 1 h.l) hq
 obtain ⟨h6,s6,ho6⟩:=zR (h.pick 4 [3]).l (DP hq)
 have hrK:aW (hp w10) K q.1.1.1 q.1.2.length:=by have:=(DQ ho6).mono s6; rwa [hKq]
 have hql:q.1.2.length = K.length:=by rw [hKq]
 clear ho6 s6
 have s10:sub H (hp w10):=aZ 6 h.l
 refine ⟨_,_,_,(ai 0 h.l).cell0 (sub.refl _),ay rfl h1 ⟨_,_,_,rs.cell0 (sub.refl _),(JV (hm.mono s10) hrK hKf (by rw [hql]; omega) hbr).mono ?_⟩⟩
 rintro _ w11 ⟨kk,ps,rfl,hps,hnd,hks,h2⟩
 have h:=h2.JA h.l
 clear rs hrK h2 s10
 have hkeys:ps.length≤130:=by
  have:=gQ (m:=(List.range 130).map Int.ofNat) hnd fun s hs=>by
   obtain ⟨h0,hne⟩:=(hks s).1 hs
   obtain ⟨_,h4⟩:=qS hc hKf h0 hne
   exact SG.2 ⟨s.toNat,SO.2 (by omega),by simp; omega⟩
  rwa [Ss,Ss,Ts] at this
 refine ⟨_,rfl,(JQ aK (rfl:ag Ty _ = .map _ _) h).mono ?_⟩
 rintro _ w12 ⟨r,rfl,h⟩
 refine ⟨_,rfl,fun o n c' w'=>∃ ks:List Int,n = ks.length∧St w' (own 1 o n c' (iv ks) :: CN kk r (mV ps) ks :: aT (mO 2 tv ps) :: G1 kt ka (some ad) c asked ss.length m ss (aR k2 z3 :: [has H])),fun _ n _ _=>ps.length - n,⟨[],rfl,aB 1 h⟩,?_⟩
 clear h
 rintro _ o16 _ c16 w13 ⟨ks,rfl,h⟩
 refine (LN (h.pick 2 [1,0])).mono ?_
 rintro _ w14 (⟨rfl,hperm,h⟩ | ⟨s,u,hsm,rfl,hkl,h⟩)
 rotate_left
 ·rw [PW] at hkl
  refine .inr ⟨s,u,rfl,(JR h).mono ?_⟩
  rintro _ w27 ⟨rfl,e27⟩
  rw [e27]
  refine ⟨s,u,rfl,ah (JO h) fun k49 w28 h=>?_⟩
  refine (aQ (us:=iv ks) aK (rfl:ag Ty _ = .slice _) (rfl:ag Ty _ = .slice _) rfl rfl rfl (h.pick 3 [0,2,1]) rfl (by simp [aS]) (by show (ks.length + 1) * 8≤_; omega) (by omega)).mono ?_
  rintro _ w29 ⟨o29,c29,rfl,h⟩
  refine ⟨_,_,_,rfl,⟨ks ++ [s],by simp,?_⟩,by dsimp only; omega⟩
  have e:iv (ks ++ [s]) = iv ks ++ [.int .i64 s]:=by simp [iv]
  rw [e]
  exact h.pick 3 [0,2]
 rw [N4] at hperm
 obtain ⟨S,hS⟩ : ∃ S,S = bp g K:=⟨_,rfl⟩
 have hksS:=N2 (ks:=ks) hc hKf (hperm.nodup_iff.2 hnd) fun s=>by rw [hperm.mem_iff]; exact hks s
 rw [← hS] at hksS
 have hpS:(S.map Int.ofNat).Perm (ps.map Prod.fst):=by rw [← hksS]; exact (List.mergeSort_perm ks _).trans hperm
 have hksl:ks.length = S.length:=by rw [hperm.length_eq,← hpS.length_eq,Ss]
 have hSl:S.length≤130:=by have:=hpS.length_eq; rw [Ss,Ss] at this; omega
 refine .inl ⟨rfl,(Ig (h.pick 2 [1,0]) (by omega)).mono ?_⟩
 rintro _ w15 ⟨rfl,h⟩
 rw [hksS] at h
 have h:=LW (h.pick 3 [2,0,1]) (LV hnd hpS)
 refine ⟨rfl,fun o n c' z w'=>∃ (t:Nat) (es:List aL) (ss' : List SQ) (o' : Option Addr) (c'' : Nat) (m' : List (ByteArray × Value)) (asked' : Int),z = t∧t≤S.length∧n = es.length∧Fq g K ss' m' asked' i t es∧ss.length≤ss'.length ∧
   St w' (own 2 o n c' (F8 es) :: own 1 o16 ks.length c16 (iv (S.map Int.ofNat)) :: mapA kk (mV ps) :: aT (((S.map Int.ofNat).drop t).map fun s=>bX 2 tv (A9 s ps)) :: G1 kt ka o' c'' asked' ss'.length m' ss' (aR k2 z3 :: [has H])),fun _ _ _ z _=>S.length - z.toNat,
  ⟨0,[],ss,some ad,c,m,asked,rfl,Sv _,rfl,hB.inner hK,SF _,aB 2 (h.pick 3 [1,2,0])⟩,?_⟩
 clear h hq hKq hql
 rintro _ o17 _ c17 _ w16 ⟨t,es,ss',o',c'',m',asked',rfl,ht,rfl,hT2,hle,h⟩
 have hle2:ss'.length≤256:=hT2.le
 have hesl:es.length = t:=by
  rw [hT2.ed,il,SN,← hS,TW ht]; simp
 refine ae (fun h3=>?_) fun h3=>?_
 ·have h3:t < S.length:=by have:=Si h3; omega
  obtain ⟨s,hs⟩ : ∃ s,S[t]? = some s:=⟨_,Sm h3⟩
  have hsI:(S.map Int.ofNat)[t]? = some (s:Int):=by rw [Sn,hs]; rfl
  obtain ⟨oad,hoa,hoc⟩:=bH (h.pick 2 [1]) (j:=t) (v:=.int .i64 (s:Int)) (by unfold iv; rw [Sn,hsI]; rfl)
  have hkn:aF g K (s:Int)≠[]:=sD s (by rw [← hS]; exact Sl hs)
  have hsk:(s:Int)∈ps.map Prod.fst:=(hks s).2 ⟨by omega,hkn⟩
  obtain ⟨Q,hQ⟩ : ∃ Q,cP (s:Int) ps = some Q:=Option.isSome_iff_exists.1 (LP.2 hsk)
  have hQD:A9 (s:Int) ps = Q:=by unfold A9; rw [hQ]; rfl
  have hQ2:Q.2 = aF g K (s:Int):=by rw [← hps s (by omega)]; unfold gP; rw [hQ]
  have hdrop:(S.map Int.ofNat).drop t = (s:Int) :: (S.map Int.ofNat).drop (t + 1):=by
   rw [Tz (by rw [Ss]; exact h3)]
   congr 1
   exact (Sk.1 hsI).2
  have hkl:=DN g K
  have hkl2:(aF g K (s:Int)).length≤(cls g K).length:=sI g _ _
  have hQl:Q.2.length≤29300:=by rw [hQ2]; exact SK hkl2 (SK hkl (by omega))
  refine aq hoa (by omega) ⟨_,hoc,(bW (κ:=Int) aK (rfl:ag Ty _ = .map _ _) bz rfl rfl (h.pick 3 [2]) (s:Int)).mono ?_⟩
  rintro _ w17 ⟨rfl,e17⟩
  rw [e17]
  rw [hdrop,S0,hQD] at h
  have h:=N3 (h.pick 4 [3,0,1,2])
  refine ⟨Q.1.1,Q.2.length,Q.1.2,by rw [gl,hQ]; rfl,(LM h (by omega)).mono ?_⟩
  rintro _ w18 ⟨o18,rfl,h⟩
  rw [hQ2,mK AX] at h ⊢
  have hsmall:∀ x∈aF g K (s:Int),gm x:=fun x hx=>by
   refine LU hP (AZ hKf (S_ _) x hx) ?_
   obtain ⟨y,h1,_,rfl⟩:=ik.1 hx
   have:=h1.dot hKd (S_ _)
   show y.dot + 1 < 65536
   omega
  have hask:=hT2.ask
  refine ⟨_,_,_,rfl,(Fp (h.pick 10 [5,6,7,8,9,0,1,2,3,4]) hT2.key hkn hsmall ⟨by omega,by omega⟩ ⟨by omega,by omega⟩ (by omega) (by rw [← hQ2]; omega)).mono ?_⟩
  rintro _ w19 ⟨rfl,o2',c2',m2',hk2,h⟩
  have hnl:=A_ ss' o18 (aF g K (s:Int)).length (aF g K (s:Int))
  have eint:(ss'.length:Int) + (((dW ss' o18 (aF g K (s:Int)).length (aF g K (s:Int))).length - ss'.length:Nat):Int) = ((dW ss' o18 (aF g K (s:Int)).length (aF g K (s:Int))).length:Int):=by omega
  rw [eint] at h
  refine ⟨_,rfl,ah h fun k38 w20 h=>?_⟩
  refine (aQ (us:=F8 es) aK (rfl:ag Ty _ = .slice _) (rfl:ag Ty _ = .slice _) rfl rfl rfl (h.pick 8 [0,7,1,2,3,4,5,6]) rfl (by simp [aS]) (by show (es.length + 1) * 16≤_; omega) (by omega)).mono ?_
  rintro _ w21 ⟨o20,c20,rfl,h⟩
  refine ⟨_,_,_,rfl,_,_,_,(ai 2 h.l).cell0 (sub.refl _),ae (fun h4=>?_) fun h4=>?_⟩
  ·have h4:256 < (dW ss' o18 (aF g K (s:Int)).length (aF g K (s:Int))).length:=by have:=Si h4; omega
   refine bh (h.pick 12 [10,11]) rfl (by simp [aS]) fun w22 h=>⟨_,_,_,_,_,(ai 0 h.l).at (sub.refl _) rfl,.inr (.inl ⟨hc,⟨i,K,t + 1,hK,fun j hj=>?_,?_⟩,rfl,sub.trans sw (aZ 1 h.l)⟩)⟩
   ·by_cases e:j = i
    ·subst e; exact (Sk.1 hK).1
    ·exact hB.lt j (by omega)
   ·rw [hS] at hs
    rw [E7 hs,← hT2.ks]
    have:=dh (dW ss' o18 (aF g K (s:Int)).length (aF g K (s:Int)))
    rw [zS] at this
    show 256 < (oM _ _).length
    omega
  ·have h4:(dW ss' o18 (aF g K (s:Int)).length (aF g K (s:Int))).length≤256:=by have:=Sj h4; omega
   refine ⟨⟨by omega,by omega⟩,⟨t + 1,es ++ [⟨(s:Int),(((bB ss').idxOf (aF g K (s:Int)):Nat):Int)⟩],_,o2',c2',m2',_,by simp,h3,by simp,hT2.next (by rw [← hS]; exact hs) (by omega) hk2 h4,by omega,?_⟩,bA h3⟩
   have e:F8 (es ++ [⟨(s:Int),(((bB ss').idxOf (aF g K (s:Int)):Nat):Int)⟩]) = F8 es ++ [.int .i64 (s:Int),.int .i64 (((bB ss').idxOf (aF g K (s:Int)):Nat):Int)]:=by unfold F8; rw [Tv]; rfl
   rw [e]
   exact h.pick 10 [0,8,9,7,2,3,4,5,6]
 ·have h3:t = S.length:=by have:=Sj h3; omega
  intro w23 hd
  have h:=h.eq (aD hd)
  obtain ⟨q',hq'⟩ : ∃ q',ss'[i]? = some q':=⟨_,Sm (by omega)⟩
  have rt:ax (hp w23) (aM kt) [.slice o' ss'.length c'',.int .i64 asked',.int .i64 (ss'.length:Int),.map (some ka)]:=ai 4 h.l
  obtain ⟨ad',rfl,_⟩:=xP (gB 5 h.l) hq'
  refine ⟨fun u=>Gr w23 u,Gr.refl _,_,_,_,fun u s=>rt.cell0 s,fF _ _ _ w23 _ (fk (dJ h) ⟨_,_,_,rfl,Gr.refl _,ay rfl (by omega) ?_⟩)⟩
  have h:=fj h
  rw [add_add,aH]
  refine gh (h.pick 6 [5,0,4]) rfl (by rw [DO]; omega) fun w26 h=>?_
  rw [h3] at hT2
  have hen:(fw o17 0 es.length 2,es.length,es).2.2 = es:=rfl
  have e1:=Ip hq' ((fw o17 0 es.length 2,es.length),es)
  have e2:=xR hq' ((fw o17 0 es.length 2,es.length),es)
  have h:=(St.Lx (n:=i) (h.pick 6 [1,5,0,2,3,4]) (by unfold t_; rw [Ss]; omega)).pick 5 [2,1,3,4,0]
  refine ⟨⟨by omega,by omega⟩,⟨i + 1,ss'.set i (q'.1,((fw o17 0 es.length 2,es.length),es)),some ad',c'',m',asked',by simp,by rw [SL]; omega,(by rw [← hS]; exact hT2:Fq g K ss' m' asked' i (bp g K).length es).done hB.lt hK hes (by omega) hq' _ rfl,?_⟩,by dsimp only; omega⟩
  unfold G1
  rw [SL,e2.2.1,e2.2.2.2,← e1]
  exact h
end Go.Proofs.YtngdohpikfcifaaGreatDoor
namespace Go.Proofs.YtngdohpikfcifaaGreatDoor
open Go.V
abbrev im:FuncId:=70
def nO:bj:={ rngs:=[],loops:=[(7,[(6,(.one (.int .i64)))]),(11,[(8,(.one (.int .i64)))])],joins:=[],blocks:=[] }
def pA (a:Option Addr) (b c:Nat) (d:Option Addr) (e f:Nat) (g:Option Addr) (i j:Nat) (k:Int) (l:Option Addr) (m n:Nat) (w:World) (R:Value→WP):Prop :=  new w (oC [vS a b c,vS d e f,vS g i j,iI k,vS l m n] 27) fun k1 w1=>new w1 (oC [vS none 0 0,iI 0,iI 0] 63) fun k2 w2=>∃ o1 k3 k4 o2 k5 k6 o3 k7 k8 n1 o4 k9 k10,V.rowAt w2 (aM k1) 0 5 = some [vS o1 k3 k4,vS o2 k5 k6,vS o3 k7 k8,iI n1,vS o4 k9 k10]∧au Proofs.Tryz.prog Ev 20 [vA (Array.mk [vS o1 k3 k4,vS o2 k5 k6,vS o3 k7 k8,iI n1,vS o4 k9 k10])] w2 fun v1 w3=>∃ b1,v1 = vB b1∧br (!b1) (iA w3 (aM k2) [vS none 0 0,iI 0,iI 0] fun w4=>∃ o5 k11 k12 n2 n3,V.rowAt w4 (aM k2) 0 3 = some [vS o5 k11 k12,iI n2,iI n3]∧R (vT (Array.mk [vA (Array.mk [vS o5 k11 k12,iI n2,iI n3]),iI 1])) w4) (new w3 (oC [vS none 0 0,iI 0,iI 0] 63) fun k13 w5=>iA w5 (aM k13) [vS none 0 0,iI 1,iI 1] fun w6=>∃ o6 k14 k15,World.cell? w6 (aM k13) = some (vS o6 k14 k15)∧new w6 (oC [iI 0,iI 0] 76) fun k16 w7=>new w7 (oC [vS (some (aM k16)) 1 1,vS none 0 0] 71) fun k17 w8=>az Proofs.Tryz.prog (f_ 61 (Array.mk [vS o6 k14 k15,vS (some (aM k17)) 1 1])) w8 fun v2 w9=>∃ o7 k18 k19,v2 = vS o7 k18 k19∧st1 w9 (aM k13) (vS o7 k18 k19) fun w10=>∃ (x1:lP [(6,aI)]),∃ (x2:lN [(6,aI)]),x1 0 w10∧∀ (I1:Nat→Value) (n4:Int) (w11:World),x1 n4 w11→∃ o8 k20 k21,World.cell? w11 (aM k13) = some (vS o8 k20 k21)∧br (decide (n4 < (↑k20:Int))) (∀ w12,drawn w11 w12→∃ (I2:World→Prop),I2 w12∧∃ o9 k22 k23 o10 k24 k25 o11 k26 k27 n5 o12 k28 k29,(∀ w13,I2 w13→V.rowAt w13 (aM k1) 0 5 = some [vS o9 k22 k23,vS o10 k24 k25,vS o11 k26 k27,iI n5,vS o12 k28 k29])∧∃ o13 k30 k31,(∀ w14,I2 w14→World.cell? w14 (aM k13) = some (vS o13 k30 k31))∧idx o13 k30 n4 2 fun a1=>∃ o14 k32 k33,(∀ w15,I2 w15→World.cell? w15 a1 = some (vS o14 k32 k33))∧au Proofs.Tryz.prog Ev 109 [vA (Array.mk [vS o9 k22 k23,vS o10 k24 k25,vS o11 k26 k27,iI n5,vS o12 k28 k29]),vS o14 k32 k33] w12 fun v3 w16=>∃ o15 k34 k35,v3 = vS o15 k34 k35∧I2 w16∧∃ (x3:lP [(8,aI)]),∃ (x4:lN [(8,aI)]),x3 1 w16∧∀ (I3:Nat→Value) (n6:Int) (w17:World),x3 n6 w17→∃ o16 k36 k37 o17 k38 k39 o18 k40 k41 n7 o19 k42 k43,V.rowAt w17 (aM k1) 0 5 = some [vS o16 k36 k37,vS o17 k38 k39,vS o18 k40 k41,iI n7,vS o19 k42 k43]∧au Proofs.Tryz.prog Ev 25 [vA (Array.mk [vS o16 k36 k37,vS o17 k38 k39,vS o18 k40 k41,iI n7,vS o19 k42 k43])] w17 fun v4 w18=>∃ n8,v4 = iI n8∧br (decide (n6 < n8)) (∃ o20 k44 k45 o21 k46 k47 o22 k48 k49 n9 o23 k50 k51,V.rowAt w18 (aM k1) 0 5 = some [vS o20 k44 k45,vS o21 k46 k47,vS o22 k48 k49,iI n9,vS o23 k50 k51]∧au Proofs.Tryz.prog Ev 110 [vA (Array.mk [vS o20 k44 k45,vS o21 k46 k47,vS o22 k48 k49,iI n9,vS o23 k50 k51]),iI n6,vS o15 k34 k35] w18 fun v5 w19=>∃ o24 k52 k53,v5 = vS o24 k52 k53∧br ((↑k52:Int) == 0) (aG (n6 + 1)∧x3 (n6 + 1) w19∧x4 (n6 + 1) w19 < x4 n6 w17) (∃ n10,World.cell? w19 (Addr.add (aM k13) 1) = some (iI n10)∧aG (n10 + 1)∧st1 w19 (Addr.add (aM k13) 1) (iI (n10 + 1)) fun w20=>∃ o25 k54 k55,World.cell? w20 (aM k13) = some (vS o25 k54 k55)∧au Proofs.Tryz.prog Ev 111 [vS o25 k54 k55,vS o24 k52 k53] w20 fun v6 w21=>∃ n11,v6 = iI n11∧br (decide (n11 < 0)) (∃ o26 k56 k57,World.cell? w21 (aM k13) = some (vS o26 k56 k57)∧br (decide (256≤(↑k56:Int))) (iA w21 (aM k2) [vS none 0 0,iI 0,iI 0] fun w22=>∃ o27 k58 k59 n12 n13,V.rowAt w22 (aM k2) 0 3 = some [vS o27 k58 k59,iI n12,iI n13]∧R (vT (Array.mk [vA (Array.mk [vS o27 k58 k59,iI n12,iI n13]),iI 11])) w22) (∃ n14,World.cell? w21 (Addr.add (aM k13) 2) = some (iI n14)∧aG (n14 + 1)∧st1 w21 (Addr.add (aM k13) 2) (iI (n14 + 1)) fun w23=>∃ o28 k60 k61,World.cell? w23 (aM k13) = some (vS o28 k60 k61)∧new w23 (oC [vS o24 k52 k53,vS none 0 0] 71) fun k62 w24=>az Proofs.Tryz.prog (f_ 61 (Array.mk [vS o28 k60 k61,vS (some (aM k62)) 1 1])) w24 fun v7 w25=>∃ o29 k63 k64,v7 = vS o29 k63 k64∧st1 w25 (aM k13) (vS o29 k63 k64) fun w26=>∀ w27,drawn w26 w27→∃ (I4:World→Prop),I4 w27∧∃ o30 k65 k66,(∀ w28,I4 w28→World.cell? w28 (aM k13) = some (vS o30 k65 k66))∧∃ o31 k67 k68,(∀ w29,I4 w29→World.cell? w29 (aM k13) = some (vS o31 k67 k68))∧idx o31 k67 n4 2 fun a2=>∃ o32 k69 k70,(∀ w30,I4 w30→World.cell? w30 (Addr.add a2 1) = some (vS o32 k69 k70))∧new w27 (oC [iI n6,iI (↑k56:Int)] 101) fun k71 w31=>I4 w31∧az Proofs.Tryz.prog (f_ 69 (Array.mk [vS o32 k69 k70,vS (some (aM k71)) 1 1])) w31 fun v8 w32=>∃ o33 k72 k73,v8 = vS o33 k72 k73∧I4 w32∧idx o30 k65 n4 2 fun a3=>st1 w32 (Addr.add a3 1) (vS o33 k72 k73) fun w33=>aG (n6 + 1)∧x3 (n6 + 1) w33∧x4 (n6 + 1) w33 < x4 n6 w17)) (∀ w34,drawn w21 w34→∃ (I5:World→Prop),I5 w34∧∃ o34 k74 k75,(∀ w35,I5 w35→World.cell? w35 (aM k13) = some (vS o34 k74 k75))∧∃ o35 k76 k77,(∀ w36,I5 w36→World.cell? w36 (aM k13) = some (vS o35 k76 k77))∧idx o35 k76 n4 2 fun a4=>∃ o36 k78 k79,(∀ w37,I5 w37→World.cell? w37 (Addr.add a4 1) = some (vS o36 k78 k79))∧new w34 (oC [iI n6,iI n11] 101) fun k80 w38=>I5 w38∧az Proofs.Tryz.prog (f_ 69 (Array.mk [vS o36 k78 k79,vS (some (aM k80)) 1 1])) w38 fun v9 w39=>∃ o37 k81 k82,v9 = vS o37 k81 k82∧I5 w39∧idx o34 k74 n4 2 fun a5=>st1 w39 (Addr.add a5 1) (vS o37 k81 k82) fun w40=>aG (n6 + 1)∧x3 (n6 + 1) w40∧x4 (n6 + 1) w40 < x4 n6 w17))) (aG (n4 + 1)∧x1 (n4 + 1) w18∧x2 (n4 + 1) w18 < x2 n4 w11)) (∃ o38 k83 k84 n15 n16,V.rowAt w11 (aM k13) 0 3 = some [vS o38 k83 k84,iI n15,iI n16]∧iA w11 (aM k2) [vS o38 k83 k84,iI n15,iI n16] fun w41=>∃ o39 k85 k86 n17 n18,V.rowAt w41 (aM k2) 0 3 = some [vS o39 k85 k86,iI n17,iI n18]∧R (vT (Array.mk [vA (Array.mk [vS o39 k85 k86,iI n17,iI n18]),iI 0])) w41))
theorem nP (a:Option Addr) (b c:Nat) (d:Option Addr) (e f:Nat) (g:Option Addr) (i j:Nat) (k:Int) (l:Option Addr) (m n:Nat) (w:World) (R:Value→WP) (h:pA a b c d e f g i j k l m n w R):aC Tryz.prog 70 [(.agg #[(.slice a b c),(.slice d e f),(.slice g i j),(.int .i64 k),(.slice l m n)])] w R:=rv Tryz.func70 nO (by kernel_rfl) h

abbrev tn:FuncId:=72
def pB:bj:={ rngs:=[],loops:=[(3,[(4,(.one .bool))]),(6,[(4,(.one .bool)),(5,(.one (.int .i64)))])],joins:=[],blocks:=[] }
def qT (a:Option Addr) (b c:Nat) (d:Option Addr) (e f:Nat) (g:Option Addr) (i j:Nat) (k:Int) (l:Option Addr) (m n:Nat) (w:World) (R:Value→WP):Prop :=  new w (oC [vS a b c,vS d e f,vS g i j,iI k,vS l m n] 27) fun k1 w1=>∃ o1 k2 k3,World.cell? w1 (Addr.add (aM k1) 1) = some (vS o1 k2 k3)∧y7 (↑k2:Int) (↑k2:Int) 1∧new w1 (Obj.cells (Array.mk (gG (Int.toNat (↑k2:Int)) [vB false])) 4) fun k4 w2=>∃ (x1:lP [(4,yL)]),∃ (x2:lN [(4,yL)]),x1 true w2∧∀ (I1:Nat→Value) (b1:Bool) (w3:World),x1 b1 w3→br b1 (∃ (x3:lP [(4,yL),(5,aI)]),∃ (x4:lN [(4,yL),(5,aI)]),x3 false 0 w3∧∀ (I2:Nat→Value) (b2:Bool) (n1:Int) (w4:World),x3 b2 n1 w4→∃ o2 k5 k6,World.cell? w4 (Addr.add (aM k1) 4) = some (vS o2 k5 k6)∧br (decide (n1 < (↑k5:Int))) (∀ w5,drawn w4 w5→∃ (I3:World→Prop),I3 w5∧∃ o3 k7 k8,(∀ w6,I3 w6→World.cell? w6 (Addr.add (aM k1) 4) = some (vS o3 k7 k8))∧idx o3 k7 n1 3 fun a1=>∃ n2,(∀ w7,I3 w7→World.cell? w7 a1 = some (iI n2))∧∃ o4 k9 k10,(∀ w8,I3 w8→World.cell? w8 (aM k1) = some (vS o4 k9 k10))∧aG (n2 - (↑k9:Int))∧idx (some (aM k4)) (Int.toNat (↑k2:Int)) (n2 - (↑k9:Int)) 1 fun a2=>∃ b3,World.cell? w5 a2 = some (vB b3)∧br b3 (aG (n1 + 1)∧x3 b2 (n1 + 1) w5∧x4 b2 (n1 + 1) w5 < x4 b2 n1 w4) (∀ w9,drawn w5 w9→∃ (I4:World→Prop),I4 w9∧∃ o5 k11 k12 o6 k13 k14 o7 k15 k16 n3 o8 k17 k18,(∀ w10,I4 w10→V.rowAt w10 (aM k1) 0 5 = some [vS o5 k11 k12,vS o6 k13 k14,vS o7 k15 k16,iI n3,vS o8 k17 k18])∧∃ o9 k19 k20,(∀ w11,I4 w11→World.cell? w11 (Addr.add (aM k1) 4) = some (vS o9 k19 k20))∧idx o9 k19 n1 3 fun a3=>∃ o10 k21 k22,(∀ w12,I4 w12→World.cell? w12 (Addr.add a3 1) = some (vS o10 k21 k22))∧au Proofs.Tryz.prog Ev 113 [vA (Array.mk [vS o5 k11 k12,vS o6 k13 k14,vS o7 k15 k16,iI n3,vS o8 k17 k18]),vS (some (aM k4)) (Int.toNat (↑k2:Int)) (Int.toNat (↑k2:Int)),vS o10 k21 k22] w9 fun v1 w13=>∃ b4,v1 = vB b4∧br b4 (idx (some (aM k4)) (Int.toNat (↑k2:Int)) (n2 - (↑k9:Int)) 1 fun a4=>st1 w13 a4 (vB true) fun w14=>aG (n1 + 1)∧x3 true (n1 + 1) w14∧x4 true (n1 + 1) w14 < x4 b2 n1 w4) (aG (n1 + 1)∧x3 b2 (n1 + 1) w13∧x4 b2 (n1 + 1) w13 < x4 b2 n1 w4))) (x1 b2 w4∧x2 b2 w4 < x2 b1 w3)) (R (vS (some (aM k4)) (Int.toNat (↑k2:Int)) (Int.toNat (↑k2:Int))) w3)
theorem pC (a:Option Addr) (b c:Nat) (d:Option Addr) (e f:Nat) (g:Option Addr) (i j:Nat) (k:Int) (l:Option Addr) (m n:Nat) (w:World) (R:Value→WP) (h:qT a b c d e f g i j k l m n w R):aC Tryz.prog 72 [(.agg #[(.slice a b c),(.slice d e f),(.slice g i j),(.int .i64 k),(.slice l m n)])] w R:=rv Tryz.func72 pB (by kernel_rfl) h

abbrev tp:FuncId:=77
def pD:bj:={ rngs:=[],loops:=[(3,[(8,(.one (.int .i64)))])],joins:=[],blocks:=[] }
def qU (a:Option Addr) (b c:Nat) (d e f g:Int) (w:World) (R:Value→WP):Prop :=  new w (oC [vS a b c,iI d,iI e] 63) fun k1 w1=>∃ o1 k2 k3,World.cell? w1 (aM k1) = some (vS o1 k2 k3)∧idx o1 k2 f 2 fun a1=>∃ o2 k4 k5,World.cell? w1 (Addr.add a1 1) = some (vS o2 k4 k5)∧∃ (x1:lP [(8,aI)]),∃ (x2:lN [(8,aI)]),x1 0 w1∧∀ (I1:Nat→Value) (n1:Int) (w2:World),x1 n1 w2→br (decide (n1 < (↑k4:Int))) (idx o2 k4 n1 2 fun a2=>∃ n2,World.cell? w2 a2 = some (iI n2)∧br (n2 == g) (idx o2 k4 n1 2 fun a3=>∃ n3,World.cell? w2 (Addr.add a3 1) = some (iI n3)∧R (iI n3) w2) (aG (n1 + 1)∧x1 (n1 + 1) w2∧x2 (n1 + 1) w2 < x2 n1 w2)) (R (iI (-1)) w2)
theorem pE (a:Option Addr) (b c:Nat) (d e f g:Int) (w:World) (R:Value→WP) (h:qU a b c d e f g w R):aC Tryz.prog 77 [(.agg #[(.slice a b c),(.int .i64 d),(.int .i64 e)]),(.int .i64 f),(.int .i64 g)] w R:=rv Tryz.func77 pD (by kernel_rfl) h

abbrev pF:FuncId:=109
def mN:bj:={ rngs:=[],loops:=[(4,[(5,(.one .slice)),(7,(.one (.int .i64)))]),(10,[(5,(.one .slice)),(9,(.one (.int .i64)))])],joins:=[],blocks:=[] }
def nQ (a:Option Addr) (b c:Nat) (d:Option Addr) (e f:Nat) (g:Option Addr) (i j:Nat) (k:Int) (l:Option Addr) (m n:Nat) (o:Option Addr) (p q:Nat) (w:World) (R:Value→WP):Prop :=  new w (oC [vS a b c,vS d e f,vS g i j,iI k,vS l m n] 27) fun k1 w1=>au Proofs.Tryz.prog Ev 146 [vS o p q] w1 fun v1 w2=>∃ o1 k2 k3,v1 = vS o1 k2 k3∧∃ o2 k4 k5 o3 k6 k7 o4 k8 k9 n1 o5 k10 k11,V.rowAt w2 (aM k1) 0 5 = some [vS o2 k4 k5,vS o3 k6 k7,vS o4 k8 k9,iI n1,vS o5 k10 k11]∧au Proofs.Tryz.prog Ev 25 [vA (Array.mk [vS o2 k4 k5,vS o3 k6 k7,vS o4 k8 k9,iI n1,vS o5 k10 k11])] w2 fun v2 w3=>∃ n2,v2 = iI n2∧y7 n2 n2 1∧new w3 (Obj.cells (Array.mk (gG (Int.toNat n2) [vB false])) 4) fun k12 w4=>∃ (x1:lP [(5,js),(7,aI)]),∃ (x2:lN [(5,js),(7,aI)]),x1 o1 k2 k3 0 w4∧∀ (I1:Nat→Value) (o6:Option Addr) (k13 k14:Nat) (n3:Int) (w5:World),x1 o6 k13 k14 n3 w5→br (decide (n3 < (↑k13:Int))) (∀ w6,drawn w5 w6→∃ (I2:World→Prop),I2 w6∧∃ o7 k15 k16 o8 k17 k18 o9 k19 k20 n4 o10 k21 k22,(∀ w7,I2 w7→V.rowAt w7 (aM k1) 0 5 = some [vS o7 k15 k16,vS o8 k17 k18,vS o9 k19 k20,iI n4,vS o10 k21 k22])∧idx o6 k13 n3 2 fun a1=>∃ n5 n6,(∀ w8,I2 w8→V.rowAt w8 a1 0 2 = some [iI n5,iI n6])∧au Proofs.Tryz.prog Ev 147 [vA (Array.mk [vS o7 k15 k16,vS o8 k17 k18,vS o9 k19 k20,iI n4,vS o10 k21 k22]),vA (Array.mk [iI n5,iI n6])] w6 fun v3 w9=>∃ n7,v3 = iI n7∧I2 w9∧∃ o11 k23 k24,World.cell? w9 (aM k1) = some (vS o11 k23 k24)∧br (decide (n7 < (↑k23:Int))) (aG (n3 + 1)∧x1 o6 k13 k14 (n3 + 1) w9∧x2 o6 k13 k14 (n3 + 1) w9 < x2 o6 k13 k14 n3 w5) (idx (some (aM k12)) (Int.toNat n2) n7 1 fun a2=>∃ b1,World.cell? w9 a2 = some (vB b1)∧br b1 (aG (n3 + 1)∧x1 o6 k13 k14 (n3 + 1) w9∧x2 o6 k13 k14 (n3 + 1) w9 < x2 o6 k13 k14 n3 w5) (idx (some (aM k12)) (Int.toNat n2) n7 1 fun a3=>st1 w9 a3 (vB true) fun w10=>∃ (x3:lP [(5,js),(9,aI)]),∃ (x4:lN [(5,js),(9,aI)]),x3 o6 k13 k14 0 w10∧∀ (I3:Nat→Value) (o12:Option Addr) (k25 k26:Nat) (n8:Int) (w11:World),x3 o12 k25 k26 n8 w11→∃ o13 k27 k28,World.cell? w11 (Addr.add (aM k1) 4) = some (vS o13 k27 k28)∧br (decide (n8 < (↑k27:Int))) (new w11 (oC [iI 0,iI 0] 76) fun k29 w12=>iA w12 (aM k29) [iI n8,iI 0] fun w13=>∃ o14 k30 k31,World.cell? w13 (Addr.add (aM k1) 4) = some (vS o14 k30 k31)∧idx o14 k30 n8 3 fun a4=>∃ n9,World.cell? w13 a4 = some (iI n9)∧br (n9 != n7) (aG (n8 + 1)∧x3 o12 k25 k26 (n8 + 1) w13∧x4 o12 k25 k26 (n8 + 1) w13 < x4 o12 k25 k26 n8 w11) (∃ n10 n11,V.rowAt w13 (aM k29) 0 2 = some [iI n10,iI n11]∧au Proofs.Tryz.prog Ev 148 [vS o12 k25 k26,vA (Array.mk [iI n10,iI n11])] w13 fun v4 w14=>∃ b2,v4 = vB b2∧br (!b2) (∃ n12 n13,V.rowAt w14 (aM k29) 0 2 = some [iI n12,iI n13]∧new w14 (oC [iI n12,iI n13] 76) fun k32 w15=>az Proofs.Tryz.prog (f_ 66 (Array.mk [vS o12 k25 k26,vS (some (aM k32)) 1 1])) w15 fun v5 w16=>∃ o15 k33 k34,v5 = vS o15 k33 k34∧aG (n8 + 1)∧x3 o15 k33 k34 (n8 + 1) w16∧x4 o15 k33 k34 (n8 + 1) w16 < x4 o12 k25 k26 n8 w11) (aG (n8 + 1)∧x3 o12 k25 k26 (n8 + 1) w14∧x4 o12 k25 k26 (n8 + 1) w14 < x4 o12 k25 k26 n8 w11))) (aG (n3 + 1)∧x1 o12 k25 k26 (n3 + 1) w11∧x2 o12 k25 k26 (n3 + 1) w11 < x2 o6 k13 k14 n3 w5)))) (au Proofs.Tryz.prog Ev 146 [vS o6 k13 k14] w5 fun v6 w17=>∃ o16 k35 k36,v6 = vS o16 k35 k36∧R (vS o16 k35 k36) w17)
theorem mP (a:Option Addr) (b c:Nat) (d:Option Addr) (e f:Nat) (g:Option Addr) (i j:Nat) (k:Int) (l:Option Addr) (m n:Nat) (o:Option Addr) (p q:Nat) (w:World) (R:Value→WP) (h:nQ a b c d e f g i j k l m n o p q w R):aC Tryz.prog 109 [(.agg #[(.slice a b c),(.slice d e f),(.slice g i j),(.int .i64 k),(.slice l m n)]),(.slice o p q)] w R:=rv Tryz.func109 mN (by kernel_rfl) h

abbrev tq:FuncId:=110
def pG:bj:={ rngs:=[],loops:=[(3,[(7,(.one .slice)),(8,(.one (.int .i64)))])],joins:=[],blocks:=[] }
def qV (a:Option Addr) (b c:Nat) (d:Option Addr) (e f:Nat) (g:Option Addr) (i j:Nat) (k:Int) (l:Option Addr) (m n:Nat) (o:Int) (p:Option Addr) (q s:Nat) (w:World) (R:Value→WP):Prop :=  new w (oC [vS a b c,vS d e f,vS g i j,iI k,vS l m n] 27) fun k1 w1=>∃ (x1:lP [(7,js),(8,aI)]),∃ (x2:lN [(7,js),(8,aI)]),x1 none 0 0 0 w1∧∀ (I1:Nat→Value) (o1:Option Addr) (k2 k3:Nat) (n1:Int) (w2:World),x1 o1 k2 k3 n1 w2→br (decide (n1 < (↑q:Int))) (∀ w3,drawn w2 w3→∃ (I2:World→Prop),I2 w3∧∃ o2 k4 k5 o3 k6 k7 o4 k8 k9 n2 o5 k10 k11,(∀ w4,I2 w4→V.rowAt w4 (aM k1) 0 5 = some [vS o2 k4 k5,vS o3 k6 k7,vS o4 k8 k9,iI n2,vS o5 k10 k11])∧idx p q n1 2 fun a1=>∃ n3 n4,(∀ w5,I2 w5→V.rowAt w5 a1 0 2 = some [iI n3,iI n4])∧au Proofs.Tryz.prog Ev 147 [vA (Array.mk [vS o2 k4 k5,vS o3 k6 k7,vS o4 k8 k9,iI n2,vS o5 k10 k11]),vA (Array.mk [iI n3,iI n4])] w3 fun v1 w6=>∃ n5,v1 = iI n5∧I2 w6∧br (n5 == o) (∀ w7,drawn w6 w7→∃ (I3:World→Prop),I3 w7∧idx p q n1 2 fun a2=>∃ n6,(∀ w8,I3 w8→World.cell? w8 a2 = some (iI n6))∧idx p q n1 2 fun a3=>∃ n7,(∀ w9,I3 w9→World.cell? w9 (Addr.add a3 1) = some (iI n7))∧aG (n7 + 1)∧new w7 (oC [iI n6,iI (n7 + 1)] 76) fun k12 w10=>I3 w10∧az Proofs.Tryz.prog (f_ 66 (Array.mk [vS o1 k2 k3,vS (some (aM k12)) 1 1])) w10 fun v2 w11=>∃ o6 k13 k14,v2 = vS o6 k13 k14∧I3 w11∧aG (n1 + 1)∧x1 o6 k13 k14 (n1 + 1) w11∧x2 o6 k13 k14 (n1 + 1) w11 < x2 o1 k2 k3 n1 w2) (aG (n1 + 1)∧x1 o1 k2 k3 (n1 + 1) w6∧x2 o1 k2 k3 (n1 + 1) w6 < x2 o1 k2 k3 n1 w2)) (au Proofs.Tryz.prog Ev 146 [vS o1 k2 k3] w2 fun v3 w12=>∃ o7 k15 k16,v3 = vS o7 k15 k16∧R (vS o7 k15 k16) w12)
theorem pH (a:Option Addr) (b c:Nat) (d:Option Addr) (e f:Nat) (g:Option Addr) (i j:Nat) (k:Int) (l:Option Addr) (m n:Nat) (o:Int) (p:Option Addr) (q s:Nat) (w:World) (R:Value→WP) (h:qV a b c d e f g i j k l m n o p q s w R):aC Tryz.prog 110 [(.agg #[(.slice a b c),(.slice d e f),(.slice g i j),(.int .i64 k),(.slice l m n)]),(.int .i64 o),(.slice p q s)] w R:=rv Tryz.func110 pG (by kernel_rfl) h

abbrev qW:FuncId:=111
def nR:bj:={ rngs:=[],loops:=[(2,[(5,(.one (.int .i64)))])],joins:=[],blocks:=[] }
def pI (a:Option Addr) (b c:Nat) (d:Option Addr) (e f:Nat) (w:World) (R:Value→WP):Prop :=  ∃ (x1:lP [(5,aI)]),∃ (x2:lN [(5,aI)]),x1 0 w∧∀ (I1:Nat→Value) (n1:Int) (w1:World),x1 n1 w1→br (decide (n1 < (↑b:Int))) (idx a b n1 2 fun a1=>∃ o1 k1 k2,World.cell? w1 a1 = some (vS o1 k1 k2)∧au Proofs.Tryz.prog Ev 149 [vS o1 k1 k2,vS d e f] w1 fun v1 w2=>∃ b1,v1 = vB b1∧br b1 (R (iI n1) w2) (aG (n1 + 1)∧x1 (n1 + 1) w2∧x2 (n1 + 1) w2 < x2 n1 w1)) (R (iI (-1)) w1)
theorem nS (a:Option Addr) (b c:Nat) (d:Option Addr) (e f:Nat) (w:World) (R:Value→WP) (h:pI a b c d e f w R):aC Tryz.prog 111 [(.slice a b c),(.slice d e f)] w R:=rv Tryz.func111 nR (by kernel_rfl) h

abbrev mQ:FuncId:=113
def kA:bj:={ rngs:=[],loops:=[(2,[(7,(.one (.int .i64)))])],joins:=[],blocks:=[] }
def lF (a:Option Addr) (b c:Nat) (d:Option Addr) (e f:Nat) (g:Option Addr) (i j:Nat) (k:Int) (l:Option Addr) (m n:Nat) (o:Option Addr) (p q:Nat) (s:Option Addr) (t u:Nat) (w:World) (R:Value→WP):Prop :=  new w (oC [vS a b c,vS d e f,vS g i j,iI k,vS l m n] 27) fun k1 w1=>∃ (x1:lP [(7,aI)]),∃ (x2:lN [(7,aI)]),x1 0 w1∧∀ (I1:Nat→Value) (n1:Int) (w2:World),x1 n1 w2→br (decide (n1 < (↑t:Int))) (∀ w3,drawn w2 w3→∃ (I2:World→Prop),I2 w3∧idx s t n1 1 fun a1=>∃ n2,(∀ w4,I2 w4→World.cell? w4 a1 = some (iI n2))∧∃ o1 k2 k3,(∀ w5,I2 w5→World.cell? w5 (aM k1) = some (vS o1 k2 k3))∧br (decide (n2 < (↑k2:Int))) (R (vB false) w3) (idx s t n1 1 fun a2=>∃ n3,(∀ w6,I2 w6→World.cell? w6 a2 = some (iI n3))∧∃ o2 k4 k5,(∀ w7,I2 w7→World.cell? w7 (aM k1) = some (vS o2 k4 k5))∧aG (n3 - (↑k4:Int))∧idx o p (n3 - (↑k4:Int)) 1 fun a3=>∃ b1,(∀ w8,I2 w8→World.cell? w8 a3 = some (vB b1))∧br (!b1) (R (vB false) w3) (aG (n1 + 1)∧x1 (n1 + 1) w3∧x2 (n1 + 1) w3 < x2 n1 w2))) (R (vB true) w2)
theorem kB (a:Option Addr) (b c:Nat) (d:Option Addr) (e f:Nat) (g:Option Addr) (i j:Nat) (k:Int) (l:Option Addr) (m n:Nat) (o:Option Addr) (p q:Nat) (s:Option Addr) (t u:Nat) (w:World) (R:Value→WP) (h:lF a b c d e f g i j k l m n o p q s t u w R):aC Tryz.prog 113 [(.agg #[(.slice a b c),(.slice d e f),(.slice g i j),(.int .i64 k),(.slice l m n)]),(.slice o p q),(.slice s t u)] w R:=rv Tryz.func113 kA (by kernel_rfl) h

abbrev tt:FuncId:=146
def pJ:bj:={ rngs:=[],loops:=[(3,[(3,(.one .slice)),(4,(.one (.int .i64)))]),(6,[(5,(.one (.int .i64)))])],joins:=[(8,[(5,(.one (.int .i64)))])],blocks:=[] }
def qX (a:Option Addr) (b c:Nat) (w:World) (R:Value→WP):Prop :=  ∃ (x1:lP [(3,js),(4,aI)]),∃ (x2:lN [(3,js),(4,aI)]),x1 none 0 0 0 w∧∀ (I1:Nat→Value) (o1:Option Addr) (k1 k2:Nat) (n1:Int) (w1:World),x1 o1 k1 k2 n1 w1→br (decide (n1 < (↑b:Int))) (∃ (x3:lP [(5,aI)]),(∃ (x4:lP [(5,aI)]),∃ (x5:lN [(5,aI)]),x4 0 w1∧∀ (I2:Nat→Value) (n2:Int) (w2:World),x4 n2 w2→∀ w3,drawn w2 w3→∃ (I3:World→Prop),I3 w3∧br (decide (n2 < (↑k1:Int))) (idx o1 k1 n2 2 fun a1=>∃ n3,(∀ w4,I3 w4→World.cell? w4 a1 = some (iI n3))∧idx a b n1 2 fun a2=>∃ n4,(∀ w5,I3 w5→World.cell? w5 a2 = some (iI n4))∧br (decide (n3 < n4)) (aG (n2 + 1)∧x4 (n2 + 1) w3∧x5 (n2 + 1) w3 < x5 n2 w2) (idx o1 k1 n2 2 fun a3=>∃ n5,(∀ w6,I3 w6→World.cell? w6 a3 = some (iI n5))∧idx a b n1 2 fun a4=>∃ n6,(∀ w7,I3 w7→World.cell? w7 a4 = some (iI n6))∧br (n5 == n6) (idx o1 k1 n2 2 fun a5=>∃ n7,(∀ w8,I3 w8→World.cell? w8 (Addr.add a5 1) = some (iI n7))∧idx a b n1 2 fun a6=>∃ n8,(∀ w9,I3 w9→World.cell? w9 (Addr.add a6 1) = some (iI n8))∧br (decide (n7 < n8)) (aG (n2 + 1)∧x4 (n2 + 1) w3∧x5 (n2 + 1) w3 < x5 n2 w2) (x3 n2 w3)) (x3 n2 w3))) (x3 n2 w3))∧∀ (I4:Nat→Value) (n9:Int) (w10:World),x3 n9 w10→∀ w11,drawn w10 w11→∃ (I5:World→Prop),I5 w11∧br (decide (n9 < (↑k1:Int))) (idx o1 k1 n9 2 fun a7=>∃ n10 n11,(∀ w12,I5 w12→V.rowAt w12 a7 0 2 = some [iI n10,iI n11])∧idx a b n1 2 fun a8=>∃ n12 n13,(∀ w13,I5 w13→V.rowAt w13 a8 0 2 = some [iI n12,iI n13])∧∃ v1,(∀ w14,I5 w14→Sem.run Proofs.Tryz.prog (iX BinOp.eql 76 (Operand.tmp 66) (Operand.tmp 70) (vG [iI n10,iI n11]) (vG [iI n12,iI n13])) w14 = Result.ok v1 w14)∧∃ b1,v1 = vB b1∧br b1 (aG (n1 + 1)∧x1 o1 k1 k2 (n1 + 1) w11∧x2 o1 k1 k2 (n1 + 1) w11 < x2 o1 k1 k2 n1 w1) (p8 o1 k1 k2 none (some n9) none 2 fun (o2:Option Addr) (k3 k4:Nat)=>az Proofs.Tryz.prog (f_ 66 (Array.mk [vS none 0 0,vS o2 k3 k4])) w11 fun v2 w15=>∃ o3 k5 k6,v2 = vS o3 k5 k6∧idx a b n1 2 fun a9=>∃ n14 n15,V.rowAt w15 a9 0 2 = some [iI n14,iI n15]∧new w15 (oC [iI n14,iI n15] 76) fun k7 w16=>az Proofs.Tryz.prog (f_ 66 (Array.mk [vS o3 k5 k6,vS (some (aM k7)) 1 1])) w16 fun v3 w17=>∃ o4 k8 k9,v3 = vS o4 k8 k9∧p8 o1 k1 k2 (some n9) none none 2 fun (o5:Option Addr) (k10 k11:Nat)=>az Proofs.Tryz.prog (f_ 66 (Array.mk [vS o4 k8 k9,vS o5 k10 k11])) w17 fun v4 w18=>∃ o6 k12 k13,v4 = vS o6 k12 k13∧aG (n1 + 1)∧x1 o6 k12 k13 (n1 + 1) w18∧x2 o6 k12 k13 (n1 + 1) w18 < x2 o1 k1 k2 n1 w1)) (p8 o1 k1 k2 none (some n9) none 2 fun (o7:Option Addr) (k14 k15:Nat)=>az Proofs.Tryz.prog (f_ 66 (Array.mk [vS none 0 0,vS o7 k14 k15])) w11 fun v5 w19=>∃ o8 k16 k17,v5 = vS o8 k16 k17∧idx a b n1 2 fun a10=>∃ n16 n17,V.rowAt w19 a10 0 2 = some [iI n16,iI n17]∧new w19 (oC [iI n16,iI n17] 76) fun k18 w20=>az Proofs.Tryz.prog (f_ 66 (Array.mk [vS o8 k16 k17,vS (some (aM k18)) 1 1])) w20 fun v6 w21=>∃ o9 k19 k20,v6 = vS o9 k19 k20∧p8 o1 k1 k2 (some n9) none none 2 fun (o10:Option Addr) (k21 k22:Nat)=>az Proofs.Tryz.prog (f_ 66 (Array.mk [vS o9 k19 k20,vS o10 k21 k22])) w21 fun v7 w22=>∃ o11 k23 k24,v7 = vS o11 k23 k24∧aG (n1 + 1)∧x1 o11 k23 k24 (n1 + 1) w22∧x2 o11 k23 k24 (n1 + 1) w22 < x2 o1 k1 k2 n1 w1)) (R (vS o1 k1 k2) w1)
theorem pK (a:Option Addr) (b c:Nat) (w:World) (R:Value→WP) (h:qX a b c w R):aC Tryz.prog 146 [(.slice a b c)] w R:=rv Tryz.func146 pJ (by kernel_rfl) h

abbrev qY:FuncId:=147
def nT:bj:={ rngs:=[],loops:=[],joins:=[],blocks:=[] }
def pL (a:Option Addr) (b c:Nat) (d:Option Addr) (e f:Nat) (g:Option Addr) (i j:Nat) (k:Int) (l:Option Addr) (m n:Nat) (o p:Int) (w:World) (R:Value→WP):Prop :=  new w (oC [vS a b c,vS d e f,vS g i j,iI k,vS l m n] 27) fun k1 w1=>new w1 (oC [iI o,iI p] 76) fun k2 w2=>∃ o1 k3 k4,World.cell? w2 (Addr.add (aM k1) 4) = some (vS o1 k3 k4)∧∃ n1,World.cell? w2 (aM k2) = some (iI n1)∧idx o1 k3 n1 3 fun a1=>∃ o2 k5 k6,World.cell? w2 (Addr.add a1 1) = some (vS o2 k5 k6)∧∃ n2,World.cell? w2 (Addr.add (aM k2) 1) = some (iI n2)∧br (n2 == (↑k5:Int)) (R (iI (-1)) w2) (∃ n3,World.cell? w2 (Addr.add (aM k2) 1) = some (iI n3)∧idx o2 k5 n3 1 fun a2=>∃ n4,World.cell? w2 a2 = some (iI n4)∧R (iI n4) w2)
theorem nU (a:Option Addr) (b c:Nat) (d:Option Addr) (e f:Nat) (g:Option Addr) (i j:Nat) (k:Int) (l:Option Addr) (m n:Nat) (o p:Int) (w:World) (R:Value→WP) (h:pL a b c d e f g i j k l m n o p w R):aC Tryz.prog 147 [(.agg #[(.slice a b c),(.slice d e f),(.slice g i j),(.int .i64 k),(.slice l m n)]),(.agg #[(.int .i64 o),(.int .i64 p)])] w R:=rv Tryz.func147 nT (by kernel_rfl) h

abbrev uG:FuncId:=148
def qZ:bj:={ rngs:=[],loops:=[(2,[(5,(.one (.int .i64)))])],joins:=[],blocks:=[] }
def tu (a:Option Addr) (b c:Nat) (d e:Int) (w:World) (R:Value→WP):Prop :=  new w (oC [iI d,iI e] 76) fun k1 w1=>∃ (x1:lP [(5,aI)]),∃ (x2:lN [(5,aI)]),x1 0 w1∧∀ (I1:Nat→Value) (n1:Int) (w2:World),x1 n1 w2→br (decide (n1 < (↑b:Int))) (∀ w3,drawn w2 w3→∃ (I2:World→Prop),I2 w3∧idx a b n1 2 fun a1=>∃ n2 n3,(∀ w4,I2 w4→V.rowAt w4 a1 0 2 = some [iI n2,iI n3])∧∃ n4 n5,(∀ w5,I2 w5→V.rowAt w5 (aM k1) 0 2 = some [iI n4,iI n5])∧∃ v1,(∀ w6,I2 w6→Sem.run Proofs.Tryz.prog (iX BinOp.eql 76 (Operand.tmp 15) (Operand.tmp 16) (vG [iI n2,iI n3]) (vG [iI n4,iI n5])) w6 = Result.ok v1 w6)∧∃ b1,v1 = vB b1∧br b1 (R (vB true) w3) (aG (n1 + 1)∧x1 (n1 + 1) w3∧x2 (n1 + 1) w3 < x2 n1 w2)) (R (vB false) w2)
theorem q8 (a:Option Addr) (b c:Nat) (d e:Int) (w:World) (R:Value→WP) (h:tu a b c d e w R):aC Tryz.prog 148 [(.slice a b c),(.agg #[(.int .i64 d),(.int .i64 e)])] w R:=rv Tryz.func148 qZ (by kernel_rfl) h

abbrev lG:FuncId:=149
def jJ:bj:={ rngs:=[],loops:=[(4,[(5,(.one (.int .i64)))])],joins:=[],blocks:=[] }
def kC (a:Option Addr) (b c:Nat) (d:Option Addr) (e f:Nat) (w:World) (R:Value→WP):Prop :=  br ((↑b:Int) != (↑e:Int)) (R (vB false) w) (∃ (x1:lP [(5,aI)]),∃ (x2:lN [(5,aI)]),x1 0 w∧∀ (I1:Nat→Value) (n1:Int) (w1:World),x1 n1 w1→br (decide (n1 < (↑b:Int))) (∀ w2,drawn w1 w2→∃ (I2:World→Prop),I2 w2∧idx a b n1 2 fun a1=>∃ n2 n3,(∀ w3,I2 w3→V.rowAt w3 a1 0 2 = some [iI n2,iI n3])∧idx d e n1 2 fun a2=>∃ n4 n5,(∀ w4,I2 w4→V.rowAt w4 a2 0 2 = some [iI n4,iI n5])∧∃ v1,(∀ w5,I2 w5→Sem.run Proofs.Tryz.prog (iX BinOp.neq 76 (Operand.tmp 20) (Operand.tmp 24) (vG [iI n2,iI n3]) (vG [iI n4,iI n5])) w5 = Result.ok v1 w5)∧∃ b1,v1 = vB b1∧br b1 (R (vB false) w2) (aG (n1 + 1)∧x1 (n1 + 1) w2∧x2 (n1 + 1) w2 < x2 n1 w1)) (R (vB true) w1))
theorem jK (a:Option Addr) (b c:Nat) (d:Option Addr) (e f:Nat) (w:World) (R:Value→WP) (h:kC a b c d e f w R):aC Tryz.prog 149 [(.slice a b c),(.slice d e f)] w R:=rv Tryz.func149 jJ (by kernel_rfl) h

end Go.Proofs.YtngdohpikfcifaaGreatDoor
namespace Go.V
structure Se where
 aF:List aj
 edges:List aL
instance:nI Se:={ n:=2,rd:=fun h q vs=>∃ a l c b n d,vs = [.slice a l c,.slice b n d]∧l≤c∧n≤d∧aW h q.aF a l∧aW h q.edges b n,mono:=fun s ⟨a,l,c,b,n,d,h1,h2,h3,h4,h5⟩=>⟨a,l,c,b,n,d,h1,h2,h3,h4.mono s,h5.mono s⟩,len:=fun ⟨_,_,_,_,_,_,h,_⟩=>by rw [h]; rfl }
theorem PX {x:aj} {out:List aj} {n:Nat} (hs:gC out) (h1:∀ (j:Nat) y,j < n→out[j]? = some y→y.lt x) (h2:∀ y,out[n]? = some y→x.lt y):qD x out = out.take n ++ x :: out.drop n:=by
 refine (wi hs).one ?_ fun y=>?_
 ·have hs2:gC (out.take n ++ out.drop n):=by rwa [S5]
  unfold gC at hs2 ⊢
  rw [List.pairwise_append] at hs2 ⊢
  obtain ⟨p1,p2,p3⟩:=hs2
  have hd:∀ y∈out.drop n,x.lt y:=fun y hy=>by
   cases hc:out[n]? with
   | none=>rw [List.drop_eq_nil_of_le (List.getElem?_eq_none_iff.1 hc)] at hy; simp at hy
   | some z =>
    have hz:=h2 z hc
    obtain ⟨hlt,rfl⟩:=Sk.1 hc
    rw [Tz hlt] at hy p2
    rcases SA.1 hy with rfl | hy
    ·exact hz
    ·exact aj.lt_trans hz ((Tu.1 p2).1 y hy)
  have ht:∀ y∈out.take n,y.lt x:=fun y hy=>by
   obtain ⟨j,hj⟩:=SP hy
   have hjn:j < n:=by have:=(Sk.1 hj).1; rw [SN] at this; omega
   rw [TE,Sz hjn] at hj
   exact h1 j y hjn hj
  refine ⟨p1,Tu.2 ⟨hd,p2⟩,fun y hy z hz=>?_⟩
  rcases SA.1 hz with rfl | hz
  ·exact ht y hy
  ·exact p3 y hy z hz
 ·rw [qE,Sp,SA]
  have:y∈out↔y∈out.take n∨y∈out.drop n:=by rw [← Sp,S5]
  rw [this]
  constructor
  ·rintro (h | h | h)
   ·exact .inr (.inl h)
   ·exact .inl h
   ·exact .inr (.inr h)
  ·rintro (h | h | h)
   ·exact .inr (.inl h)
   ·exact .inl h
   ·exact .inr (.inr h)
theorem N6 {x:aj} {out:List aj} (hs:gC out) (h:x∈out):qD x out = out:=(wi hs).one hs fun y=>by
 rw [qE]; exact ⟨fun e=>e.elim (fun e=>e ▸ h) id,.inr⟩
theorem LX (l:List aj) (x:aj):lay (l ++ [x]) = qD x (lay l):=by unfold lay; rw [List.foldl_append]; rfl
theorem N7 (a:Option Addr) (m sz:Nat):fw a 0 m sz = a:=by
 unfold fw; split
 ·rfl
 ·rw [aH,Nat.zero_mul]
  cases a <;> simp [Addr.add]
end Go.V
namespace Go.Proofs.YtngdohpikfcifaaGreatDoor
open Go.V
variable {w:World} {L:List aw} {g:af} {x:GA} {a a2:Option Addr} {l c l2 c2:Nat} {I J:List aj}
theorem Fs (hx:aW (hp w) I a l) (hy:aW (hp w) J a2 l2) (hb:l≤4611686018427387904):aC Tryz.prog lG [.slice a l c,.slice a2 l2 c2] w fun v w'=>v = .bool (decide (I = J))∧hp w' = hp w:=by
 have h1:=hx.1
 have h2:=hy.1
 refine jK _ _ _ _ _ _ w _ (ae (fun h=>?_) fun h=>?_)
 ·have h:l≠l2:=fun e=>by subst e; simp at h
  have hne:I≠J:=fun e=>h (by rw [← h1,← h2,e])
  exact ⟨by rw [TD hne],rfl⟩
 have h:l = l2:=by have:=bne_eq_false_iff_eq.1 h; omega
 subst h
 refine ⟨fun z w'=>∃ j:Nat,z = j∧j≤l∧I.take j = J.take j∧hp w' = hp w,fun z _=>l - z.toNat,⟨0,rfl,Sv _,rfl,rfl⟩,?_⟩
 rintro _ _ w1 ⟨j,rfl,hj,he,e1⟩
 refine ae (fun h3=>?_) fun h3=>?_
 rotate_left
 ·have h3:j = l:=by have:=Sj h3; omega
  rw [h3,SD (by omega),SD (by omega)] at he
  exact ⟨by rw [S2 he],e1⟩
 have h3:j < l:=by have:=Si h3; omega
 intro w2 hd
 have e2:hp w2 = hp w:=(dA hd).trans e1
 obtain ⟨y,ad,hy1,rfl,cy⟩:=b_ hx h3
 obtain ⟨z,ad2,hz1,rfl,cz⟩:=b_ hy h3
 refine ⟨fun u=>hp u = hp w,e2,ay rfl h3 ⟨_,_,fun u hu=>cy u (uu hu),ay rfl h3 ⟨_,_,fun u hu=>cz u (uu hu),_,fun u _=>LK u _ _ y z,_,rfl,ae (fun h4=>?_) fun h4=>?_⟩⟩⟩
 ·have h4:y≠z:=by simpa using h4
  have hne:I≠J:=fun e=>by subst e; rw [hy1] at hz1; cases hz1; exact h4 rfl
  exact ⟨by rw [TD hne],e2⟩
 ·have h4:y = z:=by simpa using h4
  subst h4
  exact ⟨⟨by omega,by omega⟩,⟨j + 1,by simp,h3,by rw [Su,Su,hy1,hz1,he],e2⟩,bA h3⟩
theorem Iq {y:aj} (hg:gR (hp w) g x) (hf:mL g y):aC Tryz.prog qY [.agg ⟨x.cells⟩,.agg (cg y).toArray] w fun v w'=>v = .int .i64 (dO g y)∧Gr w w':=by
 refine nU _ _ _ _ _ _ _ _ _ _ _ _ _ _ _ w _ (de hg fun k1 w1 gw hg B=>ah (St.all w1) fun k2 w2 h=>?_)
 have r2:ax (hp w2) (aM k2) [.int .i64 y.prod,.int .i64 y.dot]:=ai 0 h.l
 have g2:Gr w1 w2:=h.aX
 obtain ⟨h2,h3,p,hpr,h4⟩:=hf
 obtain ⟨n,hn⟩ : ∃ n:Nat,y.prod = n:=⟨y.prod.toNat,by omega⟩
 obtain ⟨d,hdn⟩ : ∃ d:Nat,y.dot = d:=⟨y.dot.toNat,by omega⟩
 have hpn:g.prods[n]? = some p:=by rw [hn] at hpr; exact hpr
 have hnl:n < x.pl:=by have:=(Sk.1 hpn).1; have:=hg.p.1; omega
 obtain ⟨p',pad,vs,hp1,hpa,hp2,ra,rl,rc,rfl,hrc,hp3⟩:=hg.p.get hnl
 rw [hpn] at hp1; cases hp1
 have hrl:=hp3.1
 refine ⟨_,_,_,B.c4 g2,_,r2.cell0 (sub.refl _),?_⟩
 rw [hn]
 refine ay hpa hnl ⟨_,_,_,hp2.cell g2 (j:=1) rfl,_,r2.cell (sub.refl _) (j:=1) rfl,?_⟩
 rw [qF hpr,hdn,SJ]
 refine ae (fun h5=>?_) fun h5=>?_
 ·have h5:d = rl:=by have:=eq_of_beq h5; omega
  rw [Sq,SH (by omega)]
  exact ⟨rfl,gw.trans g2⟩
 ·have h5:d≠rl:=fun e=>by subst e; simp at h5
  obtain ⟨v,ad,hv,hva,cv⟩:=hp3.bL (i:=d) (by omega)
  refine ⟨_,(r2.cell (sub.refl _) (j:=1) rfl),?_⟩
  show idx ra rl y.dot 1 _
  rw [hdn]
  refine aq hva (by omega) ⟨v,cv _ g2,?_⟩
  rw [Sq,hv]
  exact ⟨rfl,gw.trans g2⟩
theorem Q8 {y:aj} (hx:aW (hp w) I a l) (hb:l≤4611686018427387904):aC Tryz.prog uG [.slice a l c,.agg (cg y).toArray] w fun v w'=>v = .bool (decide (y∈I))∧Gr w w':=by
 have hl:=hx.1
 refine q8 _ _ _ _ _ w _ (ah (St.all w) fun k1 w1 h=>?_)
 have g1:Gr w w1:=h.aX
 have r1:ax (hp w1) (aM k1) [.int .i64 y.prod,.int .i64 y.dot]:=ai 0 h.l
 refine ⟨fun z w'=>∃ j:Nat,z = j∧j≤l∧y∉I.take j∧Gr w1 w',fun z _=>l - z.toNat,⟨0,rfl,Sv _,by simp,Gr.refl _⟩,?_⟩
 rintro _ _ w2 ⟨j,rfl,hj,hn,g2⟩
 refine ae (fun h3=>?_) fun h3=>?_
 rotate_left
 ·have h3:j = l:=by have:=Sj h3; omega
  rw [h3,SD (by omega)] at hn
  exact ⟨by rw [TD hn],g1.trans g2⟩
 have h3:j < l:=by have:=Si h3; omega
 intro w3 hd
 have g3:Gr w1 w3:=g2.trans (Gr.drawn hd)
 obtain ⟨z,ad,hz1,rfl,cz⟩:=b_ hx h3
 refine ⟨fun u=>Gr w3 u,Gr.refl _,ay rfl h3 ⟨_,_,fun u s=>cz u (sub.trans g1 (sub.trans g3 s)),_,_,fun u s=>r1.at (sub.trans g3 s) rfl,_,fun u _=>DK u _ _ z y,_,rfl,ae (fun h4=>?_) fun h4=>?_⟩⟩
 ·have h4:z = y:=Si h4
  subst h4
  exact ⟨by rw [S2 (Sl hz1)],g1.trans g3⟩
 ·have h4:z≠y:=Sj h4
  exact ⟨⟨by omega,by omega⟩,⟨j + 1,by simp,h3,by rw [Su,hz1,Sp]; simp [hn,TM h4],g3⟩,bA h3⟩
end Go.Proofs.YtngdohpikfcifaaGreatDoor
namespace Go.Proofs.YtngdohpikfcifaaGreatDoor
open Go.V
variable {w:World} {L:List aw} {g:af} {x:GA} {a a2:Option Addr} {l c l2 c2:Nat} {I J:List aj}
theorem N8 (I:List aj):(lay I).length≤I.length:=gQ (ew I).nodup fun x hx=>dN.1 hx
theorem G3 (hx:aW (hp w) I a l) (hb:(l + 1) * 16≤140737488355328):aC Tryz.prog tt [.slice a l c] w fun v w'=>∃ o c',v = .slice o (lay I).length c'∧St w' (own 2 o (lay I).length c' (tv (lay I)) :: all w):=by
 have hl:=hx.1
 refine pK _ _ _ w _ ⟨fun o n c' z w'=>∃ j:Nat,z = j∧j≤l∧n = (lay (I.take j)).length∧St w' (own 2 o n c' (tv (lay (I.take j))) :: all w),fun _ _ _ z _=>l - z.toNat,⟨0,rfl,Sv _,rfl,aB 2 (St.all w)⟩,?_⟩
 rintro _ o _ c1 _ w1 ⟨j,rfl,hj,rfl,h⟩
 refine ae (fun h1=>?_) fun h1=>?_
 rotate_left
 ·have h1:j = l:=by have:=Sj h1; omega
  rw [h1,SD (by omega)] at h ⊢
  exact ⟨_,_,rfl,h⟩
 have h1:j < l:=by have:=Si h1; omega
 obtain ⟨y,ad,hy,rfl,cy⟩:=b_ hx h1
 have hT:lay (I.take (j + 1)) = qD y (lay (I.take j)):=by rw [Su,hy,Ti,LX]
 have hS:=ew (I.take j)
 have hn:(lay (I.take j)).length≤j:=by have:=N8 (I.take j); rw [SN] at this; omega
 generalize lay (I.take j) = out at h hT hS hn
 generalize hO2:lay (I.take (j + 1)) = out2 at hT
 have row:ax (hp w) (ad.add (dP j 2)) (cg y):=by
  obtain ⟨ad',vs,e,r,e2⟩:=hx.2 j y hy
  cases e; rw [show vs = cg y from e2] at r; exact r
 refine ⟨fun z w'=>∃ t:Nat,z = t∧t≤out.length∧(∀ (k:Nat) u,k < t→out[k]? = some u→u.lt y)∧(∀ u,out[t]? = some u→¬u.lt y)∧St w' (own 2 o out.length c1 (tv out) :: all w),?_,?_⟩
 ·refine ⟨fun z w'=>∃ t:Nat,z = t∧t≤out.length∧(∀ (k:Nat) u,k < t→out[k]? = some u→u.lt y)∧St w' (own 2 o out.length c1 (tv out) :: all w),fun z _=>out.length - z.toNat,⟨0,rfl,Sv _,fun k u hk=>by omega,h⟩,?_⟩
  clear h
  rintro _ _ w2 ⟨t,rfl,ht,hlt,h⟩
  intro w3 hd
  have h:=h.eq (aD hd)
  have s3:sub (hp w) (hp w3):=aZ 1 h.l
  refine ⟨fun u=>Gr w3 u,Gr.refl _,ae (fun h2=>?_) fun h2=>?_⟩
  rotate_left
  ·have h2:t = out.length:=by have:=Sj h2; omega
   exact ⟨t,rfl,ht,hlt,fun u hu=>by rw [h2] at hu; simp at hu,h⟩
  have h2:t < out.length:=by have:=Si h2; omega
  obtain ⟨u,ad2,hu,rfl,cu⟩:=b_ (b9 h) h2
  have rowu:ax (hp w3) (ad2.add (dP t 2)) (cg u):=by
   obtain ⟨ad',vs,e,r,e2⟩:=(b9 h).2 t u hu
   cases e; rw [show vs = cg u from e2] at r; exact r
  have eE:u.lt y→aG ((t:Int) + 1)∧(∃ t' : Nat,(t:Int) + 1 = t'∧t'≤out.length∧(∀ (k:Nat) u,k < t'→out[k]? = some u→u.lt y)∧St w3 (own 2 (some ad2) out.length c1 (tv out) :: all w))∧out.length - ((t:Int) + 1).toNat < out.length - (t:Int).toNat:=fun hlu =>
   ⟨⟨by omega,by omega⟩,⟨t + 1,by simp,h2,fun k v hk hv=>by
    by_cases e:k = t
    ·subst e; rw [hu] at hv; cases hv; exact hlu
    ·exact hlt k v (by omega) hv,h⟩,bA h2⟩
  have stp:¬u.lt y→∃ t' : Nat,(t:Int) = t'∧t'≤out.length∧(∀ (k:Nat) u,k < t'→out[k]? = some u→u.lt y)∧(∀ u,out[t']? = some u→¬u.lt y)∧St w3 (own 2 (some ad2) out.length c1 (tv out) :: all w):=fun hlu =>
   ⟨t,rfl,ht,hlt,fun v hv=>by rw [hu] at hv; cases hv; exact hlu,h⟩
  have cA:∀ v,Gr w3 v→v.cell? (ad2.add (dP t 2)) = some (.int .i64 u.prod):=fun v s=>rowu.cell0 s
  have cB:∀ v,Gr w3 v→v.cell? (ad.add (dP j 2)) = some (.int .i64 y.prod):=fun v s=>row.cell0 (sub.trans s3 s)
  have cC:∀ v,Gr w3 v→v.cell? ((ad2.add (dP t 2)).add 1) = some (.int .i64 u.dot):=fun v s=>rowu.cell s (j:=1) rfl
  have cD:∀ v,Gr w3 v→v.cell? ((ad.add (dP j 2)).add 1) = some (.int .i64 y.dot):=fun v s=>row.cell (sub.trans s3 s) (j:=1) rfl
  refine ay rfl h2 ⟨_,cA,ay rfl h1 ⟨_,cB,ae (fun h3=>eE (.inl (Si h3))) fun h3=>ay rfl h2 ⟨_,cA,ay rfl h1 ⟨_,cB,ae (fun h4=>?_) fun h4=>?_⟩⟩⟩⟩
  ·have h4:=beq_iff_eq.1 h4
   refine ay rfl h2 ⟨_,cC,ay rfl h1 ⟨_,cD,ae (fun h5=>eE (.inr ⟨h4,Si h5⟩)) fun h5=>stp ?_⟩⟩
   have h5:=Sj h5
   rintro (h | ⟨_,h⟩) <;> omega
  ·have h3:=Sj h3
   have h4:=TK.1 h4
   exact stp (by rintro (h | ⟨h,_⟩) <;> omega)
 clear h
 rintro _ _ w10 ⟨t,rfl,ht,hlt,hge,h⟩
 intro w11 hd
 have h:=h.eq (aD hd)
 have s11:sub (hp w) (hp w11):=aZ 1 h.l
 have hlc:=dJ h
 have eE:∀ (o' : Option Addr) (c' : Nat) w',St w' (own 2 o' out2.length c' (tv out2) :: all w) →
   aG ((j:Int) + 1)∧(∃ j' : Nat,(j:Int) + 1 = j'∧j'≤l∧out2.length = (lay (I.take j')).length∧St w' (own 2 o' out2.length c' (tv (lay (I.take j'))) :: all w))∧l - ((j:Int) + 1).toNat < l - (j:Int).toNat:=fun o' c' w' h =>
  ⟨⟨by omega,by omega⟩,⟨j + 1,by simp,h1,by rw [hO2],by rw [hO2]; exact h⟩,bA h1⟩
 have z1:(0 + t) * 16≤140737488355328∧0 + t≤9223372036854775807:=by omega
 have z2:(0 + t + 1) * 16≤140737488355328∧0 + t < 9223372036854775807:=by omega
 have z3:(0 + t + 1 + (out.length - t)) * 16≤140737488355328∧0 + t + 1 + (out.length - t)≤9223372036854775807:=by omega
 have hins:(∀ u,out[t]? = some u→u≠y)→qD y out = out.take t ++ y :: out.drop t:=fun hne=>PX hS hlt fun u hu=>(aj.Ib (hne u hu)).resolve_left (hge u hu)
 refine ⟨fun u=>Gr w11 u,Gr.refl _,ae (fun h2=>?_) fun h2=>?_⟩
 ·have h2:t < out.length:=by have:=Si h2; omega
  obtain ⟨u,ad2,hu,rfl,cu⟩:=b_ (b9 h) h2
  refine ay rfl h2 ⟨_,_,cu,ay rfl h1 ⟨_,_,fun u s=>cy u (sub.trans s11 s),_,fun v _=>DK v _ _ u y,_,rfl,ae (fun h3=>?_) fun h3=>?_⟩⟩
  ·have h3:u = y:=Si h3
   subst h3
   rw [N6 hS (Sl hu)] at hT
   have:=eE (some ad2) c1 w11 (by rw [hT]; exact h)
   rwa [hT] at this
  have h3:u≠y:=Sj h3
  have hT2:=hT.trans (hins fun v hv=>by rw [hu] at hv; cases hv; exact h3)
  refine kR (by omega) ?_
  rw [N7]
  refine (sG (news:=tv (out.take t)) aK (rfl:ag Ty _ = .slice _) (rfl:ag Ty _ = .slice _) rfl rfl rfl (aB 2 h) (by rw [df,SN,TW ht]) (by show 0 < 2; decide) (qR ((b9 h).take ht)) (A6 _) z1.1 z1.2).mono ?_
  rintro _ w15 ⟨o3,c3,rfl,h⟩
  refine ⟨_,_,_,rfl,ay rfl h1 ⟨_,_,cy w15 (aZ 2 h.l),ah h fun k7 w16 h=>?_⟩⟩
  refine (aQ (us:=tv (out.take t)) aK (rfl:ag Ty _ = .slice _) (rfl:ag Ty _ = .slice _) rfl rfl rfl h rfl (by simp [aS]) z2.1 z2.2).mono ?_
  rintro _ w17 ⟨o4,c4,rfl,h⟩
  refine ⟨_,_,_,rfl,cJ ht hlc ?_⟩
  refine (sG (news:=tv (out.drop t)) aK (rfl:ag Ty _ = .slice _) (rfl:ag Ty _ = .slice _) rfl rfl rfl h (by rw [df,TO]) (by show 0 < 2; decide) (qR ((b9 (h.pick 3 [2])).drop ht hlc)) (A6 _) z3.1 z3.2).mono ?_
  rintro _ w18 ⟨o5,c5,rfl,h⟩
  refine ⟨_,_,_,rfl,?_⟩
  have el:0 + t + 1 + (out.length - t) = out2.length:=by rw [hT2,Sx,S4,SN,TO,TW ht]; omega
  have ev:(tv (out.take t) ++ [.int .i64 y.prod,.int .i64 y.dot]) ++ tv (out.drop t) = tv out2:=by
   rw [hT2,lE,wo,SI]; rfl
  have h:St w18 (own 2 o5 (0 + t + 1 + (out.length - t)) c5 ((tv (out.take t) ++ [.int .i64 y.prod,.int .i64 y.dot]) ++ tv (out.drop t)) :: all w):=h.pick 4 [0,3]
  rw [el,ev] at h
  rw [el]
  exact eE o5 c5 w18 h
 ·have h2:t = out.length:=by have:=Sj h2; omega
  have hT2:=hT.trans (hins fun v hv=>by rw [h2] at hv; simp at hv)
  refine kR (by omega) ?_
  rw [N7]
  refine (sG (news:=tv (out.take t)) aK (rfl:ag Ty _ = .slice _) (rfl:ag Ty _ = .slice _) rfl rfl rfl (aB 2 h) (by rw [df,SN,TW ht]) (by show 0 < 2; decide) (qR ((b9 h).take ht)) (A6 _) z1.1 z1.2).mono ?_
  rintro _ w15 ⟨o3,c3,rfl,h⟩
  refine ⟨_,_,_,rfl,ay rfl h1 ⟨_,_,cy w15 (aZ 2 h.l),ah h fun k7 w16 h=>?_⟩⟩
  refine (aQ (us:=tv (out.take t)) aK (rfl:ag Ty _ = .slice _) (rfl:ag Ty _ = .slice _) rfl rfl rfl h rfl (by simp [aS]) z2.1 z2.2).mono ?_
  rintro _ w17 ⟨o4,c4,rfl,h⟩
  refine ⟨_,_,_,rfl,cJ ht hlc ?_⟩
  refine (sG (news:=tv (out.drop t)) aK (rfl:ag Ty _ = .slice _) (rfl:ag Ty _ = .slice _) rfl rfl rfl h (by rw [df,TO]) (by show 0 < 2; decide) (qR ((b9 (h.pick 3 [2])).drop ht hlc)) (A6 _) z3.1 z3.2).mono ?_
  rintro _ w18 ⟨o5,c5,rfl,h⟩
  refine ⟨_,_,_,rfl,?_⟩
  have el:0 + t + 1 + (out.length - t) = out2.length:=by rw [hT2,Sx,S4,SN,TO,TW ht]; omega
  have ev:(tv (out.take t) ++ [.int .i64 y.prod,.int .i64 y.dot]) ++ tv (out.drop t) = tv out2:=by
   rw [hT2,lE,wo,SI]; rfl
  have h:St w18 (own 2 o5 (0 + t + 1 + (out.length - t)) c5 ((tv (out.take t) ++ [.int .i64 y.prod,.int .i64 y.dot]) ++ tv (out.drop t)) :: all w):=h.pick 4 [0,3]
  rw [el,ev] at h
  rw [el]
  exact eE o5 c5 w18 h
end Go.Proofs.YtngdohpikfcifaaGreatDoor
