/- Texts of this claim, one behind the other. -/
import Derived.Test.YtndaepmjkbmjmaaGreatDoorG6
set_option linter.unusedVariables false
set_option linter.unusedSectionVars false
set_option maxRecDepth 100000
set_option maxHeartbeats 16000000
namespace Go.V
end Go.V
namespace Go.Proofs.YtndaepmjkbmjmaaGreatDoor
end Go.Proofs.YtndaepmjkbmjmaaGreatDoor
open Go.V Go.Proofs.YtndaepmjkbmjmaaGreatDoor
namespace Go.Proofs.YtndaepmjkbmjmaaGreatDoor
open Go.V Go.RowKit Go.WideShapes Go.ChangeShapes Go.ChangeAt
theorem Qw:ownKnob Tryz.prog.godebug = none:=by kernel_rfl
theorem rZ:Tryz.pinned.checked.prog.mayEnter = true:=by kernel_rfl
theorem wi:Tryz.pinned.checked.prog.liftsFinal = Rows.tableOneRow.lifted:=by kernel_rfl
theorem wj:Tryz.pinned.checked.prog.make = some Rows.tableOneRow.make:=by kernel_rfl
theorem J9:laidOutB Tryz.prog = true:=by kernel_rfl
theorem oJ:Tryz.prog.cellsOf 3 = 1:=by kernel_rfl
theorem Sm:Tryz.prog.bytesOf 3 = 8:=by kernel_rfl
theorem GU:Tryz.prog.cellsOf 9 = 1:=by kernel_rfl
theorem OA:Tryz.prog.bytesOf 9 = 16:=by kernel_rfl
theorem GV:Tryz.prog.cellsOf 24 = 1:=by kernel_rfl
theorem OB:Tryz.prog.cellsOf 22 = 1:=by kernel_rfl
theorem OC:Tryz.prog.cellsOf 23 = 1:=by kernel_rfl
theorem OD:Tryz.prog.cellsOf 25 = 1:=by kernel_rfl
theorem OE:Tryz.prog.cellsOf 83 = 2:=by kernel_rfl
theorem Sn:Tryz.prog.bytesOf 83 = 24:=by kernel_rfl
theorem OG:Tryz.prog.cellsOf 81 = 3:=by kernel_rfl
theorem Sp:Tryz.prog.bytesOf 81 = 40:=by kernel_rfl
theorem Sq:Tryz.prog.cellsOf 27 = 5:=by kernel_rfl
theorem Ez:EB Tryz.prog Int anyI 3:=Qt Tryz.underlying3
theorem QW:EB Tryz.prog (List Int) (GS 8 anyI) 24:=nO Tryz.underlying24 oJ Sm Ez
theorem Tn:EB Tryz.prog ByteArray anyS 9:=Qu Tryz.underlying9
theorem To:EB Tryz.prog (List ByteArray) (GS 16 anyS) 23:=nO Tryz.underlying23 GU OA Tn
theorem Tp:EB Tryz.prog h_ (λt=>anyS t.name/\anyI t.level) 83:=by
 intro H enc W n cs x h hw
 obtain ⟨hl,hf⟩:=lA Tryz.underlying83 h hw
 rw [OE] at hl
 obtain ⟨_,_,t0,w0⟩:=hf 0 _ 9 1 0 rfl GU rfl rfl
 obtain ⟨_,_,t1,w1⟩:=hf 1 _ 3 1 1 rfl oJ rfl rfl
 obtain ⟨y0,r0,b0⟩:=Tn enc W _ _ _ t0 w0
 obtain ⟨y1,r1,b1⟩:=Ez enc W _ _ _ t1 w1
 match cs,hl with
 | [c0,c1],_ =>
  have e0:[c0] = [.string y0]:=r0
  have e1:[c1] = [.int .i64 y1]:=r1
  cases e0; cases e1
  exact ⟨⟨y0,y1⟩,rfl,b0,b1⟩
theorem Sr:EB Tryz.prog (List h_) (GS 24 λt=>anyS t.name/\anyI t.level) 22:=nO Tryz.underlying22 OE Sn Tp
theorem Tq:EB Tryz.prog aO (λp=>anyI p.left/\GS 8 anyI p.right/\anyI p.level) 81:=by
 intro H enc W n cs x h hw
 obtain ⟨hl,hf⟩:=lA Tryz.underlying81 h hw
 rw [OG] at hl
 obtain ⟨_,_,t0,w0⟩:=hf 0 _ 3 1 0 rfl oJ rfl rfl
 obtain ⟨_,_,t1,w1⟩:=hf 1 _ 24 1 1 rfl GV rfl rfl
 obtain ⟨_,_,t2,w2⟩:=hf 2 _ 3 1 2 rfl oJ rfl rfl
 obtain ⟨y0,r0,b0⟩:=Ez enc W _ _ _ t0 w0
 obtain ⟨y1,⟨a,l,c,r1,hlc,r1'⟩,b1⟩:=QW enc W _ _ _ t1 w1
 obtain ⟨y2,r2,b2⟩:=Ez enc W _ _ _ t2 w2
 match cs,hl with
 | [c0,c1,c2],_ =>
  have e0:[c0] = [.int .i64 y0]:=r0
  have e1:[c1] = [.slice a l c]:=r1
  have e2:[c2] = [.int .i64 y2]:=r2
  cases e0; cases e1; cases e2
  exact ⟨⟨y0,y1,y2⟩,⟨a,l,c,rfl,hlc,r1'⟩,b0,b1,b2⟩
theorem Ss:EB Tryz.prog (List aO) (GS 40 λp=>anyI p.left/\GS 8 anyI p.right/\anyI p.level) 25:=nO Tryz.underlying25 OG Sp Tq
def T7 (g:ae):Prop:=iK g/\g.terms.length * 24<=140737488355328/\g.nons.length * 16<=140737488355328
theorem J_:EB Tryz.prog ae T7 27:=by
 intro H enc W n cs x h hw
 obtain ⟨hl,hf⟩:=lA Tryz.underlying27 h hw
 rw [Sq] at hl
 obtain ⟨_,_,t0,w0⟩:=hf 0 _ 22 1 0 rfl OB rfl rfl
 obtain ⟨_,_,t1,w1⟩:=hf 1 _ 23 1 1 rfl OC rfl rfl
 obtain ⟨_,_,t2,w2⟩:=hf 2 _ 24 1 2 rfl GV rfl rfl
 obtain ⟨_,_,t3,w3⟩:=hf 3 _ 3 1 3 rfl oJ rfl rfl
 obtain ⟨_,_,t4,w4⟩:=hf 4 _ 25 1 4 rfl OD rfl rfl
 obtain ⟨y0,⟨a0,l0,c0',r0,k0,q0⟩,b0⟩:=Sr enc W _ _ _ t0 w0
 obtain ⟨y1,⟨a1,l1,c1',r1,k1,q1⟩,b1⟩:=To enc W _ _ _ t1 w1
 obtain ⟨y2,⟨a2,l2,c2',r2,k2,q2⟩,b2⟩:=QW enc W _ _ _ t2 w2
 obtain ⟨y3,r3,b3⟩:=Ez enc W _ _ _ t3 w3
 obtain ⟨y4,⟨a4,l4,c4',r4,k4,q4⟩,b4⟩:=Ss enc W _ _ _ t4 w4
 match cs,hl with
 | [c0,c1,c2,c3,c4],_ =>
  have e0:[c0] = [.slice a0 l0 c0']:=r0
  have e1:[c1] = [.slice a1 l1 c1']:=r1
  have e2:[c2] = [.slice a2 l2 c2']:=r2
  have e3:[c3] = [.int .i64 y3]:=r3
  have e4:[c4] = [.slice a4 l4 c4']:=r4
  cases e0; cases e1; cases e2; cases e3; cases e4
  refine ⟨⟨y0,y1,y2,y3,y4⟩,⟨⟨a0,l0,c0',a1,l1,c1',a2,l2,c2',y3,a4,l4,c4'⟩,rfl,q0,q1,q2,rfl,q4,k0,k1,k2,k4⟩,?_⟩
  have z0:=b0.1
  have z1:=b1.1
  have z2:=b2.1
  have z4:=b4.1
  unfold reachBytes at z0 z1 z2 z4
  refine ⟨⟨by show y0.length<=_; omega,by show y1.length<=_; omega,by show y2.length<=_; omega,by show y4.length * 40<=_; omega,λt ht=>⟨?_,(b0.2 t ht).2⟩,λs hs=>?_,λp hp=>?_⟩,by show y0.length * 24<=_; omega,by show y1.length * 16<=_; omega⟩
  ·have:=(b0.2 t ht).1; unfold anyS reachBytes at this; omega
  ·have:=b1.2 s hs; unfold anyS reachBytes at this; omega
  ·have:=(b4.2 p hp).2.1.1; unfold reachBytes at this; omega
theorem OH:Tryz.prog.cellsOf 38 = 1:=by kernel_rfl
theorem OI:Tryz.prog.cellsOf 62 = 2:=by kernel_rfl
theorem Su:Tryz.prog.bytesOf 62 = 16:=by kernel_rfl
theorem Sv:Tryz.prog.cellsOf 60 = 3:=by kernel_rfl
theorem T8:EB Tryz.prog ax (λt=>anyI t.kind/\anyI t.to) 62:=by
 intro H enc W n cs x h hw
 obtain ⟨hl,hf⟩:=lA Tryz.underlying62 h hw
 rw [OI] at hl
 obtain ⟨_,_,t0,w0⟩:=hf 0 _ 3 1 0 rfl oJ rfl rfl
 obtain ⟨_,_,t1,w1⟩:=hf 1 _ 3 1 1 rfl oJ rfl rfl
 obtain ⟨y0,r0,b0⟩:=Ez enc W _ _ _ t0 w0
 obtain ⟨y1,r1,b1⟩:=Ez enc W _ _ _ t1 w1
 match cs,hl with
 | [c0,c1],_ =>
  have e0:[c0] = [.int .i64 y0]:=r0
  have e1:[c1] = [.int .i64 y1]:=r1
  cases e0; cases e1
  exact ⟨⟨y0,y1⟩,rfl,b0,b1⟩
theorem Tr:EB Tryz.prog (List ax) (GS 16 λt=>anyI t.kind/\anyI t.to) 38:=nO Tryz.underlying38 OI Su T8
theorem Ts:EB Tryz.prog bI (λt=>(t.acts.length + 1) * 16<=140737488355328) 60:=by
 intro H enc W n cs x h hw
 obtain ⟨hl,hf⟩:=lA Tryz.underlying60 h hw
 rw [Sv] at hl
 obtain ⟨_,_,t0,w0⟩:=hf 0 _ 3 1 0 rfl oJ rfl rfl
 obtain ⟨_,_,t1,w1⟩:=hf 1 _ 3 1 1 rfl oJ rfl rfl
 obtain ⟨_,_,t2,w2⟩:=hf 2 _ 38 1 2 rfl OH rfl rfl
 obtain ⟨y0,r0,b0⟩:=Ez enc W _ _ _ t0 w0
 obtain ⟨y1,r1,b1⟩:=Ez enc W _ _ _ t1 w1
 obtain ⟨y2,⟨a,l,c,r2,hlc,r2'⟩,b2⟩:=Tr enc W _ _ _ t2 w2
 match cs,hl with
 | [c0,c1,c2],_ =>
  have e0:[c0] = [.int .i64 y0]:=r0
  have e1:[c1] = [.int .i64 y1]:=r1
  have e2:[c2] = [.slice a l c]:=r2
  cases e0; cases e1; cases e2
  have hll:=r2'.1
  subst hll
  refine ⟨⟨y0,y1,y2⟩,⟨a,c,rfl,r2'⟩,?_⟩
  have z:=b2.1
  unfold reachBytes at z
  show (y2.length + 1) * 16<=_
  omega

theorem Tt : Tryz.prog.globalNamed "math/bits.deBruijn64tab" = some 0 := by kernel_rfl
theorem OJ:(Tryz.prog.globals[0]?).map (·.type) = some 294:=by kernel_rfl
theorem OL:Tryz.prog.cellsOf 294 = 64:=by kernel_rfl
theorem Lo:Tryz.prog.cellsOf 5 = 1:=by kernel_rfl
theorem table {W : Ws} (h : laidMetH Tryz.prog [("math/bits.deBruijn64tab", Rows.laid_math_bits_deBruijn64tab)] W) : dG (hp W) := by
 have ht : Lib.TabIs Tryz.prog W "math/bits.deBruijn64tab" .u8 (Lib.deBruijn64tab.map λ(k : Nat) => (k : Int)) :=
  Lib.tabIs_of_head (rest:=[]) Tt OJ Tryz.underlying294 Tryz.underlying5 Lo OL h
 refine .inr ⟨_,rfl,λj v hj=>?_⟩
 have hlt:=(UA.1 hj).1
 have hc:=ht.cell Tt j (by simpa [Pd] using hlt)
 rw [aV]
 refine GR (hc.trans ?_)
 rw [<- hj]
 simp only [Pd,UD,UH] at hj hlt ⊢
 rw [UB hlt]
 simp [hlt]
theorem tables {W : Ws} (h : laidMetH Tryz.prog [("math/bits.deBruijn32tab", Rows.laid_math_bits_deBruijn32tab), ("math/bits.deBruijn64tab", Rows.laid_math_bits_deBruijn64tab), ("internal/strconv.uint64pow10", Rows.laid_internal_strconv_uint64pow10)] W) : dG (hp W) := by
 have h2 := h.filter λx => x.1 == "math/bits.deBruijn64tab"
 have e : ([("math/bits.deBruijn32tab", Rows.laid_math_bits_deBruijn32tab), ("math/bits.deBruijn64tab", Rows.laid_math_bits_deBruijn64tab), ("internal/strconv.uint64pow10", Rows.laid_internal_strconv_uint64pow10)].filter λx => x.1 == "math/bits.deBruijn64tab" : List (String × DataW Unit)) = [("math/bits.deBruijn64tab", Rows.laid_math_bits_deBruijn64tab)] := by kernel_rfl
 rw [e] at h2
 exact table h2
noncomputable def c_ (os:Os):Ws :=
  { World.holding Tryz.prog os ⟨#[],#[],[]⟩ with heap:=((((World.holding Tryz.prog os ⟨#[],#[],[]⟩).heap.modify 0 fun
      | .cells _ t frozen=>.cells ⟨Pd⟩ t frozen
      | o=>o).modify 3 fun
      | .cells _ t frozen=>.cells ⟨[.int .u8 0,.int .u8 1,.int .u8 28,.int .u8 2,.int .u8 29,.int .u8 14,.int .u8 24,.int .u8 3,.int .u8 30,.int .u8 22,.int .u8 20,.int .u8 15,.int .u8 25,.int .u8 17,.int .u8 4,.int .u8 8,.int .u8 31,.int .u8 27,.int .u8 13,.int .u8 23,.int .u8 21,.int .u8 19,.int .u8 16,.int .u8 7,.int .u8 26,.int .u8 12,.int .u8 18,.int .u8 6,.int .u8 11,.int .u8 5,.int .u8 10,.int .u8 9]⟩ t frozen
      | o=>o).modify 1 fun
      | .cells _ t frozen=>.cells ⟨[.int .u64 1,.int .u64 10,.int .u64 100,.int .u64 1000,.int .u64 10000,.int .u64 100000,.int .u64 1000000,.int .u64 10000000,.int .u64 100000000,.int .u64 1000000000,.int .u64 10000000000,.int .u64 100000000000,.int .u64 1000000000000,.int .u64 10000000000000,.int .u64 100000000000000,.int .u64 1000000000000000,.int .u64 10000000000000000,.int .u64 100000000000000000,.int .u64 1000000000000000000,.int .u64 10000000000000000000]⟩ t frozen
      | o=>o) }
end Go.Proofs.YtndaepmjkbmjmaaGreatDoor
