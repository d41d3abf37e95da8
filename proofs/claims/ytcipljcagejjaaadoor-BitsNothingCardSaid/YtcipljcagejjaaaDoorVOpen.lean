/- What the arguments of the laws read as. -/
import Derived.Test.YtcipljcagejjaaaDoorVLaw6
import Derived.Test.YtcipljcagejjaaaDoorVClose
set_option linter.unusedVariables false
namespace Go.Proofs.YtcipljcagejjaaaDoor
open Go.V Go.RowKit Go.WideShapes Go.ChangeShapes Go.ChangeAt
theorem ownK : ownKnob Tryd.prog.godebug = none := by kernel_rfl
theorem laidO : laidOutB Tryd.prog = true := by kernel_rfl
theorem cellsI : Tryd.prog.cellsOf 3 = 1 := by kernel_rfl
theorem bytesI : Tryd.prog.bytesOf 3 = 8 := by kernel_rfl
theorem cellsS : Tryd.prog.cellsOf 22 = 1 := by kernel_rfl
theorem cellsO : Tryd.prog.cellsOf 45 = 4 := by kernel_rfl
theorem bytesO : Tryd.prog.bytesOf 45 = 48 := by kernel_rfl
theorem oInt : Opn Tryd.prog Int anyI 3 := opn_int Tryd.underlying3
theorem oInts : Opn Tryd.prog (List Int) (anyL 8 anyI) 22 := opn_slice Tryd.underlying22 cellsI bytesI oInt
theorem oOp : Opn Tryd.prog OpT anyO 45 := by
  intro H enc W n cs x h hw
  obtain ⟨hl, hf⟩ := opn_struct Tryd.underlying45 h hw
  rw [cellsO] at hl
  obtain ⟨_, _, t0, w0⟩ := hf 0 _ 3 1 0 rfl cellsI rfl rfl
  obtain ⟨_, _, t1, w1⟩ := hf 1 _ 3 1 1 rfl cellsI rfl rfl
  obtain ⟨_, _, t2, w2⟩ := hf 2 _ 3 1 2 rfl cellsI rfl rfl
  obtain ⟨_, _, t3, w3⟩ := hf 3 _ 22 1 3 rfl cellsS rfl rfl
  obtain ⟨y0, r0, b0⟩ := oInt enc W _ _ _ t0 w0
  obtain ⟨y1, r1, b1⟩ := oInt enc W _ _ _ t1 w1
  obtain ⟨y2, r2, b2⟩ := oInt enc W _ _ _ t2 w2
  obtain ⟨y3, ⟨a, l, c, r3, hlc, r4⟩, b3⟩ := oInts enc W _ _ _ t3 w3
  match cs, hl with
  | [c0, c1, c2, c3], _ =>
    have e0 : [c0] = [.int .i64 y0] := r0
    have e1 : [c1] = [.int .i64 y1] := r1
    have e2 : [c2] = [.int .i64 y2] := r2
    have e3 : [c3] = [.slice a l c] := r3
    cases e0; cases e1; cases e2; cases e3
    exact ⟨⟨y0, y1, y2, y3⟩, ⟨a, l, c, rfl, hlc, r4⟩, b0, b1, b2, b3.1, b3.2⟩
theorem oOps : Opn Tryd.prog (List OpT) (anyL 48 anyO) 38 := opn_slice Tryd.underlying38 cellsO bytesO oOp

theorem gTab : Tryd.prog.globalNamed "math/bits.deBruijn64tab" = some 0 := by kernel_rfl
theorem gTabType : (Tryd.prog.globals[0]?).map (·.type) = some 77 := by kernel_rfl
theorem cellsTab : Tryd.prog.cellsOf 77 = 64 := by kernel_rfl
theorem cellsTabE : Tryd.prog.cellsOf 5 = 1 := by kernel_rfl
theorem table {W : World} (h : laidMetH Tryd.prog [("math/bits.deBruijn64tab", Rows.laid_math_bits_deBruijn64tab)] W) : tabA (hp W) := by
  have ht : Lib.TabIs Tryd.prog W "math/bits.deBruijn64tab" .u8 (Lib.deBruijn64tab.map fun (k : Nat) => (k : Int)) :=
    Lib.tabIs_of_head (rest := []) gTab gTabType Tryd.underlying77 Tryd.underlying5 cellsTabE cellsTab h
  refine .inr ⟨_, rfl, fun j v hj => ?_⟩
  have hlt := (List.getElem?_eq_some_iff.1 hj).1
  have hc := ht.cell gTab j (by simpa [tabV] using hlt)
  rw [add_lit0]
  refine cellH_of (hc.trans ?_)
  rw [← hj]
  simp only [tabV, List.getElem?_map, List.length_map] at hj hlt ⊢
  rw [List.getElem?_eq_getElem hlt]
  simp [hlt]
noncomputable def laidWorld (os : Os) : World :=
  { World.holding Tryd.prog os ⟨#[], #[], []⟩ with heap := (World.holding Tryd.prog os ⟨#[], #[], []⟩).heap.modify 0 fun
      | .cells _ t frozen => .cells ⟨tabV⟩ t frozen
      | o => o }
end Go.Proofs.YtcipljcagejjaaaDoor
