/-
  NARROWER THAN 'FOR EVERY INPUT', by the rows' own cells (each row's printed sentence says how): CycleHolds: laid · CycleMore: laid · DigraphParts: laid · DigraphSolves: laid · DigraphWays: laid · DigraphLeast: laid · DigraphTurned: laid.
  DERIVED. THE GIVEN ROWS OF THIS SEAT. 7 by the template 'for every input the law returns true; each argument reads behind the call as it read before'; 0 by the template 'total and deterministic' (their statements: YtcapljamcepmkaaDoorTotals.lean).
  GIVEN WITH THE SEED: the statements are not yours to turn. If you find one false, say at which input.
  Laid BY PROGRAM, IN A SANDBOX (cutbox-rows.mjs): the forced cells as the released guide's own fill.sh prints them over the translation 48f3874ef1d21099… (all of the seat's roots in one cut). By AI agents, Wed Nov 11 2026. No macro, syntax, notation, axiom, sorry.
-/
import Derived.Test.YtcapljamcepmkaaDoorChecked
import GoSem.Claim
import GoSem.ClaimJoined
import GoSem.ClaimMapViews
import Derived.JoinedTies
import Derived.KernelRfl
namespace Go.Proofs.YtcapljamcepmkaaDoor
/- THE CELL 'sum', in the pinned program and in every row, IS THE sha256 OF THE DUMP (.gsa) THAT YtcapljamcepmkaaDoorProg.lean LOADS. Nothing in Lean hashes anything: it is a label: what it is worth is what the hold of that sum in a sandbox is worth. -/
noncomputable def Tryd.pinned : Pinned := { name := "ytcapljamcepmkaadoor", sum := "48f3874ef1d21099a7b87f37b632b02a4db01824ab959db17368db32dadbaf9f", checked := Tryd.checked }
namespace Rows
def none {H : Type} : Left H := { results := [], args := [] }

/- WHAT THE LISTED PACKAGE-LEVEL VARIABLES READ AS WHEN THE CALL BEGINS. Each datum BY PROGRAM (the guide's laid-datum.mjs) off the statement by which the dump's own 'gosem.cut.vars' lays the variable. In a bare row this is a premise. The card (YtcapljamcepmkaaDoorCards.lean) ties it to the program's text. -/
def laid_math_bits_deBruijn64tab {H : Type} : DataW H := .agg [.lit (.int .u8 0), .lit (.int .u8 1), .lit (.int .u8 56), .lit (.int .u8 2), .lit (.int .u8 57), .lit (.int .u8 49), .lit (.int .u8 28), .lit (.int .u8 3), .lit (.int .u8 61), .lit (.int .u8 58), .lit (.int .u8 42), .lit (.int .u8 50), .lit (.int .u8 38), .lit (.int .u8 29), .lit (.int .u8 17), .lit (.int .u8 4), .lit (.int .u8 62), .lit (.int .u8 47), .lit (.int .u8 59), .lit (.int .u8 36), .lit (.int .u8 45), .lit (.int .u8 43), .lit (.int .u8 51), .lit (.int .u8 22), .lit (.int .u8 53), .lit (.int .u8 39), .lit (.int .u8 33), .lit (.int .u8 30), .lit (.int .u8 24), .lit (.int .u8 18), .lit (.int .u8 12), .lit (.int .u8 5), .lit (.int .u8 63), .lit (.int .u8 55), .lit (.int .u8 48), .lit (.int .u8 27), .lit (.int .u8 60), .lit (.int .u8 41), .lit (.int .u8 37), .lit (.int .u8 16), .lit (.int .u8 46), .lit (.int .u8 35), .lit (.int .u8 44), .lit (.int .u8 21), .lit (.int .u8 52), .lit (.int .u8 32), .lit (.int .u8 23), .lit (.int .u8 11), .lit (.int .u8 54), .lit (.int .u8 26), .lit (.int .u8 40), .lit (.int .u8 15), .lit (.int .u8 34), .lit (.int .u8 20), .lit (.int .u8 31), .lit (.int .u8 10), .lit (.int .u8 25), .lit (.int .u8 14), .lit (.int .u8 19), .lit (.int .u8 9), .lit (.int .u8 13), .lit (.int .u8 8), .lit (.int .u8 7), .lit (.int .u8 6)]

/-- 'presagelaw08.CycleHolds': WHATEVER THE INPUT: true; the input reads as it did. -/
def cycleHoldsSpec : ChangeSpec := { name := "cycleHolds", fn := fun _ => fun
  | [d] => { results := [.lit (.bool true)], args := [d] }
  | _ => none }
def cycleHoldsRow : OpenClaim := { program := "ytcapljamcepmkaadoor", sum := "48f3874ef1d21099a7b87f37b632b02a4db01824ab959db17368db32dadbaf9f", func := "presage/presagelaw08.CycleHolds", spec := "cycleHolds", unfollowed := true, recurses := true, named := ["math/bits.deBruijn64tab"], apart := false, laid := [("math/bits.deBruijn64tab", laid_math_bits_deBruijn64tab)] }
def CycleHoldsSaid : Prop := cycleHoldsRow.holds Tryd.pinned (OpenSpec.ofChange cycleHoldsSpec)

/-- ITS FALSE NEIGHBOUR: 'it returns false'. Refute it at one input. -/
def cycleHoldsWrong : ChangeSpec := { name := "cycleHolds", fn := fun _ => fun
  | [d] => { results := [.lit (.bool false)], args := [d] }
  | _ => none }
def CycleHoldsWrongFalsely : Prop := cycleHoldsRow.holds Tryd.pinned (OpenSpec.ofChange cycleHoldsWrong)

/-- 'presagelaw08.CycleMore': WHATEVER THE INPUT: true; the input reads as it did. -/
def cycleMoreSpec : ChangeSpec := { name := "cycleMore", fn := fun _ => fun
  | [d1, d2, d3] => { results := [.lit (.bool true)], args := [d1, d2, d3] }
  | _ => none }
def cycleMoreRow : OpenClaim := { program := "ytcapljamcepmkaadoor", sum := "48f3874ef1d21099a7b87f37b632b02a4db01824ab959db17368db32dadbaf9f", func := "presage/presagelaw08.CycleMore", spec := "cycleMore", unfollowed := true, recurses := true, named := ["math/bits.deBruijn64tab"], apart := false, laid := [("math/bits.deBruijn64tab", laid_math_bits_deBruijn64tab)] }
def CycleMoreSaid : Prop := cycleMoreRow.holds Tryd.pinned (OpenSpec.ofChange cycleMoreSpec)

/-- ITS FALSE NEIGHBOUR: 'it returns false'. Refute it at one input. -/
def cycleMoreWrong : ChangeSpec := { name := "cycleMore", fn := fun _ => fun
  | [d1, d2, d3] => { results := [.lit (.bool false)], args := [d1, d2, d3] }
  | _ => none }
def CycleMoreWrongFalsely : Prop := cycleMoreRow.holds Tryd.pinned (OpenSpec.ofChange cycleMoreWrong)

/-- 'presagelaw12.DigraphParts': WHATEVER THE INPUT: true; the input reads as it did. -/
def digraphPartsSpec : ChangeSpec := { name := "digraphParts", fn := fun _ => fun
  | [d] => { results := [.lit (.bool true)], args := [d] }
  | _ => none }
def digraphPartsRow : OpenClaim := { program := "ytcapljamcepmkaadoor", sum := "48f3874ef1d21099a7b87f37b632b02a4db01824ab959db17368db32dadbaf9f", func := "presage/presagelaw12.DigraphParts", spec := "digraphParts", unfollowed := true, recurses := true, named := ["math/bits.deBruijn64tab"], apart := false, laid := [("math/bits.deBruijn64tab", laid_math_bits_deBruijn64tab)] }
def DigraphPartsSaid : Prop := digraphPartsRow.holds Tryd.pinned (OpenSpec.ofChange digraphPartsSpec)

/-- ITS FALSE NEIGHBOUR: 'it returns false'. Refute it at one input. -/
def digraphPartsWrong : ChangeSpec := { name := "digraphParts", fn := fun _ => fun
  | [d] => { results := [.lit (.bool false)], args := [d] }
  | _ => none }
def DigraphPartsWrongFalsely : Prop := digraphPartsRow.holds Tryd.pinned (OpenSpec.ofChange digraphPartsWrong)

/-- 'presagelaw12.DigraphSolves': WHATEVER THE INPUT: true; the input reads as it did. -/
def digraphSolvesSpec : ChangeSpec := { name := "digraphSolves", fn := fun _ => fun
  | [d1, d2, d3] => { results := [.lit (.bool true)], args := [d1, d2, d3] }
  | _ => none }
def digraphSolvesRow : OpenClaim := { program := "ytcapljamcepmkaadoor", sum := "48f3874ef1d21099a7b87f37b632b02a4db01824ab959db17368db32dadbaf9f", func := "presage/presagelaw12.DigraphSolves", spec := "digraphSolves", unfollowed := true, recurses := true, named := ["math/bits.deBruijn64tab"], apart := false, laid := [("math/bits.deBruijn64tab", laid_math_bits_deBruijn64tab)] }
def DigraphSolvesSaid : Prop := digraphSolvesRow.holds Tryd.pinned (OpenSpec.ofChange digraphSolvesSpec)

/-- ITS FALSE NEIGHBOUR: 'it returns false'. Refute it at one input. -/
def digraphSolvesWrong : ChangeSpec := { name := "digraphSolves", fn := fun _ => fun
  | [d1, d2, d3] => { results := [.lit (.bool false)], args := [d1, d2, d3] }
  | _ => none }
def DigraphSolvesWrongFalsely : Prop := digraphSolvesRow.holds Tryd.pinned (OpenSpec.ofChange digraphSolvesWrong)

/-- 'presagelaw12.DigraphWays': WHATEVER THE INPUT: true; the input reads as it did. -/
def digraphWaysSpec : ChangeSpec := { name := "digraphWays", fn := fun _ => fun
  | [d1, d2] => { results := [.lit (.bool true)], args := [d1, d2] }
  | _ => none }
def digraphWaysRow : OpenClaim := { program := "ytcapljamcepmkaadoor", sum := "48f3874ef1d21099a7b87f37b632b02a4db01824ab959db17368db32dadbaf9f", func := "presage/presagelaw12.DigraphWays", spec := "digraphWays", unfollowed := true, recurses := true, named := ["math/bits.deBruijn64tab"], apart := false, laid := [("math/bits.deBruijn64tab", laid_math_bits_deBruijn64tab)] }
def DigraphWaysSaid : Prop := digraphWaysRow.holds Tryd.pinned (OpenSpec.ofChange digraphWaysSpec)

/-- ITS FALSE NEIGHBOUR: 'it returns false'. Refute it at one input. -/
def digraphWaysWrong : ChangeSpec := { name := "digraphWays", fn := fun _ => fun
  | [d1, d2] => { results := [.lit (.bool false)], args := [d1, d2] }
  | _ => none }
def DigraphWaysWrongFalsely : Prop := digraphWaysRow.holds Tryd.pinned (OpenSpec.ofChange digraphWaysWrong)

/-- 'presagelaw12.DigraphLeast': WHATEVER THE INPUT: true; the input reads as it did. -/
def digraphLeastSpec : ChangeSpec := { name := "digraphLeast", fn := fun _ => fun
  | [d1, d2, d3, d4, d5] => { results := [.lit (.bool true)], args := [d1, d2, d3, d4, d5] }
  | _ => none }
def digraphLeastRow : OpenClaim := { program := "ytcapljamcepmkaadoor", sum := "48f3874ef1d21099a7b87f37b632b02a4db01824ab959db17368db32dadbaf9f", func := "presage/presagelaw12.DigraphLeast", spec := "digraphLeast", unfollowed := true, recurses := true, named := ["math/bits.deBruijn64tab"], apart := false, laid := [("math/bits.deBruijn64tab", laid_math_bits_deBruijn64tab)] }
def DigraphLeastSaid : Prop := digraphLeastRow.holds Tryd.pinned (OpenSpec.ofChange digraphLeastSpec)

/-- ITS FALSE NEIGHBOUR: 'it returns false'. Refute it at one input. -/
def digraphLeastWrong : ChangeSpec := { name := "digraphLeast", fn := fun _ => fun
  | [d1, d2, d3, d4, d5] => { results := [.lit (.bool false)], args := [d1, d2, d3, d4, d5] }
  | _ => none }
def DigraphLeastWrongFalsely : Prop := digraphLeastRow.holds Tryd.pinned (OpenSpec.ofChange digraphLeastWrong)

/-- 'presagelaw12.DigraphTurned': WHATEVER THE INPUT: true; the input reads as it did. -/
def digraphTurnedSpec : ChangeSpec := { name := "digraphTurned", fn := fun _ => fun
  | [d1, d2, d3, d4] => { results := [.lit (.bool true)], args := [d1, d2, d3, d4] }
  | _ => none }
def digraphTurnedRow : OpenClaim := { program := "ytcapljamcepmkaadoor", sum := "48f3874ef1d21099a7b87f37b632b02a4db01824ab959db17368db32dadbaf9f", func := "presage/presagelaw12.DigraphTurned", spec := "digraphTurned", unfollowed := true, recurses := true, named := ["math/bits.deBruijn64tab"], apart := false, laid := [("math/bits.deBruijn64tab", laid_math_bits_deBruijn64tab)] }
def DigraphTurnedSaid : Prop := digraphTurnedRow.holds Tryd.pinned (OpenSpec.ofChange digraphTurnedSpec)

/-- ITS FALSE NEIGHBOUR: 'it returns false'. Refute it at one input. -/
def digraphTurnedWrong : ChangeSpec := { name := "digraphTurned", fn := fun _ => fun
  | [d1, d2, d3, d4] => { results := [.lit (.bool false)], args := [d1, d2, d3, d4] }
  | _ => none }
def DigraphTurnedWrongFalsely : Prop := digraphTurnedRow.holds Tryd.pinned (OpenSpec.ofChange digraphTurnedWrong)

/- THE SECOND FORM. 'bulk': how many values and letters a reading holds, each counted each time it is reached (what is shared counts as often as it is met; a slice's spare places count too). A statement '..UptoSaid' is the law's where the arguments, and the package variables that the reading takes, are together of bulk at most 1048576: NARROWER than '..Said'. Prove '..Said' where nothing that the law and all that it calls make is longer than what came in: it says more and counts as full. Else prove '..UptoSaid'. A law counts once. -/
mutual
def uptoBulk {H : Type} : DataW H → Nat
  | .lit (.string bytes) => bytes.length + 1
  | .lit _ => 1
  | .nil => 1
  | .ptr d => uptoBulk d + 1
  | .slice elems spare => uptoBulkAll elems + uptoBulkAll spare + 1
  | .agg parts => uptoBulkAll parts + 1
  | .iface _ d => uptoBulk d + 1
  | .map entries => uptoBulkEntries entries + 1
  | .held _ => 1
def uptoBulkAll {H : Type} : List (DataW H) → Nat
  | [] => 0
  | d :: r => uptoBulk d + uptoBulkAll r
def uptoBulkEntries {H : Type} : List (Lit × DataW H) → Nat
  | [] => 0
  | x :: r => uptoBulkEntry x + uptoBulkEntries r
def uptoBulkEntry {H : Type} : Lit × DataW H → Nat
  | (.string bytes, d) => bytes.length + uptoBulk d + 1
  | (_, d) => uptoBulk d + 1
 end
def uptoSmall : (H : Type) → List (DataW H) → Bool := fun _ ds => decide (uptoBulkAll ds ≤ 1048576)
def OpenSpec.upto (s : _root_.Go.ChangeSpec) : _root_.Go.OpenSpec := { _root_.Go.OpenSpec.ofChange s with cond := some uptoSmall }

/-- 'presagelaw08.CycleHolds', WHERE WHAT IT READS IS OF BULK AT MOST 1048576: true; the input reads as it did. -/
def cycleHoldsUptoRow : OpenClaim := { program := "ytcapljamcepmkaadoor", sum := "48f3874ef1d21099a7b87f37b632b02a4db01824ab959db17368db32dadbaf9f", func := "presage/presagelaw08.CycleHolds", spec := "cycleHolds", unfollowed := true, recurses := true, named := ["math/bits.deBruijn64tab"], apart := false, laid := [("math/bits.deBruijn64tab", laid_math_bits_deBruijn64tab)], narrowed := true }
def CycleHoldsUptoSaid : Prop := cycleHoldsUptoRow.holds Tryd.pinned (OpenSpec.upto cycleHoldsSpec)

/-- 'presagelaw08.CycleMore', WHERE WHAT IT READS IS OF BULK AT MOST 1048576: true; the input reads as it did. -/
def cycleMoreUptoRow : OpenClaim := { program := "ytcapljamcepmkaadoor", sum := "48f3874ef1d21099a7b87f37b632b02a4db01824ab959db17368db32dadbaf9f", func := "presage/presagelaw08.CycleMore", spec := "cycleMore", unfollowed := true, recurses := true, named := ["math/bits.deBruijn64tab"], apart := false, laid := [("math/bits.deBruijn64tab", laid_math_bits_deBruijn64tab)], narrowed := true }
def CycleMoreUptoSaid : Prop := cycleMoreUptoRow.holds Tryd.pinned (OpenSpec.upto cycleMoreSpec)

/-- 'presagelaw12.DigraphParts', WHERE WHAT IT READS IS OF BULK AT MOST 1048576: true; the input reads as it did. -/
def digraphPartsUptoRow : OpenClaim := { program := "ytcapljamcepmkaadoor", sum := "48f3874ef1d21099a7b87f37b632b02a4db01824ab959db17368db32dadbaf9f", func := "presage/presagelaw12.DigraphParts", spec := "digraphParts", unfollowed := true, recurses := true, named := ["math/bits.deBruijn64tab"], apart := false, laid := [("math/bits.deBruijn64tab", laid_math_bits_deBruijn64tab)], narrowed := true }
def DigraphPartsUptoSaid : Prop := digraphPartsUptoRow.holds Tryd.pinned (OpenSpec.upto digraphPartsSpec)

/-- 'presagelaw12.DigraphSolves', WHERE WHAT IT READS IS OF BULK AT MOST 1048576: true; the input reads as it did. -/
def digraphSolvesUptoRow : OpenClaim := { program := "ytcapljamcepmkaadoor", sum := "48f3874ef1d21099a7b87f37b632b02a4db01824ab959db17368db32dadbaf9f", func := "presage/presagelaw12.DigraphSolves", spec := "digraphSolves", unfollowed := true, recurses := true, named := ["math/bits.deBruijn64tab"], apart := false, laid := [("math/bits.deBruijn64tab", laid_math_bits_deBruijn64tab)], narrowed := true }
def DigraphSolvesUptoSaid : Prop := digraphSolvesUptoRow.holds Tryd.pinned (OpenSpec.upto digraphSolvesSpec)

/-- 'presagelaw12.DigraphWays', WHERE WHAT IT READS IS OF BULK AT MOST 1048576: true; the input reads as it did. -/
def digraphWaysUptoRow : OpenClaim := { program := "ytcapljamcepmkaadoor", sum := "48f3874ef1d21099a7b87f37b632b02a4db01824ab959db17368db32dadbaf9f", func := "presage/presagelaw12.DigraphWays", spec := "digraphWays", unfollowed := true, recurses := true, named := ["math/bits.deBruijn64tab"], apart := false, laid := [("math/bits.deBruijn64tab", laid_math_bits_deBruijn64tab)], narrowed := true }
def DigraphWaysUptoSaid : Prop := digraphWaysUptoRow.holds Tryd.pinned (OpenSpec.upto digraphWaysSpec)

/-- 'presagelaw12.DigraphLeast', WHERE WHAT IT READS IS OF BULK AT MOST 1048576: true; the input reads as it did. -/
def digraphLeastUptoRow : OpenClaim := { program := "ytcapljamcepmkaadoor", sum := "48f3874ef1d21099a7b87f37b632b02a4db01824ab959db17368db32dadbaf9f", func := "presage/presagelaw12.DigraphLeast", spec := "digraphLeast", unfollowed := true, recurses := true, named := ["math/bits.deBruijn64tab"], apart := false, laid := [("math/bits.deBruijn64tab", laid_math_bits_deBruijn64tab)], narrowed := true }
def DigraphLeastUptoSaid : Prop := digraphLeastUptoRow.holds Tryd.pinned (OpenSpec.upto digraphLeastSpec)

/-- 'presagelaw12.DigraphTurned', WHERE WHAT IT READS IS OF BULK AT MOST 1048576: true; the input reads as it did. -/
def digraphTurnedUptoRow : OpenClaim := { program := "ytcapljamcepmkaadoor", sum := "48f3874ef1d21099a7b87f37b632b02a4db01824ab959db17368db32dadbaf9f", func := "presage/presagelaw12.DigraphTurned", spec := "digraphTurned", unfollowed := true, recurses := true, named := ["math/bits.deBruijn64tab"], apart := false, laid := [("math/bits.deBruijn64tab", laid_math_bits_deBruijn64tab)], narrowed := true }
def DigraphTurnedUptoSaid : Prop := digraphTurnedUptoRow.holds Tryd.pinned (OpenSpec.upto digraphTurnedSpec)

end Rows
end Go.Proofs.YtcapljamcepmkaaDoor
