/-
  NARROWER THAN 'FOR EVERY INPUT', by the rows' own cells (each row's printed sentence says how): FirstExact: laid · FirstRows: laid · FirstProds: laid · FirstLeast: laid · FirstGrows: laid · ReachReduces: laid · ReachSame: laid · ReachMore: laid · ReachMarks: laid · ReachParts: laid.
  DERIVED. THE GIVEN ROWS OF THIS SEAT. 10 by the template 'for every input the law returns true; each argument reads behind the call as it read before'; 0 by the template 'total and deterministic' (their statements: YtaheggomcnbbiaaDoorTotals.lean).
  GIVEN WITH THE SEED: the statements are not yours to turn. If you find one false, say at which input.
  Laid BY PROGRAM, IN A SANDBOX (cutbox-rows.mjs): the forced cells as the released guide's own fill.sh prints them over the translation e5d6dadc999de035… (all of the seat's roots in one cut). By AI agents, Wed Nov 11 2026. No macro, syntax, notation, axiom, sorry.
-/
import Derived.Test.YtaheggomcnbbiaaDoorChecked
import GoSem.Claim
import GoSem.ClaimJoined
import GoSem.ClaimMapViews
import Derived.JoinedTies
import Derived.KernelRfl
namespace Go.Proofs.YtaheggomcnbbiaaDoor
/- THE CELL 'sum', in the pinned program and in every row, IS THE sha256 OF THE DUMP (.gsa) THAT YtaheggomcnbbiaaDoorProg.lean LOADS. Nothing in Lean hashes anything: it is a label: what it is worth is what the hold of that sum in a sandbox is worth. -/
noncomputable def Tryd.pinned : Pinned := { name := "ytaheggomcnbbiaadoor", sum := "e5d6dadc999de0357b794d698e07a47a5881496466c36905a3774d214b38f6d8", checked := Tryd.checked }
namespace Rows
def none {H : Type} : Left H := { results := [], args := [] }

/- WHAT THE LISTED PACKAGE-LEVEL VARIABLES READ AS WHEN THE CALL BEGINS. Each datum BY PROGRAM (the guide's laid-datum.mjs) off the statement by which the dump's own 'gosem.cut.vars' lays the variable. In a bare row this is a premise. The card (YtaheggomcnbbiaaDoorCards.lean) ties it to the program's text. -/
def laid_math_bits_deBruijn64tab {H : Type} : DataW H := .agg [.lit (.int .u8 0), .lit (.int .u8 1), .lit (.int .u8 56), .lit (.int .u8 2), .lit (.int .u8 57), .lit (.int .u8 49), .lit (.int .u8 28), .lit (.int .u8 3), .lit (.int .u8 61), .lit (.int .u8 58), .lit (.int .u8 42), .lit (.int .u8 50), .lit (.int .u8 38), .lit (.int .u8 29), .lit (.int .u8 17), .lit (.int .u8 4), .lit (.int .u8 62), .lit (.int .u8 47), .lit (.int .u8 59), .lit (.int .u8 36), .lit (.int .u8 45), .lit (.int .u8 43), .lit (.int .u8 51), .lit (.int .u8 22), .lit (.int .u8 53), .lit (.int .u8 39), .lit (.int .u8 33), .lit (.int .u8 30), .lit (.int .u8 24), .lit (.int .u8 18), .lit (.int .u8 12), .lit (.int .u8 5), .lit (.int .u8 63), .lit (.int .u8 55), .lit (.int .u8 48), .lit (.int .u8 27), .lit (.int .u8 60), .lit (.int .u8 41), .lit (.int .u8 37), .lit (.int .u8 16), .lit (.int .u8 46), .lit (.int .u8 35), .lit (.int .u8 44), .lit (.int .u8 21), .lit (.int .u8 52), .lit (.int .u8 32), .lit (.int .u8 23), .lit (.int .u8 11), .lit (.int .u8 54), .lit (.int .u8 26), .lit (.int .u8 40), .lit (.int .u8 15), .lit (.int .u8 34), .lit (.int .u8 20), .lit (.int .u8 31), .lit (.int .u8 10), .lit (.int .u8 25), .lit (.int .u8 14), .lit (.int .u8 19), .lit (.int .u8 9), .lit (.int .u8 13), .lit (.int .u8 8), .lit (.int .u8 7), .lit (.int .u8 6)]

/-- 'presagelaw07.FirstExact': WHATEVER THE INPUT: true; the input reads as it did. -/
def firstExactSpec : ChangeSpec := { name := "firstExact", fn := fun _ => fun
  | [d1, d2] => { results := [.lit (.bool true)], args := [d1, d2] }
  | _ => none }
def firstExactRow : OpenClaim := { program := "ytaheggomcnbbiaadoor", sum := "e5d6dadc999de0357b794d698e07a47a5881496466c36905a3774d214b38f6d8", func := "presage/presagelaw07.FirstExact", spec := "firstExact", unfollowed := true, recurses := true, named := ["math/bits.deBruijn64tab"], apart := false, laid := [("math/bits.deBruijn64tab", laid_math_bits_deBruijn64tab)] }
def FirstExactSaid : Prop := firstExactRow.holds Tryd.pinned (OpenSpec.ofChange firstExactSpec)

/-- ITS FALSE NEIGHBOUR: 'it returns false'. Refute it at one input. -/
def firstExactWrong : ChangeSpec := { name := "firstExact", fn := fun _ => fun
  | [d1, d2] => { results := [.lit (.bool false)], args := [d1, d2] }
  | _ => none }
def FirstExactWrongFalsely : Prop := firstExactRow.holds Tryd.pinned (OpenSpec.ofChange firstExactWrong)

/-- 'presagelaw07.FirstRows': WHATEVER THE INPUT: true; the input reads as it did. -/
def firstRowsSpec : ChangeSpec := { name := "firstRows", fn := fun _ => fun
  | [d1, d2, d3] => { results := [.lit (.bool true)], args := [d1, d2, d3] }
  | _ => none }
def firstRowsRow : OpenClaim := { program := "ytaheggomcnbbiaadoor", sum := "e5d6dadc999de0357b794d698e07a47a5881496466c36905a3774d214b38f6d8", func := "presage/presagelaw07.FirstRows", spec := "firstRows", unfollowed := true, recurses := true, named := ["math/bits.deBruijn64tab"], apart := false, laid := [("math/bits.deBruijn64tab", laid_math_bits_deBruijn64tab)] }
def FirstRowsSaid : Prop := firstRowsRow.holds Tryd.pinned (OpenSpec.ofChange firstRowsSpec)

/-- ITS FALSE NEIGHBOUR: 'it returns false'. Refute it at one input. -/
def firstRowsWrong : ChangeSpec := { name := "firstRows", fn := fun _ => fun
  | [d1, d2, d3] => { results := [.lit (.bool false)], args := [d1, d2, d3] }
  | _ => none }
def FirstRowsWrongFalsely : Prop := firstRowsRow.holds Tryd.pinned (OpenSpec.ofChange firstRowsWrong)

/-- 'presagelaw07.FirstProds': WHATEVER THE INPUT: true; the input reads as it did. -/
def firstProdsSpec : ChangeSpec := { name := "firstProds", fn := fun _ => fun
  | [d] => { results := [.lit (.bool true)], args := [d] }
  | _ => none }
def firstProdsRow : OpenClaim := { program := "ytaheggomcnbbiaadoor", sum := "e5d6dadc999de0357b794d698e07a47a5881496466c36905a3774d214b38f6d8", func := "presage/presagelaw07.FirstProds", spec := "firstProds", unfollowed := true, recurses := true, named := ["math/bits.deBruijn64tab"], apart := false, laid := [("math/bits.deBruijn64tab", laid_math_bits_deBruijn64tab)] }
def FirstProdsSaid : Prop := firstProdsRow.holds Tryd.pinned (OpenSpec.ofChange firstProdsSpec)

/-- ITS FALSE NEIGHBOUR: 'it returns false'. Refute it at one input. -/
def firstProdsWrong : ChangeSpec := { name := "firstProds", fn := fun _ => fun
  | [d] => { results := [.lit (.bool false)], args := [d] }
  | _ => none }
def FirstProdsWrongFalsely : Prop := firstProdsRow.holds Tryd.pinned (OpenSpec.ofChange firstProdsWrong)

/-- 'presagelaw07.FirstLeast': WHATEVER THE INPUT: true; the input reads as it did. -/
def firstLeastSpec : ChangeSpec := { name := "firstLeast", fn := fun _ => fun
  | [d] => { results := [.lit (.bool true)], args := [d] }
  | _ => none }
def firstLeastRow : OpenClaim := { program := "ytaheggomcnbbiaadoor", sum := "e5d6dadc999de0357b794d698e07a47a5881496466c36905a3774d214b38f6d8", func := "presage/presagelaw07.FirstLeast", spec := "firstLeast", unfollowed := true, recurses := true, named := ["math/bits.deBruijn64tab"], apart := false, laid := [("math/bits.deBruijn64tab", laid_math_bits_deBruijn64tab)] }
def FirstLeastSaid : Prop := firstLeastRow.holds Tryd.pinned (OpenSpec.ofChange firstLeastSpec)

/-- ITS FALSE NEIGHBOUR: 'it returns false'. Refute it at one input. -/
def firstLeastWrong : ChangeSpec := { name := "firstLeast", fn := fun _ => fun
  | [d] => { results := [.lit (.bool false)], args := [d] }
  | _ => none }
def FirstLeastWrongFalsely : Prop := firstLeastRow.holds Tryd.pinned (OpenSpec.ofChange firstLeastWrong)

/-- 'presagelaw07.FirstGrows': WHATEVER THE INPUT: true; the input reads as it did. -/
def firstGrowsSpec : ChangeSpec := { name := "firstGrows", fn := fun _ => fun
  | [d1, d2, d3] => { results := [.lit (.bool true)], args := [d1, d2, d3] }
  | _ => none }
def firstGrowsRow : OpenClaim := { program := "ytaheggomcnbbiaadoor", sum := "e5d6dadc999de0357b794d698e07a47a5881496466c36905a3774d214b38f6d8", func := "presage/presagelaw07.FirstGrows", spec := "firstGrows", unfollowed := true, recurses := true, named := ["math/bits.deBruijn64tab"], apart := false, laid := [("math/bits.deBruijn64tab", laid_math_bits_deBruijn64tab)] }
def FirstGrowsSaid : Prop := firstGrowsRow.holds Tryd.pinned (OpenSpec.ofChange firstGrowsSpec)

/-- ITS FALSE NEIGHBOUR: 'it returns false'. Refute it at one input. -/
def firstGrowsWrong : ChangeSpec := { name := "firstGrows", fn := fun _ => fun
  | [d1, d2, d3] => { results := [.lit (.bool false)], args := [d1, d2, d3] }
  | _ => none }
def FirstGrowsWrongFalsely : Prop := firstGrowsRow.holds Tryd.pinned (OpenSpec.ofChange firstGrowsWrong)

/-- 'presagelaw06.ReachReduces': WHATEVER THE INPUT: true; the input reads as it did. -/
def reachReducesSpec : ChangeSpec := { name := "reachReduces", fn := fun _ => fun
  | [d] => { results := [.lit (.bool true)], args := [d] }
  | _ => none }
def reachReducesRow : OpenClaim := { program := "ytaheggomcnbbiaadoor", sum := "e5d6dadc999de0357b794d698e07a47a5881496466c36905a3774d214b38f6d8", func := "presage/presagelaw06.ReachReduces", spec := "reachReduces", unfollowed := true, recurses := true, named := ["math/bits.deBruijn64tab"], apart := false, laid := [("math/bits.deBruijn64tab", laid_math_bits_deBruijn64tab)] }
def ReachReducesSaid : Prop := reachReducesRow.holds Tryd.pinned (OpenSpec.ofChange reachReducesSpec)

/-- ITS FALSE NEIGHBOUR: 'it returns false'. Refute it at one input. -/
def reachReducesWrong : ChangeSpec := { name := "reachReduces", fn := fun _ => fun
  | [d] => { results := [.lit (.bool false)], args := [d] }
  | _ => none }
def ReachReducesWrongFalsely : Prop := reachReducesRow.holds Tryd.pinned (OpenSpec.ofChange reachReducesWrong)

/-- 'presagelaw06.ReachSame': WHATEVER THE INPUT: true; the input reads as it did. -/
def reachSameSpec : ChangeSpec := { name := "reachSame", fn := fun _ => fun
  | [d1, d2] => { results := [.lit (.bool true)], args := [d1, d2] }
  | _ => none }
def reachSameRow : OpenClaim := { program := "ytaheggomcnbbiaadoor", sum := "e5d6dadc999de0357b794d698e07a47a5881496466c36905a3774d214b38f6d8", func := "presage/presagelaw06.ReachSame", spec := "reachSame", unfollowed := true, recurses := true, named := ["math/bits.deBruijn64tab"], apart := false, laid := [("math/bits.deBruijn64tab", laid_math_bits_deBruijn64tab)] }
def ReachSameSaid : Prop := reachSameRow.holds Tryd.pinned (OpenSpec.ofChange reachSameSpec)

/-- ITS FALSE NEIGHBOUR: 'it returns false'. Refute it at one input. -/
def reachSameWrong : ChangeSpec := { name := "reachSame", fn := fun _ => fun
  | [d1, d2] => { results := [.lit (.bool false)], args := [d1, d2] }
  | _ => none }
def ReachSameWrongFalsely : Prop := reachSameRow.holds Tryd.pinned (OpenSpec.ofChange reachSameWrong)

/-- 'presagelaw06.ReachMore': WHATEVER THE INPUT: true; the input reads as it did. -/
def reachMoreSpec : ChangeSpec := { name := "reachMore", fn := fun _ => fun
  | [d1, d2, d3] => { results := [.lit (.bool true)], args := [d1, d2, d3] }
  | _ => none }
def reachMoreRow : OpenClaim := { program := "ytaheggomcnbbiaadoor", sum := "e5d6dadc999de0357b794d698e07a47a5881496466c36905a3774d214b38f6d8", func := "presage/presagelaw06.ReachMore", spec := "reachMore", unfollowed := true, recurses := true, named := ["math/bits.deBruijn64tab"], apart := false, laid := [("math/bits.deBruijn64tab", laid_math_bits_deBruijn64tab)] }
def ReachMoreSaid : Prop := reachMoreRow.holds Tryd.pinned (OpenSpec.ofChange reachMoreSpec)

/-- ITS FALSE NEIGHBOUR: 'it returns false'. Refute it at one input. -/
def reachMoreWrong : ChangeSpec := { name := "reachMore", fn := fun _ => fun
  | [d1, d2, d3] => { results := [.lit (.bool false)], args := [d1, d2, d3] }
  | _ => none }
def ReachMoreWrongFalsely : Prop := reachMoreRow.holds Tryd.pinned (OpenSpec.ofChange reachMoreWrong)

/-- 'presagelaw06.ReachMarks': WHATEVER THE INPUT: true; the input reads as it did. -/
def reachMarksSpec : ChangeSpec := { name := "reachMarks", fn := fun _ => fun
  | [d] => { results := [.lit (.bool true)], args := [d] }
  | _ => none }
def reachMarksRow : OpenClaim := { program := "ytaheggomcnbbiaadoor", sum := "e5d6dadc999de0357b794d698e07a47a5881496466c36905a3774d214b38f6d8", func := "presage/presagelaw06.ReachMarks", spec := "reachMarks", unfollowed := true, recurses := true, named := ["math/bits.deBruijn64tab"], apart := false, laid := [("math/bits.deBruijn64tab", laid_math_bits_deBruijn64tab)] }
def ReachMarksSaid : Prop := reachMarksRow.holds Tryd.pinned (OpenSpec.ofChange reachMarksSpec)

/-- ITS FALSE NEIGHBOUR: 'it returns false'. Refute it at one input. -/
def reachMarksWrong : ChangeSpec := { name := "reachMarks", fn := fun _ => fun
  | [d] => { results := [.lit (.bool false)], args := [d] }
  | _ => none }
def ReachMarksWrongFalsely : Prop := reachMarksRow.holds Tryd.pinned (OpenSpec.ofChange reachMarksWrong)

/-- 'presagelaw06.ReachParts': WHATEVER THE INPUT: true; the input reads as it did. -/
def reachPartsSpec : ChangeSpec := { name := "reachParts", fn := fun _ => fun
  | [d] => { results := [.lit (.bool true)], args := [d] }
  | _ => none }
def reachPartsRow : OpenClaim := { program := "ytaheggomcnbbiaadoor", sum := "e5d6dadc999de0357b794d698e07a47a5881496466c36905a3774d214b38f6d8", func := "presage/presagelaw06.ReachParts", spec := "reachParts", unfollowed := true, recurses := true, named := ["math/bits.deBruijn64tab"], apart := false, laid := [("math/bits.deBruijn64tab", laid_math_bits_deBruijn64tab)] }
def ReachPartsSaid : Prop := reachPartsRow.holds Tryd.pinned (OpenSpec.ofChange reachPartsSpec)

/-- ITS FALSE NEIGHBOUR: 'it returns false'. Refute it at one input. -/
def reachPartsWrong : ChangeSpec := { name := "reachParts", fn := fun _ => fun
  | [d] => { results := [.lit (.bool false)], args := [d] }
  | _ => none }
def ReachPartsWrongFalsely : Prop := reachPartsRow.holds Tryd.pinned (OpenSpec.ofChange reachPartsWrong)

/- THE SECOND FORM. 'bulk': how many values and letters a reading holds, each counted each time it is reached (what is shared counts as often as it is met; a slice's spare places count too). A statement '..UptoSaid' is the law's where the arguments, and the package variables that the reading takes, are together of bulk at most 1048576: NARROWER than '..Said'. Prove '..Said' where nothing that the law and all that it calls make is longer than what came in: it says more and counts as full. Else prove '..UptoSaid'. A law counts once. -/
mutual
def uptoBulk {H : Type} : DataW H → Nat
  | .lit (.string bytes) => bytes.length + 1
  | .lit _ => 1
  | .nil => 1
  | .ptr d => uptoBulk d + 1
  | .slice elems spare => uptoBulkAll elems + uptoBulkAll spare + 1
  | .agg parts => uptoBulkAll parts + 1
  | .iface _ d => uptoBulk d + 1
  | .map entries => uptoBulkEntries entries + 1
  | .held _ => 1
def uptoBulkAll {H : Type} : List (DataW H) → Nat
  | [] => 0
  | d :: r => uptoBulk d + uptoBulkAll r
def uptoBulkEntries {H : Type} : List (Lit × DataW H) → Nat
  | [] => 0
  | x :: r => uptoBulkEntry x + uptoBulkEntries r
def uptoBulkEntry {H : Type} : Lit × DataW H → Nat
  | (.string bytes, d) => bytes.length + uptoBulk d + 1
  | (_, d) => uptoBulk d + 1
 end
def uptoSmall : (H : Type) → List (DataW H) → Bool := fun _ ds => decide (uptoBulkAll ds ≤ 1048576)
def OpenSpec.upto (s : _root_.Go.ChangeSpec) : _root_.Go.OpenSpec := { _root_.Go.OpenSpec.ofChange s with cond := some uptoSmall }

/-- 'presagelaw07.FirstExact', WHERE WHAT IT READS IS OF BULK AT MOST 1048576: true; the input reads as it did. -/
def firstExactUptoRow : OpenClaim := { program := "ytaheggomcnbbiaadoor", sum := "e5d6dadc999de0357b794d698e07a47a5881496466c36905a3774d214b38f6d8", func := "presage/presagelaw07.FirstExact", spec := "firstExact", unfollowed := true, recurses := true, named := ["math/bits.deBruijn64tab"], apart := false, laid := [("math/bits.deBruijn64tab", laid_math_bits_deBruijn64tab)], narrowed := true }
def FirstExactUptoSaid : Prop := firstExactUptoRow.holds Tryd.pinned (OpenSpec.upto firstExactSpec)

/-- 'presagelaw07.FirstRows', WHERE WHAT IT READS IS OF BULK AT MOST 1048576: true; the input reads as it did. -/
def firstRowsUptoRow : OpenClaim := { program := "ytaheggomcnbbiaadoor", sum := "e5d6dadc999de0357b794d698e07a47a5881496466c36905a3774d214b38f6d8", func := "presage/presagelaw07.FirstRows", spec := "firstRows", unfollowed := true, recurses := true, named := ["math/bits.deBruijn64tab"], apart := false, laid := [("math/bits.deBruijn64tab", laid_math_bits_deBruijn64tab)], narrowed := true }
def FirstRowsUptoSaid : Prop := firstRowsUptoRow.holds Tryd.pinned (OpenSpec.upto firstRowsSpec)

/-- 'presagelaw07.FirstProds', WHERE WHAT IT READS IS OF BULK AT MOST 1048576: true; the input reads as it did. -/
def firstProdsUptoRow : OpenClaim := { program := "ytaheggomcnbbiaadoor", sum := "e5d6dadc999de0357b794d698e07a47a5881496466c36905a3774d214b38f6d8", func := "presage/presagelaw07.FirstProds", spec := "firstProds", unfollowed := true, recurses := true, named := ["math/bits.deBruijn64tab"], apart := false, laid := [("math/bits.deBruijn64tab", laid_math_bits_deBruijn64tab)], narrowed := true }
def FirstProdsUptoSaid : Prop := firstProdsUptoRow.holds Tryd.pinned (OpenSpec.upto firstProdsSpec)

/-- 'presagelaw07.FirstLeast', WHERE WHAT IT READS IS OF BULK AT MOST 1048576: true; the input reads as it did. -/
def firstLeastUptoRow : OpenClaim := { program := "ytaheggomcnbbiaadoor", sum := "e5d6dadc999de0357b794d698e07a47a5881496466c36905a3774d214b38f6d8", func := "presage/presagelaw07.FirstLeast", spec := "firstLeast", unfollowed := true, recurses := true, named := ["math/bits.deBruijn64tab"], apart := false, laid := [("math/bits.deBruijn64tab", laid_math_bits_deBruijn64tab)], narrowed := true }
def FirstLeastUptoSaid : Prop := firstLeastUptoRow.holds Tryd.pinned (OpenSpec.upto firstLeastSpec)

/-- 'presagelaw07.FirstGrows', WHERE WHAT IT READS IS OF BULK AT MOST 1048576: true; the input reads as it did. -/
def firstGrowsUptoRow : OpenClaim := { program := "ytaheggomcnbbiaadoor", sum := "e5d6dadc999de0357b794d698e07a47a5881496466c36905a3774d214b38f6d8", func := "presage/presagelaw07.FirstGrows", spec := "firstGrows", unfollowed := true, recurses := true, named := ["math/bits.deBruijn64tab"], apart := false, laid := [("math/bits.deBruijn64tab", laid_math_bits_deBruijn64tab)], narrowed := true }
def FirstGrowsUptoSaid : Prop := firstGrowsUptoRow.holds Tryd.pinned (OpenSpec.upto firstGrowsSpec)

/-- 'presagelaw06.ReachReduces', WHERE WHAT IT READS IS OF BULK AT MOST 1048576: true; the input reads as it did. -/
def reachReducesUptoRow : OpenClaim := { program := "ytaheggomcnbbiaadoor", sum := "e5d6dadc999de0357b794d698e07a47a5881496466c36905a3774d214b38f6d8", func := "presage/presagelaw06.ReachReduces", spec := "reachReduces", unfollowed := true, recurses := true, named := ["math/bits.deBruijn64tab"], apart := false, laid := [("math/bits.deBruijn64tab", laid_math_bits_deBruijn64tab)], narrowed := true }
def ReachReducesUptoSaid : Prop := reachReducesUptoRow.holds Tryd.pinned (OpenSpec.upto reachReducesSpec)

/-- 'presagelaw06.ReachSame', WHERE WHAT IT READS IS OF BULK AT MOST 1048576: true; the input reads as it did. -/
def reachSameUptoRow : OpenClaim := { program := "ytaheggomcnbbiaadoor", sum := "e5d6dadc999de0357b794d698e07a47a5881496466c36905a3774d214b38f6d8", func := "presage/presagelaw06.ReachSame", spec := "reachSame", unfollowed := true, recurses := true, named := ["math/bits.deBruijn64tab"], apart := false, laid := [("math/bits.deBruijn64tab", laid_math_bits_deBruijn64tab)], narrowed := true }
def ReachSameUptoSaid : Prop := reachSameUptoRow.holds Tryd.pinned (OpenSpec.upto reachSameSpec)

/-- 'presagelaw06.ReachMore', WHERE WHAT IT READS IS OF BULK AT MOST 1048576: true; the input reads as it did. -/
def reachMoreUptoRow : OpenClaim := { program := "ytaheggomcnbbiaadoor", sum := "e5d6dadc999de0357b794d698e07a47a5881496466c36905a3774d214b38f6d8", func := "presage/presagelaw06.ReachMore", spec := "reachMore", unfollowed := true, recurses := true, named := ["math/bits.deBruijn64tab"], apart := false, laid := [("math/bits.deBruijn64tab", laid_math_bits_deBruijn64tab)], narrowed := true }
def ReachMoreUptoSaid : Prop := reachMoreUptoRow.holds Tryd.pinned (OpenSpec.upto reachMoreSpec)

/-- 'presagelaw06.ReachMarks', WHERE WHAT IT READS IS OF BULK AT MOST 1048576: true; the input reads as it did. -/
def reachMarksUptoRow : OpenClaim := { program := "ytaheggomcnbbiaadoor", sum := "e5d6dadc999de0357b794d698e07a47a5881496466c36905a3774d214b38f6d8", func := "presage/presagelaw06.ReachMarks", spec := "reachMarks", unfollowed := true, recurses := true, named := ["math/bits.deBruijn64tab"], apart := false, laid := [("math/bits.deBruijn64tab", laid_math_bits_deBruijn64tab)], narrowed := true }
def ReachMarksUptoSaid : Prop := reachMarksUptoRow.holds Tryd.pinned (OpenSpec.upto reachMarksSpec)

/-- 'presagelaw06.ReachParts', WHERE WHAT IT READS IS OF BULK AT MOST 1048576: true; the input reads as it did. -/
def reachPartsUptoRow : OpenClaim := { program := "ytaheggomcnbbiaadoor", sum := "e5d6dadc999de0357b794d698e07a47a5881496466c36905a3774d214b38f6d8", func := "presage/presagelaw06.ReachParts", spec := "reachParts", unfollowed := true, recurses := true, named := ["math/bits.deBruijn64tab"], apart := false, laid := [("math/bits.deBruijn64tab", laid_math_bits_deBruijn64tab)], narrowed := true }
def ReachPartsUptoSaid : Prop := reachPartsUptoRow.holds Tryd.pinned (OpenSpec.upto reachPartsSpec)

end Rows
end Go.Proofs.YtaheggomcnbbiaaDoor
