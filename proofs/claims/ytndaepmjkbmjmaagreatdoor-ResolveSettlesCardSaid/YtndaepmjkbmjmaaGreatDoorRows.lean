/-
  NARROWER THAN 'FOR EVERY INPUT', by the rows' own cells (each row's printed sentence says how): TableMerges: laid · TableClashes: laid · TableAsks: laid · TableFits: laid · TableOne: laid · ResolveSides: laid · ResolveCells: laid · ResolveSettles: laid · ResolvePicks: laid · ResolveTurns: laid · ResolvePlain: laid.
  DERIVED. THE GIVEN ROWS OF THIS SEAT. 11 by the template 'for every input the law returns true; each argument reads behind the call as it read before'; 0 by the template 'total and deterministic' (their statements: YtndaepmjkbmjmaaGreatDoorTotals.lean).
  GIVEN WITH THE SEED: the statements are not yours to turn. If you find one false, say at which input.
  Laid BY PROGRAM, IN A SANDBOX (cutbox-rows.mjs): the forced cells as the released guide's own fill.sh prints them over the translation 835f62c548ab6dee… (all of the seat's roots in one cut). By AI agents, Wed Nov 11 2026. No macro, syntax, notation, axiom, sorry.
-/
import Derived.Test.YtndaepmjkbmjmaaGreatDoorChecked
import GoSem.Claim
import GoSem.ClaimJoined
import GoSem.ClaimMapViews
import Derived.JoinedTies
import Derived.KernelRfl
namespace Go.Proofs.YtndaepmjkbmjmaaGreatDoor
/- THE CELL 'sum', in the pinned program and in every row, IS THE sha256 OF THE DUMP (.gsa) THAT YtndaepmjkbmjmaaGreatDoorProg.lean LOADS. Nothing in Lean hashes anything: it is a label: what it is worth is what the hold of that sum in a sandbox is worth. -/
noncomputable def Tryz.pinned : Pinned := { name := "ytndaepmjkbmjmaagreatdoor", sum := "835f62c548ab6dee94a56b4d637accd8a3c5b7ae5253b8a1a1108b83adc8b933", checked := Tryz.checked }
namespace Rows
def none {H : Type} : Left H := { results := [], args := [] }

/- WHAT THE LISTED PACKAGE-LEVEL VARIABLES READ AS WHEN THE CALL BEGINS. Each datum BY PROGRAM (the guide's laid-datum.mjs) off the statement by which the dump's own 'gosem.cut.vars' lays the variable. In a bare row this is a premise. The card (YtndaepmjkbmjmaaGreatDoorCards.lean) ties it to the program's text. -/
def laid_math_bits_deBruijn64tab {H : Type} : DataW H := .agg [.lit (.int .u8 0), .lit (.int .u8 1), .lit (.int .u8 56), .lit (.int .u8 2), .lit (.int .u8 57), .lit (.int .u8 49), .lit (.int .u8 28), .lit (.int .u8 3), .lit (.int .u8 61), .lit (.int .u8 58), .lit (.int .u8 42), .lit (.int .u8 50), .lit (.int .u8 38), .lit (.int .u8 29), .lit (.int .u8 17), .lit (.int .u8 4), .lit (.int .u8 62), .lit (.int .u8 47), .lit (.int .u8 59), .lit (.int .u8 36), .lit (.int .u8 45), .lit (.int .u8 43), .lit (.int .u8 51), .lit (.int .u8 22), .lit (.int .u8 53), .lit (.int .u8 39), .lit (.int .u8 33), .lit (.int .u8 30), .lit (.int .u8 24), .lit (.int .u8 18), .lit (.int .u8 12), .lit (.int .u8 5), .lit (.int .u8 63), .lit (.int .u8 55), .lit (.int .u8 48), .lit (.int .u8 27), .lit (.int .u8 60), .lit (.int .u8 41), .lit (.int .u8 37), .lit (.int .u8 16), .lit (.int .u8 46), .lit (.int .u8 35), .lit (.int .u8 44), .lit (.int .u8 21), .lit (.int .u8 52), .lit (.int .u8 32), .lit (.int .u8 23), .lit (.int .u8 11), .lit (.int .u8 54), .lit (.int .u8 26), .lit (.int .u8 40), .lit (.int .u8 15), .lit (.int .u8 34), .lit (.int .u8 20), .lit (.int .u8 31), .lit (.int .u8 10), .lit (.int .u8 25), .lit (.int .u8 14), .lit (.int .u8 19), .lit (.int .u8 9), .lit (.int .u8 13), .lit (.int .u8 8), .lit (.int .u8 7), .lit (.int .u8 6)]
def laid_math_bits_deBruijn32tab {H : Type} : DataW H := .agg [.lit (.int .u8 0), .lit (.int .u8 1), .lit (.int .u8 28), .lit (.int .u8 2), .lit (.int .u8 29), .lit (.int .u8 14), .lit (.int .u8 24), .lit (.int .u8 3), .lit (.int .u8 30), .lit (.int .u8 22), .lit (.int .u8 20), .lit (.int .u8 15), .lit (.int .u8 25), .lit (.int .u8 17), .lit (.int .u8 4), .lit (.int .u8 8), .lit (.int .u8 31), .lit (.int .u8 27), .lit (.int .u8 13), .lit (.int .u8 23), .lit (.int .u8 21), .lit (.int .u8 19), .lit (.int .u8 16), .lit (.int .u8 7), .lit (.int .u8 26), .lit (.int .u8 12), .lit (.int .u8 18), .lit (.int .u8 6), .lit (.int .u8 11), .lit (.int .u8 5), .lit (.int .u8 10), .lit (.int .u8 9)]
def laid_internal_strconv_uint64pow10 {H : Type} : DataW H := .agg [.lit (.int .u64 1), .lit (.int .u64 10), .lit (.int .u64 100), .lit (.int .u64 1000), .lit (.int .u64 10000), .lit (.int .u64 100000), .lit (.int .u64 1000000), .lit (.int .u64 10000000), .lit (.int .u64 100000000), .lit (.int .u64 1000000000), .lit (.int .u64 10000000000), .lit (.int .u64 100000000000), .lit (.int .u64 1000000000000), .lit (.int .u64 10000000000000), .lit (.int .u64 100000000000000), .lit (.int .u64 1000000000000000), .lit (.int .u64 10000000000000000), .lit (.int .u64 100000000000000000), .lit (.int .u64 1000000000000000000), .lit (.int .u64 10000000000000000000)]

/-- 'presagelaw14.TableMerges': WHATEVER THE INPUT: true; the input reads as it did. -/
def tableMergesSpec : ChangeSpec := { name := "tableMerges", fn := fun _ => fun
  | [d] => { results := [.lit (.bool true)], args := [d] }
  | _ => none }
def tableMergesRow : OpenClaim := { program := "ytndaepmjkbmjmaagreatdoor", sum := "835f62c548ab6dee94a56b4d637accd8a3c5b7ae5253b8a1a1108b83adc8b933", func := "presage/presagelaw14.TableMerges", spec := "tableMerges", unfollowed := true, recurses := true, named := ["math/bits.deBruijn64tab"], plainKeys := false, apart := false, laid := [("math/bits.deBruijn64tab", laid_math_bits_deBruijn64tab)] }
def TableMergesSaid : Prop := tableMergesRow.holds Tryz.pinned (OpenSpec.ofChange tableMergesSpec)

/-- ITS FALSE NEIGHBOUR: 'it returns false'. Refute it at one input. -/
def tableMergesWrong : ChangeSpec := { name := "tableMerges", fn := fun _ => fun
  | [d] => { results := [.lit (.bool false)], args := [d] }
  | _ => none }
def TableMergesWrongFalsely : Prop := tableMergesRow.holds Tryz.pinned (OpenSpec.ofChange tableMergesWrong)

/-- 'presagelaw14.TableClashes': WHATEVER THE INPUT: true; the input reads as it did. -/
def tableClashesSpec : ChangeSpec := { name := "tableClashes", fn := fun _ => fun
  | [d] => { results := [.lit (.bool true)], args := [d] }
  | _ => none }
def tableClashesRow : OpenClaim := { program := "ytndaepmjkbmjmaagreatdoor", sum := "835f62c548ab6dee94a56b4d637accd8a3c5b7ae5253b8a1a1108b83adc8b933", func := "presage/presagelaw14.TableClashes", spec := "tableClashes", unfollowed := true, recurses := true, named := ["math/bits.deBruijn64tab"], plainKeys := false, apart := false, laid := [("math/bits.deBruijn64tab", laid_math_bits_deBruijn64tab)] }
def TableClashesSaid : Prop := tableClashesRow.holds Tryz.pinned (OpenSpec.ofChange tableClashesSpec)

/-- ITS FALSE NEIGHBOUR: 'it returns false'. Refute it at one input. -/
def tableClashesWrong : ChangeSpec := { name := "tableClashes", fn := fun _ => fun
  | [d] => { results := [.lit (.bool false)], args := [d] }
  | _ => none }
def TableClashesWrongFalsely : Prop := tableClashesRow.holds Tryz.pinned (OpenSpec.ofChange tableClashesWrong)

/-- 'presagelaw14.TableAsks': WHATEVER THE INPUT: true; the input reads as it did. -/
def tableAsksSpec : ChangeSpec := { name := "tableAsks", fn := fun _ => fun
  | [d1, d2, d3] => { results := [.lit (.bool true)], args := [d1, d2, d3] }
  | _ => none }
def tableAsksRow : OpenClaim := { program := "ytndaepmjkbmjmaagreatdoor", sum := "835f62c548ab6dee94a56b4d637accd8a3c5b7ae5253b8a1a1108b83adc8b933", func := "presage/presagelaw14.TableAsks", spec := "tableAsks", unfollowed := true, recurses := true, named := ["math/bits.deBruijn64tab"], plainKeys := false, apart := false, laid := [("math/bits.deBruijn64tab", laid_math_bits_deBruijn64tab)] }
def TableAsksSaid : Prop := tableAsksRow.holds Tryz.pinned (OpenSpec.ofChange tableAsksSpec)

/-- ITS FALSE NEIGHBOUR: 'it returns false'. Refute it at one input. -/
def tableAsksWrong : ChangeSpec := { name := "tableAsks", fn := fun _ => fun
  | [d1, d2, d3] => { results := [.lit (.bool false)], args := [d1, d2, d3] }
  | _ => none }
def TableAsksWrongFalsely : Prop := tableAsksRow.holds Tryz.pinned (OpenSpec.ofChange tableAsksWrong)

/-- 'presagelaw14.TableFits': WHATEVER THE INPUT: true; the input reads as it did. -/
def tableFitsSpec : ChangeSpec := { name := "tableFits", fn := fun _ => fun
  | [d] => { results := [.lit (.bool true)], args := [d] }
  | _ => none }
def tableFitsRow : OpenClaim := { program := "ytndaepmjkbmjmaagreatdoor", sum := "835f62c548ab6dee94a56b4d637accd8a3c5b7ae5253b8a1a1108b83adc8b933", func := "presage/presagelaw14.TableFits", spec := "tableFits", unfollowed := true, recurses := true, named := ["math/bits.deBruijn64tab"], plainKeys := false, apart := false, laid := [("math/bits.deBruijn64tab", laid_math_bits_deBruijn64tab)] }
def TableFitsSaid : Prop := tableFitsRow.holds Tryz.pinned (OpenSpec.ofChange tableFitsSpec)

/-- ITS FALSE NEIGHBOUR: 'it returns false'. Refute it at one input. -/
def tableFitsWrong : ChangeSpec := { name := "tableFits", fn := fun _ => fun
  | [d] => { results := [.lit (.bool false)], args := [d] }
  | _ => none }
def TableFitsWrongFalsely : Prop := tableFitsRow.holds Tryz.pinned (OpenSpec.ofChange tableFitsWrong)

/-- 'presagelaw14.TableOne': WHATEVER THE INPUT: true; the input reads as it did. -/
def tableOneSpec : ChangeSpec := { name := "tableOne", fn := fun _ => fun
  | [d1, d2, d3] => { results := [.lit (.bool true)], args := [d1, d2, d3] }
  | _ => none }
def tableOneRow : OpenClaim := { program := "ytndaepmjkbmjmaagreatdoor", sum := "835f62c548ab6dee94a56b4d637accd8a3c5b7ae5253b8a1a1108b83adc8b933", func := "presage/presagelaw14.TableOne", spec := "tableOne", unfollowed := true, recurses := true, named := ["math/bits.deBruijn64tab"], plainKeys := false, apart := false, laid := [("math/bits.deBruijn64tab", laid_math_bits_deBruijn64tab)] }
def TableOneSaid : Prop := tableOneRow.holds Tryz.pinned (OpenSpec.ofChange tableOneSpec)

/-- ITS FALSE NEIGHBOUR: 'it returns false'. Refute it at one input. -/
def tableOneWrong : ChangeSpec := { name := "tableOne", fn := fun _ => fun
  | [d1, d2, d3] => { results := [.lit (.bool false)], args := [d1, d2, d3] }
  | _ => none }
def TableOneWrongFalsely : Prop := tableOneRow.holds Tryz.pinned (OpenSpec.ofChange tableOneWrong)

/-- 'presagelaw15.ResolveSides': WHATEVER THE INPUT: true; the input reads as it did. -/
def resolveSidesSpec : ChangeSpec := { name := "resolveSides", fn := fun _ => fun
  | [d1, d2, d3] => { results := [.lit (.bool true)], args := [d1, d2, d3] }
  | _ => none }
def resolveSidesRow : OpenClaim := { program := "ytndaepmjkbmjmaagreatdoor", sum := "835f62c548ab6dee94a56b4d637accd8a3c5b7ae5253b8a1a1108b83adc8b933", func := "presage/presagelaw15.ResolveSides", spec := "resolveSides", inPlace := ["slices.overlaps[presage/api.Action]", "internal/abi.NoEscape", "internal/bytealg.MakeNoZero"], unfollowed := true, recurses := true, named := ["math/bits.deBruijn64tab", "internal/strconv.uint64pow10", "math/bits.deBruijn32tab"], plainKeys := false, apart := false, laid := [("math/bits.deBruijn32tab", laid_math_bits_deBruijn32tab), ("math/bits.deBruijn64tab", laid_math_bits_deBruijn64tab), ("internal/strconv.uint64pow10", laid_internal_strconv_uint64pow10)] }
def ResolveSidesSaid : Prop := resolveSidesRow.holds Tryz.pinned (OpenSpec.ofChange resolveSidesSpec)

/-- ITS FALSE NEIGHBOUR: 'it returns false'. Refute it at one input. -/
def resolveSidesWrong : ChangeSpec := { name := "resolveSides", fn := fun _ => fun
  | [d1, d2, d3] => { results := [.lit (.bool false)], args := [d1, d2, d3] }
  | _ => none }
def ResolveSidesWrongFalsely : Prop := resolveSidesRow.holds Tryz.pinned (OpenSpec.ofChange resolveSidesWrong)

/-- 'presagelaw15.ResolveCells': WHATEVER THE INPUT: true; the input reads as it did. -/
def resolveCellsSpec : ChangeSpec := { name := "resolveCells", fn := fun _ => fun
  | [d1, d2] => { results := [.lit (.bool true)], args := [d1, d2] }
  | _ => none }
def resolveCellsRow : OpenClaim := { program := "ytndaepmjkbmjmaagreatdoor", sum := "835f62c548ab6dee94a56b4d637accd8a3c5b7ae5253b8a1a1108b83adc8b933", func := "presage/presagelaw15.ResolveCells", spec := "resolveCells", inPlace := ["slices.overlaps[presage/api.Action]", "internal/abi.NoEscape", "internal/bytealg.MakeNoZero"], unfollowed := true, recurses := true, named := ["math/bits.deBruijn64tab", "internal/strconv.uint64pow10", "math/bits.deBruijn32tab"], plainKeys := false, apart := false, laid := [("math/bits.deBruijn32tab", laid_math_bits_deBruijn32tab), ("math/bits.deBruijn64tab", laid_math_bits_deBruijn64tab), ("internal/strconv.uint64pow10", laid_internal_strconv_uint64pow10)] }
def ResolveCellsSaid : Prop := resolveCellsRow.holds Tryz.pinned (OpenSpec.ofChange resolveCellsSpec)

/-- ITS FALSE NEIGHBOUR: 'it returns false'. Refute it at one input. -/
def resolveCellsWrong : ChangeSpec := { name := "resolveCells", fn := fun _ => fun
  | [d1, d2] => { results := [.lit (.bool false)], args := [d1, d2] }
  | _ => none }
def ResolveCellsWrongFalsely : Prop := resolveCellsRow.holds Tryz.pinned (OpenSpec.ofChange resolveCellsWrong)

/-- 'presagelaw15.ResolveSettles': WHATEVER THE INPUT: true; the input reads as it did. -/
def resolveSettlesSpec : ChangeSpec := { name := "resolveSettles", fn := fun _ => fun
  | [d] => { results := [.lit (.bool true)], args := [d] }
  | _ => none }
def resolveSettlesRow : OpenClaim := { program := "ytndaepmjkbmjmaagreatdoor", sum := "835f62c548ab6dee94a56b4d637accd8a3c5b7ae5253b8a1a1108b83adc8b933", func := "presage/presagelaw15.ResolveSettles", spec := "resolveSettles", inPlace := ["slices.overlaps[presage/api.Action]", "internal/abi.NoEscape", "internal/bytealg.MakeNoZero"], unfollowed := true, recurses := true, named := ["math/bits.deBruijn64tab", "internal/strconv.uint64pow10", "math/bits.deBruijn32tab"], plainKeys := false, apart := false, laid := [("math/bits.deBruijn32tab", laid_math_bits_deBruijn32tab), ("math/bits.deBruijn64tab", laid_math_bits_deBruijn64tab), ("internal/strconv.uint64pow10", laid_internal_strconv_uint64pow10)] }
def ResolveSettlesSaid : Prop := resolveSettlesRow.holds Tryz.pinned (OpenSpec.ofChange resolveSettlesSpec)

/-- ITS FALSE NEIGHBOUR: 'it returns false'. Refute it at one input. -/
def resolveSettlesWrong : ChangeSpec := { name := "resolveSettles", fn := fun _ => fun
  | [d] => { results := [.lit (.bool false)], args := [d] }
  | _ => none }
def ResolveSettlesWrongFalsely : Prop := resolveSettlesRow.holds Tryz.pinned (OpenSpec.ofChange resolveSettlesWrong)

/-- 'presagelaw15.ResolvePicks': WHATEVER THE INPUT: true; the input reads as it did. -/
def resolvePicksSpec : ChangeSpec := { name := "resolvePicks", fn := fun _ => fun
  | [d] => { results := [.lit (.bool true)], args := [d] }
  | _ => none }
def resolvePicksRow : OpenClaim := { program := "ytndaepmjkbmjmaagreatdoor", sum := "835f62c548ab6dee94a56b4d637accd8a3c5b7ae5253b8a1a1108b83adc8b933", func := "presage/presagelaw15.ResolvePicks", spec := "resolvePicks", inPlace := ["slices.overlaps[presage/api.Action]", "internal/abi.NoEscape", "internal/bytealg.MakeNoZero"], unfollowed := true, recurses := true, named := ["math/bits.deBruijn64tab", "internal/strconv.uint64pow10", "math/bits.deBruijn32tab"], plainKeys := false, apart := false, laid := [("math/bits.deBruijn32tab", laid_math_bits_deBruijn32tab), ("math/bits.deBruijn64tab", laid_math_bits_deBruijn64tab), ("internal/strconv.uint64pow10", laid_internal_strconv_uint64pow10)] }
def ResolvePicksSaid : Prop := resolvePicksRow.holds Tryz.pinned (OpenSpec.ofChange resolvePicksSpec)

/-- ITS FALSE NEIGHBOUR: 'it returns false'. Refute it at one input. -/
def resolvePicksWrong : ChangeSpec := { name := "resolvePicks", fn := fun _ => fun
  | [d] => { results := [.lit (.bool false)], args := [d] }
  | _ => none }
def ResolvePicksWrongFalsely : Prop := resolvePicksRow.holds Tryz.pinned (OpenSpec.ofChange resolvePicksWrong)

/-- 'presagelaw15.ResolveTurns': WHATEVER THE INPUT: true; the input reads as it did. -/
def resolveTurnsSpec : ChangeSpec := { name := "resolveTurns", fn := fun _ => fun
  | [d1, d2, d3] => { results := [.lit (.bool true)], args := [d1, d2, d3] }
  | _ => none }
def resolveTurnsRow : OpenClaim := { program := "ytndaepmjkbmjmaagreatdoor", sum := "835f62c548ab6dee94a56b4d637accd8a3c5b7ae5253b8a1a1108b83adc8b933", func := "presage/presagelaw15.ResolveTurns", spec := "resolveTurns", inPlace := ["slices.overlaps[presage/api.Action]", "internal/abi.NoEscape", "internal/bytealg.MakeNoZero"], unfollowed := true, recurses := true, named := ["math/bits.deBruijn64tab", "internal/strconv.uint64pow10", "math/bits.deBruijn32tab"], plainKeys := false, apart := false, laid := [("math/bits.deBruijn32tab", laid_math_bits_deBruijn32tab), ("math/bits.deBruijn64tab", laid_math_bits_deBruijn64tab), ("internal/strconv.uint64pow10", laid_internal_strconv_uint64pow10)] }
def ResolveTurnsSaid : Prop := resolveTurnsRow.holds Tryz.pinned (OpenSpec.ofChange resolveTurnsSpec)

/-- ITS FALSE NEIGHBOUR: 'it returns false'. Refute it at one input. -/
def resolveTurnsWrong : ChangeSpec := { name := "resolveTurns", fn := fun _ => fun
  | [d1, d2, d3] => { results := [.lit (.bool false)], args := [d1, d2, d3] }
  | _ => none }
def ResolveTurnsWrongFalsely : Prop := resolveTurnsRow.holds Tryz.pinned (OpenSpec.ofChange resolveTurnsWrong)

/-- 'presagelaw15.ResolvePlain': WHATEVER THE INPUT: true; the input reads as it did. -/
def resolvePlainSpec : ChangeSpec := { name := "resolvePlain", fn := fun _ => fun
  | [d] => { results := [.lit (.bool true)], args := [d] }
  | _ => none }
def resolvePlainRow : OpenClaim := { program := "ytndaepmjkbmjmaagreatdoor", sum := "835f62c548ab6dee94a56b4d637accd8a3c5b7ae5253b8a1a1108b83adc8b933", func := "presage/presagelaw15.ResolvePlain", spec := "resolvePlain", inPlace := ["slices.overlaps[presage/api.Action]", "internal/abi.NoEscape", "internal/bytealg.MakeNoZero"], unfollowed := true, recurses := true, named := ["math/bits.deBruijn64tab", "internal/strconv.uint64pow10", "math/bits.deBruijn32tab"], plainKeys := false, apart := false, laid := [("math/bits.deBruijn32tab", laid_math_bits_deBruijn32tab), ("math/bits.deBruijn64tab", laid_math_bits_deBruijn64tab), ("internal/strconv.uint64pow10", laid_internal_strconv_uint64pow10)] }
def ResolvePlainSaid : Prop := resolvePlainRow.holds Tryz.pinned (OpenSpec.ofChange resolvePlainSpec)

/-- ITS FALSE NEIGHBOUR: 'it returns false'. Refute it at one input. -/
def resolvePlainWrong : ChangeSpec := { name := "resolvePlain", fn := fun _ => fun
  | [d] => { results := [.lit (.bool false)], args := [d] }
  | _ => none }
def ResolvePlainWrongFalsely : Prop := resolvePlainRow.holds Tryz.pinned (OpenSpec.ofChange resolvePlainWrong)

/- THE SECOND FORM. 'bulk': how many values and letters a reading holds, each counted each time it is reached (what is shared counts as often as it is met; a slice's spare places count too). A statement '..UptoSaid' is the law's where the arguments, and the package variables that the reading takes, are together of bulk at most 1048576: NARROWER than '..Said'. Prove '..Said' where nothing that the law and all that it calls make is longer than what came in: it says more and counts as full. Else prove '..UptoSaid'. A law counts once. -/
mutual
def uptoBulk {H : Type} : DataW H → Nat
  | .lit (.string bytes) => bytes.length + 1
  | .lit _ => 1
  | .nil => 1
  | .ptr d => uptoBulk d + 1
  | .slice elems spare => uptoBulkAll elems + uptoBulkAll spare + 1
  | .agg parts => uptoBulkAll parts + 1
  | .iface _ d => uptoBulk d + 1
  | .map entries => uptoBulkEntries entries + 1
  | .held _ => 1
def uptoBulkAll {H : Type} : List (DataW H) → Nat
  | [] => 0
  | d :: r => uptoBulk d + uptoBulkAll r
def uptoBulkEntries {H : Type} : List (Lit × DataW H) → Nat
  | [] => 0
  | x :: r => uptoBulkEntry x + uptoBulkEntries r
def uptoBulkEntry {H : Type} : Lit × DataW H → Nat
  | (.string bytes, d) => bytes.length + uptoBulk d + 1
  | (_, d) => uptoBulk d + 1
 end
def uptoSmall : (H : Type) → List (DataW H) → Bool := fun _ ds => decide (uptoBulkAll ds ≤ 1048576)
def OpenSpec.upto (s : _root_.Go.ChangeSpec) : _root_.Go.OpenSpec := { _root_.Go.OpenSpec.ofChange s with cond := some uptoSmall }

/-- 'presagelaw14.TableMerges', WHERE WHAT IT READS IS OF BULK AT MOST 1048576: true; the input reads as it did. -/
def tableMergesUptoRow : OpenClaim := { program := "ytndaepmjkbmjmaagreatdoor", sum := "835f62c548ab6dee94a56b4d637accd8a3c5b7ae5253b8a1a1108b83adc8b933", func := "presage/presagelaw14.TableMerges", spec := "tableMerges", unfollowed := true, recurses := true, named := ["math/bits.deBruijn64tab"], plainKeys := false, apart := false, laid := [("math/bits.deBruijn64tab", laid_math_bits_deBruijn64tab)], narrowed := true }
def TableMergesUptoSaid : Prop := tableMergesUptoRow.holds Tryz.pinned (OpenSpec.upto tableMergesSpec)

/-- 'presagelaw14.TableClashes', WHERE WHAT IT READS IS OF BULK AT MOST 1048576: true; the input reads as it did. -/
def tableClashesUptoRow : OpenClaim := { program := "ytndaepmjkbmjmaagreatdoor", sum := "835f62c548ab6dee94a56b4d637accd8a3c5b7ae5253b8a1a1108b83adc8b933", func := "presage/presagelaw14.TableClashes", spec := "tableClashes", unfollowed := true, recurses := true, named := ["math/bits.deBruijn64tab"], plainKeys := false, apart := false, laid := [("math/bits.deBruijn64tab", laid_math_bits_deBruijn64tab)], narrowed := true }
def TableClashesUptoSaid : Prop := tableClashesUptoRow.holds Tryz.pinned (OpenSpec.upto tableClashesSpec)

/-- 'presagelaw14.TableAsks', WHERE WHAT IT READS IS OF BULK AT MOST 1048576: true; the input reads as it did. -/
def tableAsksUptoRow : OpenClaim := { program := "ytndaepmjkbmjmaagreatdoor", sum := "835f62c548ab6dee94a56b4d637accd8a3c5b7ae5253b8a1a1108b83adc8b933", func := "presage/presagelaw14.TableAsks", spec := "tableAsks", unfollowed := true, recurses := true, named := ["math/bits.deBruijn64tab"], plainKeys := false, apart := false, laid := [("math/bits.deBruijn64tab", laid_math_bits_deBruijn64tab)], narrowed := true }
def TableAsksUptoSaid : Prop := tableAsksUptoRow.holds Tryz.pinned (OpenSpec.upto tableAsksSpec)

/-- 'presagelaw14.TableFits', WHERE WHAT IT READS IS OF BULK AT MOST 1048576: true; the input reads as it did. -/
def tableFitsUptoRow : OpenClaim := { program := "ytndaepmjkbmjmaagreatdoor", sum := "835f62c548ab6dee94a56b4d637accd8a3c5b7ae5253b8a1a1108b83adc8b933", func := "presage/presagelaw14.TableFits", spec := "tableFits", unfollowed := true, recurses := true, named := ["math/bits.deBruijn64tab"], plainKeys := false, apart := false, laid := [("math/bits.deBruijn64tab", laid_math_bits_deBruijn64tab)], narrowed := true }
def TableFitsUptoSaid : Prop := tableFitsUptoRow.holds Tryz.pinned (OpenSpec.upto tableFitsSpec)

/-- 'presagelaw14.TableOne', WHERE WHAT IT READS IS OF BULK AT MOST 1048576: true; the input reads as it did. -/
def tableOneUptoRow : OpenClaim := { program := "ytndaepmjkbmjmaagreatdoor", sum := "835f62c548ab6dee94a56b4d637accd8a3c5b7ae5253b8a1a1108b83adc8b933", func := "presage/presagelaw14.TableOne", spec := "tableOne", unfollowed := true, recurses := true, named := ["math/bits.deBruijn64tab"], plainKeys := false, apart := false, laid := [("math/bits.deBruijn64tab", laid_math_bits_deBruijn64tab)], narrowed := true }
def TableOneUptoSaid : Prop := tableOneUptoRow.holds Tryz.pinned (OpenSpec.upto tableOneSpec)

/-- 'presagelaw15.ResolveSides', WHERE WHAT IT READS IS OF BULK AT MOST 1048576: true; the input reads as it did. -/
def resolveSidesUptoRow : OpenClaim := { program := "ytndaepmjkbmjmaagreatdoor", sum := "835f62c548ab6dee94a56b4d637accd8a3c5b7ae5253b8a1a1108b83adc8b933", func := "presage/presagelaw15.ResolveSides", spec := "resolveSides", inPlace := ["slices.overlaps[presage/api.Action]", "internal/abi.NoEscape", "internal/bytealg.MakeNoZero"], unfollowed := true, recurses := true, named := ["math/bits.deBruijn64tab", "internal/strconv.uint64pow10", "math/bits.deBruijn32tab"], plainKeys := false, apart := false, laid := [("math/bits.deBruijn32tab", laid_math_bits_deBruijn32tab), ("math/bits.deBruijn64tab", laid_math_bits_deBruijn64tab), ("internal/strconv.uint64pow10", laid_internal_strconv_uint64pow10)], narrowed := true }
def ResolveSidesUptoSaid : Prop := resolveSidesUptoRow.holds Tryz.pinned (OpenSpec.upto resolveSidesSpec)

/-- 'presagelaw15.ResolveCells', WHERE WHAT IT READS IS OF BULK AT MOST 1048576: true; the input reads as it did. -/
def resolveCellsUptoRow : OpenClaim := { program := "ytndaepmjkbmjmaagreatdoor", sum := "835f62c548ab6dee94a56b4d637accd8a3c5b7ae5253b8a1a1108b83adc8b933", func := "presage/presagelaw15.ResolveCells", spec := "resolveCells", inPlace := ["slices.overlaps[presage/api.Action]", "internal/abi.NoEscape", "internal/bytealg.MakeNoZero"], unfollowed := true, recurses := true, named := ["math/bits.deBruijn64tab", "internal/strconv.uint64pow10", "math/bits.deBruijn32tab"], plainKeys := false, apart := false, laid := [("math/bits.deBruijn32tab", laid_math_bits_deBruijn32tab), ("math/bits.deBruijn64tab", laid_math_bits_deBruijn64tab), ("internal/strconv.uint64pow10", laid_internal_strconv_uint64pow10)], narrowed := true }
def ResolveCellsUptoSaid : Prop := resolveCellsUptoRow.holds Tryz.pinned (OpenSpec.upto resolveCellsSpec)

/-- 'presagelaw15.ResolveSettles', WHERE WHAT IT READS IS OF BULK AT MOST 1048576: true; the input reads as it did. -/
def resolveSettlesUptoRow : OpenClaim := { program := "ytndaepmjkbmjmaagreatdoor", sum := "835f62c548ab6dee94a56b4d637accd8a3c5b7ae5253b8a1a1108b83adc8b933", func := "presage/presagelaw15.ResolveSettles", spec := "resolveSettles", inPlace := ["slices.overlaps[presage/api.Action]", "internal/abi.NoEscape", "internal/bytealg.MakeNoZero"], unfollowed := true, recurses := true, named := ["math/bits.deBruijn64tab", "internal/strconv.uint64pow10", "math/bits.deBruijn32tab"], plainKeys := false, apart := false, laid := [("math/bits.deBruijn32tab", laid_math_bits_deBruijn32tab), ("math/bits.deBruijn64tab", laid_math_bits_deBruijn64tab), ("internal/strconv.uint64pow10", laid_internal_strconv_uint64pow10)], narrowed := true }
def ResolveSettlesUptoSaid : Prop := resolveSettlesUptoRow.holds Tryz.pinned (OpenSpec.upto resolveSettlesSpec)

/-- 'presagelaw15.ResolvePicks', WHERE WHAT IT READS IS OF BULK AT MOST 1048576: true; the input reads as it did. -/
def resolvePicksUptoRow : OpenClaim := { program := "ytndaepmjkbmjmaagreatdoor", sum := "835f62c548ab6dee94a56b4d637accd8a3c5b7ae5253b8a1a1108b83adc8b933", func := "presage/presagelaw15.ResolvePicks", spec := "resolvePicks", inPlace := ["slices.overlaps[presage/api.Action]", "internal/abi.NoEscape", "internal/bytealg.MakeNoZero"], unfollowed := true, recurses := true, named := ["math/bits.deBruijn64tab", "internal/strconv.uint64pow10", "math/bits.deBruijn32tab"], plainKeys := false, apart := false, laid := [("math/bits.deBruijn32tab", laid_math_bits_deBruijn32tab), ("math/bits.deBruijn64tab", laid_math_bits_deBruijn64tab), ("internal/strconv.uint64pow10", laid_internal_strconv_uint64pow10)], narrowed := true }
def ResolvePicksUptoSaid : Prop := resolvePicksUptoRow.holds Tryz.pinned (OpenSpec.upto resolvePicksSpec)

/-- 'presagelaw15.ResolveTurns', WHERE WHAT IT READS IS OF BULK AT MOST 1048576: true; the input reads as it did. -/
def resolveTurnsUptoRow : OpenClaim := { program := "ytndaepmjkbmjmaagreatdoor", sum := "835f62c548ab6dee94a56b4d637accd8a3c5b7ae5253b8a1a1108b83adc8b933", func := "presage/presagelaw15.ResolveTurns", spec := "resolveTurns", inPlace := ["slices.overlaps[presage/api.Action]", "internal/abi.NoEscape", "internal/bytealg.MakeNoZero"], unfollowed := true, recurses := true, named := ["math/bits.deBruijn64tab", "internal/strconv.uint64pow10", "math/bits.deBruijn32tab"], plainKeys := false, apart := false, laid := [("math/bits.deBruijn32tab", laid_math_bits_deBruijn32tab), ("math/bits.deBruijn64tab", laid_math_bits_deBruijn64tab), ("internal/strconv.uint64pow10", laid_internal_strconv_uint64pow10)], narrowed := true }
def ResolveTurnsUptoSaid : Prop := resolveTurnsUptoRow.holds Tryz.pinned (OpenSpec.upto resolveTurnsSpec)

/-- 'presagelaw15.ResolvePlain', WHERE WHAT IT READS IS OF BULK AT MOST 1048576: true; the input reads as it did. -/
def resolvePlainUptoRow : OpenClaim := { program := "ytndaepmjkbmjmaagreatdoor", sum := "835f62c548ab6dee94a56b4d637accd8a3c5b7ae5253b8a1a1108b83adc8b933", func := "presage/presagelaw15.ResolvePlain", spec := "resolvePlain", inPlace := ["slices.overlaps[presage/api.Action]", "internal/abi.NoEscape", "internal/bytealg.MakeNoZero"], unfollowed := true, recurses := true, named := ["math/bits.deBruijn64tab", "internal/strconv.uint64pow10", "math/bits.deBruijn32tab"], plainKeys := false, apart := false, laid := [("math/bits.deBruijn32tab", laid_math_bits_deBruijn32tab), ("math/bits.deBruijn64tab", laid_math_bits_deBruijn64tab), ("internal/strconv.uint64pow10", laid_internal_strconv_uint64pow10)], narrowed := true }
def ResolvePlainUptoSaid : Prop := resolvePlainUptoRow.holds Tryz.pinned (OpenSpec.upto resolvePlainSpec)

end Rows
end Go.Proofs.YtndaepmjkbmjmaaGreatDoor
