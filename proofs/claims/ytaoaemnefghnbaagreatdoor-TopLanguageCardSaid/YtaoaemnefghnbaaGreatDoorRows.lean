/-
  NARROWER THAN 'FOR EVERY INPUT', by the rows' own cells (each row's printed sentence says how): TopLanguage: laid · TopUnique: laid · TopGoesOn: laid · TopAnswers: laid · TopOpen: laid.
  DERIVED. THE GIVEN ROWS OF THIS SEAT. 5 by the template 'for every input the law returns true; each argument reads behind the call as it read before'; 0 by the template 'total and deterministic' (their statements: YtaoaemnefghnbaaGreatDoorTotals.lean).
  GIVEN WITH THE SEED: the statements are not yours to turn. If you find one false, say at which input.
  Laid BY PROGRAM, IN A SANDBOX (cutbox-rows.mjs): the forced cells as the released guide's own fill.sh prints them over the translation 08400c5b71fcc360… (all of the seat's roots in one cut). By AI agents, Wed Nov 11 2026. No macro, syntax, notation, axiom, sorry.
-/
import Derived.Test.YtaoaemnefghnbaaGreatDoorChecked
import GoSem.Claim
import GoSem.ClaimJoined
import GoSem.ClaimMapViews
import Derived.JoinedTies
import Derived.KernelRfl
namespace Go.Proofs.YtaoaemnefghnbaaGreatDoor
/- THE CELL 'sum', in the pinned program and in every row, IS THE sha256 OF THE DUMP (.gsa) THAT YtaoaemnefghnbaaGreatDoorProg.lean LOADS. Nothing in Lean hashes anything: it is a label: what it is worth is what the hold of that sum in a sandbox is worth. -/
noncomputable def Tryz.pinned : Pinned := { name := "ytaoaemnefghnbaagreatdoor", sum := "08400c5b71fcc360e5d1b3461074f21879e7487408fc059f58e91011fc6f56ec", checked := Tryz.checked }
namespace Rows
def none {H : Type} : Left H := { results := [], args := [] }

/- WHAT THE LISTED PACKAGE-LEVEL VARIABLES READ AS WHEN THE CALL BEGINS. Each datum BY PROGRAM (the guide's laid-datum.mjs) off the statement by which the dump's own 'gosem.cut.vars' lays the variable. In a bare row this is a premise. The card (YtaoaemnefghnbaaGreatDoorCards.lean) ties it to the program's text. -/
def laid_math_bits_deBruijn64tab {H : Type} : DataW H := .agg [.lit (.int .u8 0), .lit (.int .u8 1), .lit (.int .u8 56), .lit (.int .u8 2), .lit (.int .u8 57), .lit (.int .u8 49), .lit (.int .u8 28), .lit (.int .u8 3), .lit (.int .u8 61), .lit (.int .u8 58), .lit (.int .u8 42), .lit (.int .u8 50), .lit (.int .u8 38), .lit (.int .u8 29), .lit (.int .u8 17), .lit (.int .u8 4), .lit (.int .u8 62), .lit (.int .u8 47), .lit (.int .u8 59), .lit (.int .u8 36), .lit (.int .u8 45), .lit (.int .u8 43), .lit (.int .u8 51), .lit (.int .u8 22), .lit (.int .u8 53), .lit (.int .u8 39), .lit (.int .u8 33), .lit (.int .u8 30), .lit (.int .u8 24), .lit (.int .u8 18), .lit (.int .u8 12), .lit (.int .u8 5), .lit (.int .u8 63), .lit (.int .u8 55), .lit (.int .u8 48), .lit (.int .u8 27), .lit (.int .u8 60), .lit (.int .u8 41), .lit (.int .u8 37), .lit (.int .u8 16), .lit (.int .u8 46), .lit (.int .u8 35), .lit (.int .u8 44), .lit (.int .u8 21), .lit (.int .u8 52), .lit (.int .u8 32), .lit (.int .u8 23), .lit (.int .u8 11), .lit (.int .u8 54), .lit (.int .u8 26), .lit (.int .u8 40), .lit (.int .u8 15), .lit (.int .u8 34), .lit (.int .u8 20), .lit (.int .u8 31), .lit (.int .u8 10), .lit (.int .u8 25), .lit (.int .u8 14), .lit (.int .u8 19), .lit (.int .u8 9), .lit (.int .u8 13), .lit (.int .u8 8), .lit (.int .u8 7), .lit (.int .u8 6)]
def laid_presage_scan_orders {H : Type} : DataW H := .slice [.lit (.string [37, 108, 101, 102, 116]), .lit (.string [37, 110, 111, 110, 97, 115, 115, 111, 99]), .lit (.string [37, 110, 111, 110, 101]), .lit (.string [37, 112, 114, 101, 99]), .lit (.string [37, 114, 105, 103, 104, 116]), .lit (.string [37, 115, 116, 97, 114, 116]), .lit (.string [37, 116, 111, 107, 101, 110])] []

/-- 'presagetop.TopLanguage': WHATEVER THE INPUT: true; the input reads as it did. -/
def topLanguageSpec : ChangeSpec := { name := "topLanguage", fn := fun _ => fun
  | [d1, d2] => { results := [.lit (.bool true)], args := [d1, d2] }
  | _ => none }
def topLanguageRow : OpenClaim := { program := "ytaoaemnefghnbaagreatdoor", sum := "08400c5b71fcc360e5d1b3461074f21879e7487408fc059f58e91011fc6f56ec", func := "presage/presagetop.TopLanguage", spec := "topLanguage", inPlace := ["slices.overlaps[presage/api.Action]"], unfollowed := true, recurses := true, named := ["math/bits.deBruijn64tab"], plainKeys := false, apart := false, laid := [("math/bits.deBruijn64tab", laid_math_bits_deBruijn64tab)] }
def TopLanguageSaid : Prop := topLanguageRow.holds Tryz.pinned (OpenSpec.ofChange topLanguageSpec)

/-- ITS FALSE NEIGHBOUR: 'it returns false'. Refute it at one input. -/
def topLanguageWrong : ChangeSpec := { name := "topLanguage", fn := fun _ => fun
  | [d1, d2] => { results := [.lit (.bool false)], args := [d1, d2] }
  | _ => none }
def TopLanguageWrongFalsely : Prop := topLanguageRow.holds Tryz.pinned (OpenSpec.ofChange topLanguageWrong)

/-- 'presagetop.TopUnique': WHATEVER THE INPUT: true; the input reads as it did. -/
def topUniqueSpec : ChangeSpec := { name := "topUnique", fn := fun _ => fun
  | [d1, d2] => { results := [.lit (.bool true)], args := [d1, d2] }
  | _ => none }
def topUniqueRow : OpenClaim := { program := "ytaoaemnefghnbaagreatdoor", sum := "08400c5b71fcc360e5d1b3461074f21879e7487408fc059f58e91011fc6f56ec", func := "presage/presagetop.TopUnique", spec := "topUnique", inPlace := ["slices.overlaps[presage/api.Action]"], unfollowed := true, recurses := true, named := ["math/bits.deBruijn64tab"], plainKeys := false, apart := false, laid := [("math/bits.deBruijn64tab", laid_math_bits_deBruijn64tab)] }
def TopUniqueSaid : Prop := topUniqueRow.holds Tryz.pinned (OpenSpec.ofChange topUniqueSpec)

/-- ITS FALSE NEIGHBOUR: 'it returns false'. Refute it at one input. -/
def topUniqueWrong : ChangeSpec := { name := "topUnique", fn := fun _ => fun
  | [d1, d2] => { results := [.lit (.bool false)], args := [d1, d2] }
  | _ => none }
def TopUniqueWrongFalsely : Prop := topUniqueRow.holds Tryz.pinned (OpenSpec.ofChange topUniqueWrong)

/-- 'presagetop.TopGoesOn': WHATEVER THE INPUT: true; the input reads as it did. -/
def topGoesOnSpec : ChangeSpec := { name := "topGoesOn", fn := fun _ => fun
  | [d1, d2] => { results := [.lit (.bool true)], args := [d1, d2] }
  | _ => none }
def topGoesOnRow : OpenClaim := { program := "ytaoaemnefghnbaagreatdoor", sum := "08400c5b71fcc360e5d1b3461074f21879e7487408fc059f58e91011fc6f56ec", func := "presage/presagetop.TopGoesOn", spec := "topGoesOn", inPlace := ["slices.overlaps[presage/api.Action]"], unfollowed := true, recurses := true, named := ["math/bits.deBruijn64tab"], plainKeys := false, apart := false, laid := [("math/bits.deBruijn64tab", laid_math_bits_deBruijn64tab)] }
def TopGoesOnSaid : Prop := topGoesOnRow.holds Tryz.pinned (OpenSpec.ofChange topGoesOnSpec)

/-- ITS FALSE NEIGHBOUR: 'it returns false'. Refute it at one input. -/
def topGoesOnWrong : ChangeSpec := { name := "topGoesOn", fn := fun _ => fun
  | [d1, d2] => { results := [.lit (.bool false)], args := [d1, d2] }
  | _ => none }
def TopGoesOnWrongFalsely : Prop := topGoesOnRow.holds Tryz.pinned (OpenSpec.ofChange topGoesOnWrong)

/-- 'presagetop.TopAnswers': WHATEVER THE INPUT: true; the input reads as it did. -/
def topAnswersSpec : ChangeSpec := { name := "topAnswers", fn := fun _ => fun
  | [d] => { results := [.lit (.bool true)], args := [d] }
  | _ => none }
def topAnswersRow : OpenClaim := { program := "ytaoaemnefghnbaagreatdoor", sum := "08400c5b71fcc360e5d1b3461074f21879e7487408fc059f58e91011fc6f56ec", func := "presage/presagetop.TopAnswers", spec := "topAnswers", inPlace := ["internal/bytealg.IndexByteString", "slices.overlaps[presage/api.Action]"], unfollowed := true, recurses := true, named := ["presage/scan.orders", "math/bits.deBruijn64tab"], plainKeys := false, apart := false, laid := [("math/bits.deBruijn64tab", laid_math_bits_deBruijn64tab), ("presage/scan.orders", laid_presage_scan_orders)] }
def TopAnswersSaid : Prop := topAnswersRow.holds Tryz.pinned (OpenSpec.ofChange topAnswersSpec)

/-- ITS FALSE NEIGHBOUR: 'it returns false'. Refute it at one input. -/
def topAnswersWrong : ChangeSpec := { name := "topAnswers", fn := fun _ => fun
  | [d] => { results := [.lit (.bool false)], args := [d] }
  | _ => none }
def TopAnswersWrongFalsely : Prop := topAnswersRow.holds Tryz.pinned (OpenSpec.ofChange topAnswersWrong)

/-- 'presagetop.TopOpen': WHATEVER THE INPUT: true; the input reads as it did. -/
def topOpenSpec : ChangeSpec := { name := "topOpen", fn := fun _ => fun
  | [d] => { results := [.lit (.bool true)], args := [d] }
  | _ => none }
def topOpenRow : OpenClaim := { program := "ytaoaemnefghnbaagreatdoor", sum := "08400c5b71fcc360e5d1b3461074f21879e7487408fc059f58e91011fc6f56ec", func := "presage/presagetop.TopOpen", spec := "topOpen", inPlace := ["internal/bytealg.IndexByteString", "slices.overlaps[presage/api.Action]"], unfollowed := true, recurses := true, named := ["presage/scan.orders", "math/bits.deBruijn64tab"], plainKeys := false, apart := false, laid := [("math/bits.deBruijn64tab", laid_math_bits_deBruijn64tab), ("presage/scan.orders", laid_presage_scan_orders)] }
def TopOpenSaid : Prop := topOpenRow.holds Tryz.pinned (OpenSpec.ofChange topOpenSpec)

/-- ITS FALSE NEIGHBOUR: 'it returns false'. Refute it at one input. -/
def topOpenWrong : ChangeSpec := { name := "topOpen", fn := fun _ => fun
  | [d] => { results := [.lit (.bool false)], args := [d] }
  | _ => none }
def TopOpenWrongFalsely : Prop := topOpenRow.holds Tryz.pinned (OpenSpec.ofChange topOpenWrong)

/- THE SECOND FORM. 'bulk': how many values and letters a reading holds, each counted each time it is reached (what is shared counts as often as it is met; a slice's spare places count too). A statement '..UptoSaid' is the law's where the arguments, and the package variables that the reading takes, are together of bulk at most 1048576: NARROWER than '..Said'. Prove '..Said' where nothing that the law and all that it calls make is longer than what came in: it says more and counts as full. Else prove '..UptoSaid'. A law counts once. -/
mutual
def uptoBulk {H : Type} : DataW H → Nat
  | .lit (.string bytes) => bytes.length + 1
  | .lit _ => 1
  | .nil => 1
  | .ptr d => uptoBulk d + 1
  | .slice elems spare => uptoBulkAll elems + uptoBulkAll spare + 1
  | .agg parts => uptoBulkAll parts + 1
  | .iface _ d => uptoBulk d + 1
  | .map entries => uptoBulkEntries entries + 1
  | .held _ => 1
def uptoBulkAll {H : Type} : List (DataW H) → Nat
  | [] => 0
  | d :: r => uptoBulk d + uptoBulkAll r
def uptoBulkEntries {H : Type} : List (Lit × DataW H) → Nat
  | [] => 0
  | x :: r => uptoBulkEntry x + uptoBulkEntries r
def uptoBulkEntry {H : Type} : Lit × DataW H → Nat
  | (.string bytes, d) => bytes.length + uptoBulk d + 1
  | (_, d) => uptoBulk d + 1
 end
def uptoSmall : (H : Type) → List (DataW H) → Bool := fun _ ds => decide (uptoBulkAll ds ≤ 1048576)
def OpenSpec.upto (s : _root_.Go.ChangeSpec) : _root_.Go.OpenSpec := { _root_.Go.OpenSpec.ofChange s with cond := some uptoSmall }

/-- 'presagetop.TopLanguage', WHERE WHAT IT READS IS OF BULK AT MOST 1048576: true; the input reads as it did. -/
def topLanguageUptoRow : OpenClaim := { program := "ytaoaemnefghnbaagreatdoor", sum := "08400c5b71fcc360e5d1b3461074f21879e7487408fc059f58e91011fc6f56ec", func := "presage/presagetop.TopLanguage", spec := "topLanguage", inPlace := ["slices.overlaps[presage/api.Action]"], unfollowed := true, recurses := true, named := ["math/bits.deBruijn64tab"], plainKeys := false, apart := false, laid := [("math/bits.deBruijn64tab", laid_math_bits_deBruijn64tab)], narrowed := true }
def TopLanguageUptoSaid : Prop := topLanguageUptoRow.holds Tryz.pinned (OpenSpec.upto topLanguageSpec)

/-- 'presagetop.TopUnique', WHERE WHAT IT READS IS OF BULK AT MOST 1048576: true; the input reads as it did. -/
def topUniqueUptoRow : OpenClaim := { program := "ytaoaemnefghnbaagreatdoor", sum := "08400c5b71fcc360e5d1b3461074f21879e7487408fc059f58e91011fc6f56ec", func := "presage/presagetop.TopUnique", spec := "topUnique", inPlace := ["slices.overlaps[presage/api.Action]"], unfollowed := true, recurses := true, named := ["math/bits.deBruijn64tab"], plainKeys := false, apart := false, laid := [("math/bits.deBruijn64tab", laid_math_bits_deBruijn64tab)], narrowed := true }
def TopUniqueUptoSaid : Prop := topUniqueUptoRow.holds Tryz.pinned (OpenSpec.upto topUniqueSpec)

/-- 'presagetop.TopGoesOn', WHERE WHAT IT READS IS OF BULK AT MOST 1048576: true; the input reads as it did. -/
def topGoesOnUptoRow : OpenClaim := { program := "ytaoaemnefghnbaagreatdoor", sum := "08400c5b71fcc360e5d1b3461074f21879e7487408fc059f58e91011fc6f56ec", func := "presage/presagetop.TopGoesOn", spec := "topGoesOn", inPlace := ["slices.overlaps[presage/api.Action]"], unfollowed := true, recurses := true, named := ["math/bits.deBruijn64tab"], plainKeys := false, apart := false, laid := [("math/bits.deBruijn64tab", laid_math_bits_deBruijn64tab)], narrowed := true }
def TopGoesOnUptoSaid : Prop := topGoesOnUptoRow.holds Tryz.pinned (OpenSpec.upto topGoesOnSpec)

/-- 'presagetop.TopAnswers', WHERE WHAT IT READS IS OF BULK AT MOST 1048576: true; the input reads as it did. -/
def topAnswersUptoRow : OpenClaim := { program := "ytaoaemnefghnbaagreatdoor", sum := "08400c5b71fcc360e5d1b3461074f21879e7487408fc059f58e91011fc6f56ec", func := "presage/presagetop.TopAnswers", spec := "topAnswers", inPlace := ["internal/bytealg.IndexByteString", "slices.overlaps[presage/api.Action]"], unfollowed := true, recurses := true, named := ["presage/scan.orders", "math/bits.deBruijn64tab"], plainKeys := false, apart := false, laid := [("math/bits.deBruijn64tab", laid_math_bits_deBruijn64tab), ("presage/scan.orders", laid_presage_scan_orders)], narrowed := true }
def TopAnswersUptoSaid : Prop := topAnswersUptoRow.holds Tryz.pinned (OpenSpec.upto topAnswersSpec)

/-- 'presagetop.TopOpen', WHERE WHAT IT READS IS OF BULK AT MOST 1048576: true; the input reads as it did. -/
def topOpenUptoRow : OpenClaim := { program := "ytaoaemnefghnbaagreatdoor", sum := "08400c5b71fcc360e5d1b3461074f21879e7487408fc059f58e91011fc6f56ec", func := "presage/presagetop.TopOpen", spec := "topOpen", inPlace := ["internal/bytealg.IndexByteString", "slices.overlaps[presage/api.Action]"], unfollowed := true, recurses := true, named := ["presage/scan.orders", "math/bits.deBruijn64tab"], plainKeys := false, apart := false, laid := [("math/bits.deBruijn64tab", laid_math_bits_deBruijn64tab), ("presage/scan.orders", laid_presage_scan_orders)], narrowed := true }
def TopOpenUptoSaid : Prop := topOpenUptoRow.holds Tryz.pinned (OpenSpec.upto topOpenSpec)

end Rows
end Go.Proofs.YtaoaemnefghnbaaGreatDoor
