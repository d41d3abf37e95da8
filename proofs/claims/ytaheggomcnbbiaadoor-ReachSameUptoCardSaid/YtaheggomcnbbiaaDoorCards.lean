/-
  DERIVED. GIVEN WITH THE SEED: THE CARDS: each row of YtaheggomcnbbiaaDoorRows.lean that lists a variable, with what it lists TIED to the program's text (the seventh form; the later family's looks); each row that meets fmt, with fmt's text TOLD by the authors' own Lean function (tested against real Go, not proved from fmt's source: count such statements apart). THE CARD IS WHAT COUNTS. Prove the row's statement (the work); the ties are given (YtaheggomcnbbiaaDoorTie.lean); close each card by the builder's one call (the guide's Derived/Test/ToyasCard.lean, 'card_holds'). Laid BY PROGRAM, IN A SANDBOX (cutbox-door.mjs). By AI agents, Wed Nov 11 2026. No macro, syntax, notation, axiom, sorry.
-/
import Derived.Test.YtaheggomcnbbiaaDoorRows
import GoSem.ClaimSeven
namespace Go.Proofs.YtaheggomcnbbiaaDoor
namespace Rows

/-- THE TIED CARD OF 'presagelaw07.FirstExact'. -/
def firstExactCard : Claim7 := { stood := { row := firstExactRow, standIns := [], harness := (true, "8759ac4448a1d679291727f6fa910e1544cf001fa70fc2ce83ba9bd467b789b8"), looks := false }, kinds := [], alts := [], laidByText := true, laidKinds := [.data], laidTests := true, laidLooks := .later }
def FirstExactCardSaid : Prop := Claim7.holds Tryd.pinned (.plain (OpenSpec.ofChange firstExactSpec)) firstExactCard

/-- THE TIED CARD OF 'presagelaw07.FirstRows'. -/
def firstRowsCard : Claim7 := { stood := { row := firstRowsRow, standIns := [], harness := (true, "8759ac4448a1d679291727f6fa910e1544cf001fa70fc2ce83ba9bd467b789b8"), looks := false }, kinds := [], alts := [], laidByText := true, laidKinds := [.data], laidTests := true, laidLooks := .later }
def FirstRowsCardSaid : Prop := Claim7.holds Tryd.pinned (.plain (OpenSpec.ofChange firstRowsSpec)) firstRowsCard

/-- THE TIED CARD OF 'presagelaw07.FirstProds'. -/
def firstProdsCard : Claim7 := { stood := { row := firstProdsRow, standIns := [], harness := (true, "8759ac4448a1d679291727f6fa910e1544cf001fa70fc2ce83ba9bd467b789b8"), looks := false }, kinds := [], alts := [], laidByText := true, laidKinds := [.data], laidTests := true, laidLooks := .later }
def FirstProdsCardSaid : Prop := Claim7.holds Tryd.pinned (.plain (OpenSpec.ofChange firstProdsSpec)) firstProdsCard

/-- THE TIED CARD OF 'presagelaw07.FirstLeast'. -/
def firstLeastCard : Claim7 := { stood := { row := firstLeastRow, standIns := [], harness := (true, "8759ac4448a1d679291727f6fa910e1544cf001fa70fc2ce83ba9bd467b789b8"), looks := false }, kinds := [], alts := [], laidByText := true, laidKinds := [.data], laidTests := true, laidLooks := .later }
def FirstLeastCardSaid : Prop := Claim7.holds Tryd.pinned (.plain (OpenSpec.ofChange firstLeastSpec)) firstLeastCard

/-- THE TIED CARD OF 'presagelaw07.FirstGrows'. -/
def firstGrowsCard : Claim7 := { stood := { row := firstGrowsRow, standIns := [], harness := (true, "8759ac4448a1d679291727f6fa910e1544cf001fa70fc2ce83ba9bd467b789b8"), looks := false }, kinds := [], alts := [], laidByText := true, laidKinds := [.data], laidTests := true, laidLooks := .later }
def FirstGrowsCardSaid : Prop := Claim7.holds Tryd.pinned (.plain (OpenSpec.ofChange firstGrowsSpec)) firstGrowsCard

/-- THE TIED CARD OF 'presagelaw06.ReachReduces'. -/
def reachReducesCard : Claim7 := { stood := { row := reachReducesRow, standIns := [], harness := (true, "8759ac4448a1d679291727f6fa910e1544cf001fa70fc2ce83ba9bd467b789b8"), looks := false }, kinds := [], alts := [], laidByText := true, laidKinds := [.data], laidTests := true, laidLooks := .later }
def ReachReducesCardSaid : Prop := Claim7.holds Tryd.pinned (.plain (OpenSpec.ofChange reachReducesSpec)) reachReducesCard

/-- THE TIED CARD OF 'presagelaw06.ReachSame'. -/
def reachSameCard : Claim7 := { stood := { row := reachSameRow, standIns := [], harness := (true, "8759ac4448a1d679291727f6fa910e1544cf001fa70fc2ce83ba9bd467b789b8"), looks := false }, kinds := [], alts := [], laidByText := true, laidKinds := [.data], laidTests := true, laidLooks := .later }
def ReachSameCardSaid : Prop := Claim7.holds Tryd.pinned (.plain (OpenSpec.ofChange reachSameSpec)) reachSameCard

/-- THE TIED CARD OF 'presagelaw06.ReachMore'. -/
def reachMoreCard : Claim7 := { stood := { row := reachMoreRow, standIns := [], harness := (true, "8759ac4448a1d679291727f6fa910e1544cf001fa70fc2ce83ba9bd467b789b8"), looks := false }, kinds := [], alts := [], laidByText := true, laidKinds := [.data], laidTests := true, laidLooks := .later }
def ReachMoreCardSaid : Prop := Claim7.holds Tryd.pinned (.plain (OpenSpec.ofChange reachMoreSpec)) reachMoreCard

/-- THE TIED CARD OF 'presagelaw06.ReachMarks'. -/
def reachMarksCard : Claim7 := { stood := { row := reachMarksRow, standIns := [], harness := (true, "8759ac4448a1d679291727f6fa910e1544cf001fa70fc2ce83ba9bd467b789b8"), looks := false }, kinds := [], alts := [], laidByText := true, laidKinds := [.data], laidTests := true, laidLooks := .later }
def ReachMarksCardSaid : Prop := Claim7.holds Tryd.pinned (.plain (OpenSpec.ofChange reachMarksSpec)) reachMarksCard

/-- THE TIED CARD OF 'presagelaw06.ReachParts'. -/
def reachPartsCard : Claim7 := { stood := { row := reachPartsRow, standIns := [], harness := (true, "8759ac4448a1d679291727f6fa910e1544cf001fa70fc2ce83ba9bd467b789b8"), looks := false }, kinds := [], alts := [], laidByText := true, laidKinds := [.data], laidTests := true, laidLooks := .later }
def ReachPartsCardSaid : Prop := Claim7.holds Tryd.pinned (.plain (OpenSpec.ofChange reachPartsSpec)) reachPartsCard

/-- THE SECOND FORM's CARD OF 'presagelaw07.FirstExact'. -/
def firstExactUptoCard : Claim7 := { stood := { row := firstExactUptoRow, standIns := [], harness := (true, "8759ac4448a1d679291727f6fa910e1544cf001fa70fc2ce83ba9bd467b789b8"), looks := false }, kinds := [], alts := [], laidByText := true, laidKinds := [.data], laidTests := true, laidLooks := .later }
def FirstExactUptoCardSaid : Prop := Claim7.holds Tryd.pinned (.plain (OpenSpec.upto firstExactSpec)) firstExactUptoCard

/-- THE SECOND FORM's CARD OF 'presagelaw07.FirstRows'. -/
def firstRowsUptoCard : Claim7 := { stood := { row := firstRowsUptoRow, standIns := [], harness := (true, "8759ac4448a1d679291727f6fa910e1544cf001fa70fc2ce83ba9bd467b789b8"), looks := false }, kinds := [], alts := [], laidByText := true, laidKinds := [.data], laidTests := true, laidLooks := .later }
def FirstRowsUptoCardSaid : Prop := Claim7.holds Tryd.pinned (.plain (OpenSpec.upto firstRowsSpec)) firstRowsUptoCard

/-- THE SECOND FORM's CARD OF 'presagelaw07.FirstProds'. -/
def firstProdsUptoCard : Claim7 := { stood := { row := firstProdsUptoRow, standIns := [], harness := (true, "8759ac4448a1d679291727f6fa910e1544cf001fa70fc2ce83ba9bd467b789b8"), looks := false }, kinds := [], alts := [], laidByText := true, laidKinds := [.data], laidTests := true, laidLooks := .later }
def FirstProdsUptoCardSaid : Prop := Claim7.holds Tryd.pinned (.plain (OpenSpec.upto firstProdsSpec)) firstProdsUptoCard

/-- THE SECOND FORM's CARD OF 'presagelaw07.FirstLeast'. -/
def firstLeastUptoCard : Claim7 := { stood := { row := firstLeastUptoRow, standIns := [], harness := (true, "8759ac4448a1d679291727f6fa910e1544cf001fa70fc2ce83ba9bd467b789b8"), looks := false }, kinds := [], alts := [], laidByText := true, laidKinds := [.data], laidTests := true, laidLooks := .later }
def FirstLeastUptoCardSaid : Prop := Claim7.holds Tryd.pinned (.plain (OpenSpec.upto firstLeastSpec)) firstLeastUptoCard

/-- THE SECOND FORM's CARD OF 'presagelaw07.FirstGrows'. -/
def firstGrowsUptoCard : Claim7 := { stood := { row := firstGrowsUptoRow, standIns := [], harness := (true, "8759ac4448a1d679291727f6fa910e1544cf001fa70fc2ce83ba9bd467b789b8"), looks := false }, kinds := [], alts := [], laidByText := true, laidKinds := [.data], laidTests := true, laidLooks := .later }
def FirstGrowsUptoCardSaid : Prop := Claim7.holds Tryd.pinned (.plain (OpenSpec.upto firstGrowsSpec)) firstGrowsUptoCard

/-- THE SECOND FORM's CARD OF 'presagelaw06.ReachReduces'. -/
def reachReducesUptoCard : Claim7 := { stood := { row := reachReducesUptoRow, standIns := [], harness := (true, "8759ac4448a1d679291727f6fa910e1544cf001fa70fc2ce83ba9bd467b789b8"), looks := false }, kinds := [], alts := [], laidByText := true, laidKinds := [.data], laidTests := true, laidLooks := .later }
def ReachReducesUptoCardSaid : Prop := Claim7.holds Tryd.pinned (.plain (OpenSpec.upto reachReducesSpec)) reachReducesUptoCard

/-- THE SECOND FORM's CARD OF 'presagelaw06.ReachSame'. -/
def reachSameUptoCard : Claim7 := { stood := { row := reachSameUptoRow, standIns := [], harness := (true, "8759ac4448a1d679291727f6fa910e1544cf001fa70fc2ce83ba9bd467b789b8"), looks := false }, kinds := [], alts := [], laidByText := true, laidKinds := [.data], laidTests := true, laidLooks := .later }
def ReachSameUptoCardSaid : Prop := Claim7.holds Tryd.pinned (.plain (OpenSpec.upto reachSameSpec)) reachSameUptoCard

/-- THE SECOND FORM's CARD OF 'presagelaw06.ReachMore'. -/
def reachMoreUptoCard : Claim7 := { stood := { row := reachMoreUptoRow, standIns := [], harness := (true, "8759ac4448a1d679291727f6fa910e1544cf001fa70fc2ce83ba9bd467b789b8"), looks := false }, kinds := [], alts := [], laidByText := true, laidKinds := [.data], laidTests := true, laidLooks := .later }
def ReachMoreUptoCardSaid : Prop := Claim7.holds Tryd.pinned (.plain (OpenSpec.upto reachMoreSpec)) reachMoreUptoCard

/-- THE SECOND FORM's CARD OF 'presagelaw06.ReachMarks'. -/
def reachMarksUptoCard : Claim7 := { stood := { row := reachMarksUptoRow, standIns := [], harness := (true, "8759ac4448a1d679291727f6fa910e1544cf001fa70fc2ce83ba9bd467b789b8"), looks := false }, kinds := [], alts := [], laidByText := true, laidKinds := [.data], laidTests := true, laidLooks := .later }
def ReachMarksUptoCardSaid : Prop := Claim7.holds Tryd.pinned (.plain (OpenSpec.upto reachMarksSpec)) reachMarksUptoCard

/-- THE SECOND FORM's CARD OF 'presagelaw06.ReachParts'. -/
def reachPartsUptoCard : Claim7 := { stood := { row := reachPartsUptoRow, standIns := [], harness := (true, "8759ac4448a1d679291727f6fa910e1544cf001fa70fc2ce83ba9bd467b789b8"), looks := false }, kinds := [], alts := [], laidByText := true, laidKinds := [.data], laidTests := true, laidLooks := .later }
def ReachPartsUptoCardSaid : Prop := Claim7.holds Tryd.pinned (.plain (OpenSpec.upto reachPartsSpec)) reachPartsUptoCard
end Rows
end Go.Proofs.YtaheggomcnbbiaaDoor
