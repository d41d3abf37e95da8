/-
  DERIVED. GIVEN WITH THE SEED: THE CARDS: each row of YtcipljcagejjaaaDoorRows.lean that lists a variable, with what it lists TIED to the program's text (the seventh form; the later family's looks); each row that meets fmt, with fmt's text TOLD by the authors' own Lean function (tested against real Go, not proved from fmt's source: count such statements apart). THE CARD IS WHAT COUNTS. Prove the row's statement (the work); the ties are given (YtcipljcagejjaaaDoorTie.lean); close each card by the builder's one call (the guide's Derived/Test/ToyasCard.lean, 'card_holds'). Laid BY PROGRAM, IN A SANDBOX (cutbox-door.mjs). By AI agents, Wed Nov 11 2026. No macro, syntax, notation, axiom, sorry.
-/
import Derived.Test.YtcipljcagejjaaaDoorRows
import GoSem.ClaimSeven
namespace Go.Proofs.YtcipljcagejjaaaDoor
namespace Rows

/-- THE TIED CARD OF 'presagelaw01.BitsGoes'. -/
def bitsGoesCard : Claim7 := { stood := { row := bitsGoesRow, standIns := [], harness := (true, "1e02abd13f74aa0422a87558fd8163ec46ae3d41abbc492fa37f1895140e7676"), looks := false }, kinds := [], alts := [], laidByText := true, laidKinds := [.data], laidTests := true, laidLooks := .later }
def BitsGoesCardSaid : Prop := Claim7.holds Tryd.pinned (.plain (OpenSpec.ofChange bitsGoesSpec)) bitsGoesCard

/-- THE TIED CARD OF 'presagelaw01.BitsPlays'. -/
def bitsPlaysCard : Claim7 := { stood := { row := bitsPlaysRow, standIns := [], harness := (true, "1e02abd13f74aa0422a87558fd8163ec46ae3d41abbc492fa37f1895140e7676"), looks := false }, kinds := [], alts := [], laidByText := true, laidKinds := [.data], laidTests := true, laidLooks := .later }
def BitsPlaysCardSaid : Prop := Claim7.holds Tryd.pinned (.plain (OpenSpec.ofChange bitsPlaysSpec)) bitsPlaysCard

/-- THE TIED CARD OF 'presagelaw01.BitsUnions'. -/
def bitsUnionsCard : Claim7 := { stood := { row := bitsUnionsRow, standIns := [], harness := (true, "1e02abd13f74aa0422a87558fd8163ec46ae3d41abbc492fa37f1895140e7676"), looks := false }, kinds := [], alts := [], laidByText := true, laidKinds := [.data], laidTests := true, laidLooks := .later }
def BitsUnionsCardSaid : Prop := Claim7.holds Tryd.pinned (.plain (OpenSpec.ofChange bitsUnionsSpec)) bitsUnionsCard

/-- THE TIED CARD OF 'presagelaw01.BitsNothing'. -/
def bitsNothingCard : Claim7 := { stood := { row := bitsNothingRow, standIns := [], harness := (true, "1e02abd13f74aa0422a87558fd8163ec46ae3d41abbc492fa37f1895140e7676"), looks := false }, kinds := [], alts := [], laidByText := true, laidKinds := [.data], laidTests := true, laidLooks := .later }
def BitsNothingCardSaid : Prop := Claim7.holds Tryd.pinned (.plain (OpenSpec.ofChange bitsNothingSpec)) bitsNothingCard

/-- THE SECOND FORM's CARD OF 'presagelaw01.BitsGoes'. -/
def bitsGoesUptoCard : Claim7 := { stood := { row := bitsGoesUptoRow, standIns := [], harness := (true, "1e02abd13f74aa0422a87558fd8163ec46ae3d41abbc492fa37f1895140e7676"), looks := false }, kinds := [], alts := [], laidByText := true, laidKinds := [.data], laidTests := true, laidLooks := .later }
def BitsGoesUptoCardSaid : Prop := Claim7.holds Tryd.pinned (.plain (OpenSpec.upto bitsGoesSpec)) bitsGoesUptoCard

/-- THE SECOND FORM's CARD OF 'presagelaw01.BitsPlays'. -/
def bitsPlaysUptoCard : Claim7 := { stood := { row := bitsPlaysUptoRow, standIns := [], harness := (true, "1e02abd13f74aa0422a87558fd8163ec46ae3d41abbc492fa37f1895140e7676"), looks := false }, kinds := [], alts := [], laidByText := true, laidKinds := [.data], laidTests := true, laidLooks := .later }
def BitsPlaysUptoCardSaid : Prop := Claim7.holds Tryd.pinned (.plain (OpenSpec.upto bitsPlaysSpec)) bitsPlaysUptoCard

/-- THE SECOND FORM's CARD OF 'presagelaw01.BitsUnions'. -/
def bitsUnionsUptoCard : Claim7 := { stood := { row := bitsUnionsUptoRow, standIns := [], harness := (true, "1e02abd13f74aa0422a87558fd8163ec46ae3d41abbc492fa37f1895140e7676"), looks := false }, kinds := [], alts := [], laidByText := true, laidKinds := [.data], laidTests := true, laidLooks := .later }
def BitsUnionsUptoCardSaid : Prop := Claim7.holds Tryd.pinned (.plain (OpenSpec.upto bitsUnionsSpec)) bitsUnionsUptoCard

/-- THE SECOND FORM's CARD OF 'presagelaw01.BitsNothing'. -/
def bitsNothingUptoCard : Claim7 := { stood := { row := bitsNothingUptoRow, standIns := [], harness := (true, "1e02abd13f74aa0422a87558fd8163ec46ae3d41abbc492fa37f1895140e7676"), looks := false }, kinds := [], alts := [], laidByText := true, laidKinds := [.data], laidTests := true, laidLooks := .later }
def BitsNothingUptoCardSaid : Prop := Claim7.holds Tryd.pinned (.plain (OpenSpec.upto bitsNothingSpec)) bitsNothingUptoCard
end Rows
end Go.Proofs.YtcipljcagejjaaaDoor
