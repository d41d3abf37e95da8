/-
  DERIVED. GIVEN WITH THE SEED: THE CARDS: each row of YtcapljamcepmkaaDoorRows.lean that lists a variable, with what it lists TIED to the program's text (the seventh form; the later family's looks); each row that meets fmt, with fmt's text TOLD by the authors' own Lean function (tested against real Go, not proved from fmt's source: count such statements apart). THE CARD IS WHAT COUNTS. Prove the row's statement (the work); the ties are given (YtcapljamcepmkaaDoorTie.lean); close each card by the builder's one call (the guide's Derived/Test/ToyasCard.lean, 'card_holds'). Laid BY PROGRAM, IN A SANDBOX (cutbox-door.mjs). By AI agents, Wed Nov 11 2026. No macro, syntax, notation, axiom, sorry.
-/
import Derived.Test.YtcapljamcepmkaaDoorRows
import GoSem.ClaimSeven
namespace Go.Proofs.YtcapljamcepmkaaDoor
namespace Rows

/-- THE TIED CARD OF 'presagelaw08.CycleHolds'. -/
def cycleHoldsCard : Claim7 := { stood := { row := cycleHoldsRow, standIns := [], harness := (true, "dc906413dfca4bf2da0e81cdb535be6bd8df56e59b72d14b4bc6a780d4497ed2"), looks := false }, kinds := [], alts := [], laidByText := true, laidKinds := [.data], laidTests := true, laidLooks := .later }
def CycleHoldsCardSaid : Prop := Claim7.holds Tryd.pinned (.plain (OpenSpec.ofChange cycleHoldsSpec)) cycleHoldsCard

/-- THE TIED CARD OF 'presagelaw08.CycleMore'. -/
def cycleMoreCard : Claim7 := { stood := { row := cycleMoreRow, standIns := [], harness := (true, "dc906413dfca4bf2da0e81cdb535be6bd8df56e59b72d14b4bc6a780d4497ed2"), looks := false }, kinds := [], alts := [], laidByText := true, laidKinds := [.data], laidTests := true, laidLooks := .later }
def CycleMoreCardSaid : Prop := Claim7.holds Tryd.pinned (.plain (OpenSpec.ofChange cycleMoreSpec)) cycleMoreCard

/-- THE TIED CARD OF 'presagelaw12.DigraphParts'. -/
def digraphPartsCard : Claim7 := { stood := { row := digraphPartsRow, standIns := [], harness := (true, "dc906413dfca4bf2da0e81cdb535be6bd8df56e59b72d14b4bc6a780d4497ed2"), looks := false }, kinds := [], alts := [], laidByText := true, laidKinds := [.data], laidTests := true, laidLooks := .later }
def DigraphPartsCardSaid : Prop := Claim7.holds Tryd.pinned (.plain (OpenSpec.ofChange digraphPartsSpec)) digraphPartsCard

/-- THE TIED CARD OF 'presagelaw12.DigraphSolves'. -/
def digraphSolvesCard : Claim7 := { stood := { row := digraphSolvesRow, standIns := [], harness := (true, "dc906413dfca4bf2da0e81cdb535be6bd8df56e59b72d14b4bc6a780d4497ed2"), looks := false }, kinds := [], alts := [], laidByText := true, laidKinds := [.data], laidTests := true, laidLooks := .later }
def DigraphSolvesCardSaid : Prop := Claim7.holds Tryd.pinned (.plain (OpenSpec.ofChange digraphSolvesSpec)) digraphSolvesCard

/-- THE TIED CARD OF 'presagelaw12.DigraphWays'. -/
def digraphWaysCard : Claim7 := { stood := { row := digraphWaysRow, standIns := [], harness := (true, "dc906413dfca4bf2da0e81cdb535be6bd8df56e59b72d14b4bc6a780d4497ed2"), looks := false }, kinds := [], alts := [], laidByText := true, laidKinds := [.data], laidTests := true, laidLooks := .later }
def DigraphWaysCardSaid : Prop := Claim7.holds Tryd.pinned (.plain (OpenSpec.ofChange digraphWaysSpec)) digraphWaysCard

/-- THE TIED CARD OF 'presagelaw12.DigraphLeast'. -/
def digraphLeastCard : Claim7 := { stood := { row := digraphLeastRow, standIns := [], harness := (true, "dc906413dfca4bf2da0e81cdb535be6bd8df56e59b72d14b4bc6a780d4497ed2"), looks := false }, kinds := [], alts := [], laidByText := true, laidKinds := [.data], laidTests := true, laidLooks := .later }
def DigraphLeastCardSaid : Prop := Claim7.holds Tryd.pinned (.plain (OpenSpec.ofChange digraphLeastSpec)) digraphLeastCard

/-- THE TIED CARD OF 'presagelaw12.DigraphTurned'. -/
def digraphTurnedCard : Claim7 := { stood := { row := digraphTurnedRow, standIns := [], harness := (true, "dc906413dfca4bf2da0e81cdb535be6bd8df56e59b72d14b4bc6a780d4497ed2"), looks := false }, kinds := [], alts := [], laidByText := true, laidKinds := [.data], laidTests := true, laidLooks := .later }
def DigraphTurnedCardSaid : Prop := Claim7.holds Tryd.pinned (.plain (OpenSpec.ofChange digraphTurnedSpec)) digraphTurnedCard

/-- THE SECOND FORM's CARD OF 'presagelaw08.CycleHolds'. -/
def cycleHoldsUptoCard : Claim7 := { stood := { row := cycleHoldsUptoRow, standIns := [], harness := (true, "dc906413dfca4bf2da0e81cdb535be6bd8df56e59b72d14b4bc6a780d4497ed2"), looks := false }, kinds := [], alts := [], laidByText := true, laidKinds := [.data], laidTests := true, laidLooks := .later }
def CycleHoldsUptoCardSaid : Prop := Claim7.holds Tryd.pinned (.plain (OpenSpec.upto cycleHoldsSpec)) cycleHoldsUptoCard

/-- THE SECOND FORM's CARD OF 'presagelaw08.CycleMore'. -/
def cycleMoreUptoCard : Claim7 := { stood := { row := cycleMoreUptoRow, standIns := [], harness := (true, "dc906413dfca4bf2da0e81cdb535be6bd8df56e59b72d14b4bc6a780d4497ed2"), looks := false }, kinds := [], alts := [], laidByText := true, laidKinds := [.data], laidTests := true, laidLooks := .later }
def CycleMoreUptoCardSaid : Prop := Claim7.holds Tryd.pinned (.plain (OpenSpec.upto cycleMoreSpec)) cycleMoreUptoCard

/-- THE SECOND FORM's CARD OF 'presagelaw12.DigraphParts'. -/
def digraphPartsUptoCard : Claim7 := { stood := { row := digraphPartsUptoRow, standIns := [], harness := (true, "dc906413dfca4bf2da0e81cdb535be6bd8df56e59b72d14b4bc6a780d4497ed2"), looks := false }, kinds := [], alts := [], laidByText := true, laidKinds := [.data], laidTests := true, laidLooks := .later }
def DigraphPartsUptoCardSaid : Prop := Claim7.holds Tryd.pinned (.plain (OpenSpec.upto digraphPartsSpec)) digraphPartsUptoCard

/-- THE SECOND FORM's CARD OF 'presagelaw12.DigraphSolves'. -/
def digraphSolvesUptoCard : Claim7 := { stood := { row := digraphSolvesUptoRow, standIns := [], harness := (true, "dc906413dfca4bf2da0e81cdb535be6bd8df56e59b72d14b4bc6a780d4497ed2"), looks := false }, kinds := [], alts := [], laidByText := true, laidKinds := [.data], laidTests := true, laidLooks := .later }
def DigraphSolvesUptoCardSaid : Prop := Claim7.holds Tryd.pinned (.plain (OpenSpec.upto digraphSolvesSpec)) digraphSolvesUptoCard

/-- THE SECOND FORM's CARD OF 'presagelaw12.DigraphWays'. -/
def digraphWaysUptoCard : Claim7 := { stood := { row := digraphWaysUptoRow, standIns := [], harness := (true, "dc906413dfca4bf2da0e81cdb535be6bd8df56e59b72d14b4bc6a780d4497ed2"), looks := false }, kinds := [], alts := [], laidByText := true, laidKinds := [.data], laidTests := true, laidLooks := .later }
def DigraphWaysUptoCardSaid : Prop := Claim7.holds Tryd.pinned (.plain (OpenSpec.upto digraphWaysSpec)) digraphWaysUptoCard

/-- THE SECOND FORM's CARD OF 'presagelaw12.DigraphLeast'. -/
def digraphLeastUptoCard : Claim7 := { stood := { row := digraphLeastUptoRow, standIns := [], harness := (true, "dc906413dfca4bf2da0e81cdb535be6bd8df56e59b72d14b4bc6a780d4497ed2"), looks := false }, kinds := [], alts := [], laidByText := true, laidKinds := [.data], laidTests := true, laidLooks := .later }
def DigraphLeastUptoCardSaid : Prop := Claim7.holds Tryd.pinned (.plain (OpenSpec.upto digraphLeastSpec)) digraphLeastUptoCard

/-- THE SECOND FORM's CARD OF 'presagelaw12.DigraphTurned'. -/
def digraphTurnedUptoCard : Claim7 := { stood := { row := digraphTurnedUptoRow, standIns := [], harness := (true, "dc906413dfca4bf2da0e81cdb535be6bd8df56e59b72d14b4bc6a780d4497ed2"), looks := false }, kinds := [], alts := [], laidByText := true, laidKinds := [.data], laidTests := true, laidLooks := .later }
def DigraphTurnedUptoCardSaid : Prop := Claim7.holds Tryd.pinned (.plain (OpenSpec.upto digraphTurnedSpec)) digraphTurnedUptoCard
end Rows
end Go.Proofs.YtcapljamcepmkaaDoor
