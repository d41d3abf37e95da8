/-
  DERIVED. GIVEN WITH THE SEED: THE CARDS: each row of YtngdohpikfcifaaGreatDoorRows.lean that lists a variable, with what it lists TIED to the program's text (the seventh form; the later family's looks); each row that meets fmt, with fmt's text TOLD by the authors' own Lean function (tested against real Go, not proved from fmt's source: count such statements apart). THE CARD IS WHAT COUNTS. Prove the row's statement (the work); the ties are given (YtngdohpikfcifaaGreatDoorTie.lean); close each card by the builder's one call (the guide's Derived/Test/ToyasCard.lean, 'card_holds'). Laid BY PROGRAM, IN A SANDBOX (cutbox-door.mjs). By AI agents, Wed Nov 11 2026. No macro, syntax, notation, axiom, sorry.
-/
import Derived.Test.YtngdohpikfcifaaGreatDoorRows
import GoSem.ClaimSeven
namespace Go.Proofs.YtngdohpikfcifaaGreatDoor
namespace Rows

/-- THE TIED CARD OF 'presagelaw13.LookExact'. -/
def lookExactCard : Claim7 := { stood := { row := lookExactRow, standIns := [], harness := (true, "0d21c605417bdcab6af7c2cd7e51dba10da23e46725d42bc0d7071e71a698427"), looks := false }, kinds := [], alts := [], laidByText := true, laidKinds := [.data], laidTests := true, laidLooks := .later }
def LookExactCardSaid : Prop := Claim7.holds Tryz.pinned (.plain (OpenSpec.ofChange lookExactSpec)) lookExactCard

/-- THE TIED CARD OF 'presagelaw13.LookSolves'. -/
def lookSolvesCard : Claim7 := { stood := { row := lookSolvesRow, standIns := [], harness := (true, "0d21c605417bdcab6af7c2cd7e51dba10da23e46725d42bc0d7071e71a698427"), looks := false }, kinds := [], alts := [], laidByText := true, laidKinds := [.data], laidTests := true, laidLooks := .later }
def LookSolvesCardSaid : Prop := Claim7.holds Tryz.pinned (.plain (OpenSpec.ofChange lookSolvesSpec)) lookSolvesCard

/-- THE TIED CARD OF 'presagelaw13.LookWithin'. -/
def lookWithinCard : Claim7 := { stood := { row := lookWithinRow, standIns := [], harness := (true, "0d21c605417bdcab6af7c2cd7e51dba10da23e46725d42bc0d7071e71a698427"), looks := false }, kinds := [], alts := [], laidByText := true, laidKinds := [.data], laidTests := true, laidLooks := .later }
def LookWithinCardSaid : Prop := Claim7.holds Tryz.pinned (.plain (OpenSpec.ofChange lookWithinSpec)) lookWithinCard

/-- THE TIED CARD OF 'presagelaw13.LookBegins'. -/
def lookBeginsCard : Claim7 := { stood := { row := lookBeginsRow, standIns := [], harness := (true, "0d21c605417bdcab6af7c2cd7e51dba10da23e46725d42bc0d7071e71a698427"), looks := false }, kinds := [], alts := [], laidByText := true, laidKinds := [.data], laidTests := true, laidLooks := .later }
def LookBeginsCardSaid : Prop := Claim7.holds Tryz.pinned (.plain (OpenSpec.ofChange lookBeginsSpec)) lookBeginsCard

/-- THE SECOND FORM's CARD OF 'presagelaw13.LookExact'. -/
def lookExactUptoCard : Claim7 := { stood := { row := lookExactUptoRow, standIns := [], harness := (true, "0d21c605417bdcab6af7c2cd7e51dba10da23e46725d42bc0d7071e71a698427"), looks := false }, kinds := [], alts := [], laidByText := true, laidKinds := [.data], laidTests := true, laidLooks := .later }
def LookExactUptoCardSaid : Prop := Claim7.holds Tryz.pinned (.plain (OpenSpec.upto lookExactSpec)) lookExactUptoCard

/-- THE SECOND FORM's CARD OF 'presagelaw13.LookSolves'. -/
def lookSolvesUptoCard : Claim7 := { stood := { row := lookSolvesUptoRow, standIns := [], harness := (true, "0d21c605417bdcab6af7c2cd7e51dba10da23e46725d42bc0d7071e71a698427"), looks := false }, kinds := [], alts := [], laidByText := true, laidKinds := [.data], laidTests := true, laidLooks := .later }
def LookSolvesUptoCardSaid : Prop := Claim7.holds Tryz.pinned (.plain (OpenSpec.upto lookSolvesSpec)) lookSolvesUptoCard

/-- THE SECOND FORM's CARD OF 'presagelaw13.LookWithin'. -/
def lookWithinUptoCard : Claim7 := { stood := { row := lookWithinUptoRow, standIns := [], harness := (true, "0d21c605417bdcab6af7c2cd7e51dba10da23e46725d42bc0d7071e71a698427"), looks := false }, kinds := [], alts := [], laidByText := true, laidKinds := [.data], laidTests := true, laidLooks := .later }
def LookWithinUptoCardSaid : Prop := Claim7.holds Tryz.pinned (.plain (OpenSpec.upto lookWithinSpec)) lookWithinUptoCard

/-- THE SECOND FORM's CARD OF 'presagelaw13.LookBegins'. -/
def lookBeginsUptoCard : Claim7 := { stood := { row := lookBeginsUptoRow, standIns := [], harness := (true, "0d21c605417bdcab6af7c2cd7e51dba10da23e46725d42bc0d7071e71a698427"), looks := false }, kinds := [], alts := [], laidByText := true, laidKinds := [.data], laidTests := true, laidLooks := .later }
def LookBeginsUptoCardSaid : Prop := Claim7.holds Tryz.pinned (.plain (OpenSpec.upto lookBeginsSpec)) lookBeginsUptoCard
end Rows
end Go.Proofs.YtngdohpikfcifaaGreatDoor
