/-
  DERIVED. GIVEN WITH THE SEED: THE CARDS: each row of YtkmjjnjngcpjmaaGreatDoorRows.lean that lists a variable, with what it lists TIED to the program's text (the seventh form; the later family's looks); each row that meets fmt, with fmt's text TOLD by the authors' own Lean function (tested against real Go, not proved from fmt's source: count such statements apart). THE CARD IS WHAT COUNTS. Prove the row's statement (the work); the ties are given (YtkmjjnjngcpjmaaGreatDoorTie.lean); close each card by the builder's one call (the guide's Derived/Test/ToyasCard.lean, 'card_holds'). Laid BY PROGRAM, IN A SANDBOX (cutbox-door.mjs). By AI agents, Wed Nov 11 2026. No macro, syntax, notation, axiom, sorry.
-/
import Derived.Test.YtkmjjnjngcpjmaaGreatDoorRows
import GoSem.ClaimSeven
namespace Go.Proofs.YtkmjjnjngcpjmaaGreatDoor
namespace Rows

/-- THE TIED CARD OF 'presagelaw11.RelateExact'. -/
def relateExactCard : Claim7 := { stood := { row := relateExactRow, standIns := [], harness := (true, "5644f612d6bc2f53d34505ba112fc92b20d6efd0a0f42ccf234f2362062c0571"), looks := false }, kinds := [], alts := [], laidByText := true, laidKinds := [.data], laidTests := true, laidLooks := .later }
def RelateExactCardSaid : Prop := Claim7.holds Tryz.pinned (.plain (OpenSpec.ofChange relateExactSpec)) relateExactCard

/-- THE TIED CARD OF 'presagelaw11.RelateBacks'. -/
def relateBacksCard : Claim7 := { stood := { row := relateBacksRow, standIns := [], harness := (true, "5644f612d6bc2f53d34505ba112fc92b20d6efd0a0f42ccf234f2362062c0571"), looks := false }, kinds := [], alts := [], laidByText := true, laidKinds := [.data], laidTests := true, laidLooks := .later }
def RelateBacksCardSaid : Prop := Claim7.holds Tryz.pinned (.plain (OpenSpec.ofChange relateBacksSpec)) relateBacksCard

/-- THE TIED CARD OF 'presagelaw11.RelateReads'. -/
def relateReadsCard : Claim7 := { stood := { row := relateReadsRow, standIns := [], harness := (true, "5644f612d6bc2f53d34505ba112fc92b20d6efd0a0f42ccf234f2362062c0571"), looks := false }, kinds := [], alts := [], laidByText := true, laidKinds := [.data], laidTests := true, laidLooks := .later }
def RelateReadsCardSaid : Prop := Claim7.holds Tryz.pinned (.plain (OpenSpec.ofChange relateReadsSpec)) relateReadsCard

/-- THE TIED CARD OF 'presagelaw11.RelateIncludes'. -/
def relateIncludesCard : Claim7 := { stood := { row := relateIncludesRow, standIns := [], harness := (true, "5644f612d6bc2f53d34505ba112fc92b20d6efd0a0f42ccf234f2362062c0571"), looks := false }, kinds := [], alts := [], laidByText := true, laidKinds := [.data], laidTests := true, laidLooks := .later }
def RelateIncludesCardSaid : Prop := Claim7.holds Tryz.pinned (.plain (OpenSpec.ofChange relateIncludesSpec)) relateIncludesCard

/-- THE SECOND FORM's CARD OF 'presagelaw11.RelateExact'. -/
def relateExactUptoCard : Claim7 := { stood := { row := relateExactUptoRow, standIns := [], harness := (true, "5644f612d6bc2f53d34505ba112fc92b20d6efd0a0f42ccf234f2362062c0571"), looks := false }, kinds := [], alts := [], laidByText := true, laidKinds := [.data], laidTests := true, laidLooks := .later }
def RelateExactUptoCardSaid : Prop := Claim7.holds Tryz.pinned (.plain (OpenSpec.upto relateExactSpec)) relateExactUptoCard

/-- THE SECOND FORM's CARD OF 'presagelaw11.RelateBacks'. -/
def relateBacksUptoCard : Claim7 := { stood := { row := relateBacksUptoRow, standIns := [], harness := (true, "5644f612d6bc2f53d34505ba112fc92b20d6efd0a0f42ccf234f2362062c0571"), looks := false }, kinds := [], alts := [], laidByText := true, laidKinds := [.data], laidTests := true, laidLooks := .later }
def RelateBacksUptoCardSaid : Prop := Claim7.holds Tryz.pinned (.plain (OpenSpec.upto relateBacksSpec)) relateBacksUptoCard

/-- THE SECOND FORM's CARD OF 'presagelaw11.RelateReads'. -/
def relateReadsUptoCard : Claim7 := { stood := { row := relateReadsUptoRow, standIns := [], harness := (true, "5644f612d6bc2f53d34505ba112fc92b20d6efd0a0f42ccf234f2362062c0571"), looks := false }, kinds := [], alts := [], laidByText := true, laidKinds := [.data], laidTests := true, laidLooks := .later }
def RelateReadsUptoCardSaid : Prop := Claim7.holds Tryz.pinned (.plain (OpenSpec.upto relateReadsSpec)) relateReadsUptoCard

/-- THE SECOND FORM's CARD OF 'presagelaw11.RelateIncludes'. -/
def relateIncludesUptoCard : Claim7 := { stood := { row := relateIncludesUptoRow, standIns := [], harness := (true, "5644f612d6bc2f53d34505ba112fc92b20d6efd0a0f42ccf234f2362062c0571"), looks := false }, kinds := [], alts := [], laidByText := true, laidKinds := [.data], laidTests := true, laidLooks := .later }
def RelateIncludesUptoCardSaid : Prop := Claim7.holds Tryz.pinned (.plain (OpenSpec.upto relateIncludesSpec)) relateIncludesUptoCard
end Rows
end Go.Proofs.YtkmjjnjngcpjmaaGreatDoor
