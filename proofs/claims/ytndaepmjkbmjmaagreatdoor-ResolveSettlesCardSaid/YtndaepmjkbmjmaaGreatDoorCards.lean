/-
  DERIVED. GIVEN WITH THE SEED: THE CARDS: each row of YtndaepmjkbmjmaaGreatDoorRows.lean that lists a variable, with what it lists TIED to the program's text (the seventh form; the later family's looks); each row that meets fmt, with fmt's text TOLD by the authors' own Lean function (tested against real Go, not proved from fmt's source: count such statements apart). THE CARD IS WHAT COUNTS. Prove the row's statement (the work); the ties are given (YtndaepmjkbmjmaaGreatDoorTie.lean); close each card by the builder's one call (the guide's Derived/Test/ToyasCard.lean, 'card_holds'). Laid BY PROGRAM, IN A SANDBOX (cutbox-door.mjs). By AI agents, Wed Nov 11 2026. No macro, syntax, notation, axiom, sorry.
-/
import Derived.Test.YtndaepmjkbmjmaaGreatDoorRows
import GoSem.ClaimSeven
namespace Go.Proofs.YtndaepmjkbmjmaaGreatDoor
namespace Rows

/-- THE TIED CARD OF 'presagelaw14.TableMerges'. -/
def tableMergesCard : Claim7 := { stood := { row := tableMergesRow, standIns := [], harness := (true, "914108409d80ed017965fe4337b5a9684c9206316fee66198a7dcefc48937f03"), looks := false }, kinds := [], alts := [], laidByText := true, laidKinds := [.data], laidTests := true, laidLooks := .later }
def TableMergesCardSaid : Prop := Claim7.holds Tryz.pinned (.plain (OpenSpec.ofChange tableMergesSpec)) tableMergesCard

/-- THE TIED CARD OF 'presagelaw14.TableClashes'. -/
def tableClashesCard : Claim7 := { stood := { row := tableClashesRow, standIns := [], harness := (true, "914108409d80ed017965fe4337b5a9684c9206316fee66198a7dcefc48937f03"), looks := false }, kinds := [], alts := [], laidByText := true, laidKinds := [.data], laidTests := true, laidLooks := .later }
def TableClashesCardSaid : Prop := Claim7.holds Tryz.pinned (.plain (OpenSpec.ofChange tableClashesSpec)) tableClashesCard

/-- THE TIED CARD OF 'presagelaw14.TableAsks'. -/
def tableAsksCard : Claim7 := { stood := { row := tableAsksRow, standIns := [], harness := (true, "914108409d80ed017965fe4337b5a9684c9206316fee66198a7dcefc48937f03"), looks := false }, kinds := [], alts := [], laidByText := true, laidKinds := [.data], laidTests := true, laidLooks := .later }
def TableAsksCardSaid : Prop := Claim7.holds Tryz.pinned (.plain (OpenSpec.ofChange tableAsksSpec)) tableAsksCard

/-- THE TIED CARD OF 'presagelaw14.TableFits'. -/
def tableFitsCard : Claim7 := { stood := { row := tableFitsRow, standIns := [], harness := (true, "914108409d80ed017965fe4337b5a9684c9206316fee66198a7dcefc48937f03"), looks := false }, kinds := [], alts := [], laidByText := true, laidKinds := [.data], laidTests := true, laidLooks := .later }
def TableFitsCardSaid : Prop := Claim7.holds Tryz.pinned (.plain (OpenSpec.ofChange tableFitsSpec)) tableFitsCard

/-- THE TIED CARD OF 'presagelaw14.TableOne'. -/
def tableOneCard : Claim7 := { stood := { row := tableOneRow, standIns := [], harness := (true, "914108409d80ed017965fe4337b5a9684c9206316fee66198a7dcefc48937f03"), looks := false }, kinds := [], alts := [], laidByText := true, laidKinds := [.data], laidTests := true, laidLooks := .later }
def TableOneCardSaid : Prop := Claim7.holds Tryz.pinned (.plain (OpenSpec.ofChange tableOneSpec)) tableOneCard

/-- THE TIED CARD OF 'presagelaw15.ResolveSides'. -/
def resolveSidesCard : Claim7 := { stood := { row := resolveSidesRow, standIns := [], harness := (true, "914108409d80ed017965fe4337b5a9684c9206316fee66198a7dcefc48937f03"), looks := false }, kinds := [], alts := [], laidByText := true, laidKinds := [.data, .data, .data], laidTests := true, laidLooks := .later }
def ResolveSidesCardSaid : Prop := Claim7.holds Tryz.pinned (.plain (OpenSpec.ofChange resolveSidesSpec)) resolveSidesCard

/-- THE TIED CARD OF 'presagelaw15.ResolveCells'. -/
def resolveCellsCard : Claim7 := { stood := { row := resolveCellsRow, standIns := [], harness := (true, "914108409d80ed017965fe4337b5a9684c9206316fee66198a7dcefc48937f03"), looks := false }, kinds := [], alts := [], laidByText := true, laidKinds := [.data, .data, .data], laidTests := true, laidLooks := .later }
def ResolveCellsCardSaid : Prop := Claim7.holds Tryz.pinned (.plain (OpenSpec.ofChange resolveCellsSpec)) resolveCellsCard

/-- THE TIED CARD OF 'presagelaw15.ResolveSettles'. -/
def resolveSettlesCard : Claim7 := { stood := { row := resolveSettlesRow, standIns := [], harness := (true, "914108409d80ed017965fe4337b5a9684c9206316fee66198a7dcefc48937f03"), looks := false }, kinds := [], alts := [], laidByText := true, laidKinds := [.data, .data, .data], laidTests := true, laidLooks := .later }
def ResolveSettlesCardSaid : Prop := Claim7.holds Tryz.pinned (.plain (OpenSpec.ofChange resolveSettlesSpec)) resolveSettlesCard

/-- THE TIED CARD OF 'presagelaw15.ResolvePicks'. -/
def resolvePicksCard : Claim7 := { stood := { row := resolvePicksRow, standIns := [], harness := (true, "914108409d80ed017965fe4337b5a9684c9206316fee66198a7dcefc48937f03"), looks := false }, kinds := [], alts := [], laidByText := true, laidKinds := [.data, .data, .data], laidTests := true, laidLooks := .later }
def ResolvePicksCardSaid : Prop := Claim7.holds Tryz.pinned (.plain (OpenSpec.ofChange resolvePicksSpec)) resolvePicksCard

/-- THE TIED CARD OF 'presagelaw15.ResolveTurns'. -/
def resolveTurnsCard : Claim7 := { stood := { row := resolveTurnsRow, standIns := [], harness := (true, "914108409d80ed017965fe4337b5a9684c9206316fee66198a7dcefc48937f03"), looks := false }, kinds := [], alts := [], laidByText := true, laidKinds := [.data, .data, .data], laidTests := true, laidLooks := .later }
def ResolveTurnsCardSaid : Prop := Claim7.holds Tryz.pinned (.plain (OpenSpec.ofChange resolveTurnsSpec)) resolveTurnsCard

/-- THE TIED CARD OF 'presagelaw15.ResolvePlain'. -/
def resolvePlainCard : Claim7 := { stood := { row := resolvePlainRow, standIns := [], harness := (true, "914108409d80ed017965fe4337b5a9684c9206316fee66198a7dcefc48937f03"), looks := false }, kinds := [], alts := [], laidByText := true, laidKinds := [.data, .data, .data], laidTests := true, laidLooks := .later }
def ResolvePlainCardSaid : Prop := Claim7.holds Tryz.pinned (.plain (OpenSpec.ofChange resolvePlainSpec)) resolvePlainCard

/-- THE SECOND FORM's CARD OF 'presagelaw14.TableMerges'. -/
def tableMergesUptoCard : Claim7 := { stood := { row := tableMergesUptoRow, standIns := [], harness := (true, "914108409d80ed017965fe4337b5a9684c9206316fee66198a7dcefc48937f03"), looks := false }, kinds := [], alts := [], laidByText := true, laidKinds := [.data], laidTests := true, laidLooks := .later }
def TableMergesUptoCardSaid : Prop := Claim7.holds Tryz.pinned (.plain (OpenSpec.upto tableMergesSpec)) tableMergesUptoCard

/-- THE SECOND FORM's CARD OF 'presagelaw14.TableClashes'. -/
def tableClashesUptoCard : Claim7 := { stood := { row := tableClashesUptoRow, standIns := [], harness := (true, "914108409d80ed017965fe4337b5a9684c9206316fee66198a7dcefc48937f03"), looks := false }, kinds := [], alts := [], laidByText := true, laidKinds := [.data], laidTests := true, laidLooks := .later }
def TableClashesUptoCardSaid : Prop := Claim7.holds Tryz.pinned (.plain (OpenSpec.upto tableClashesSpec)) tableClashesUptoCard

/-- THE SECOND FORM's CARD OF 'presagelaw14.TableAsks'. -/
def tableAsksUptoCard : Claim7 := { stood := { row := tableAsksUptoRow, standIns := [], harness := (true, "914108409d80ed017965fe4337b5a9684c9206316fee66198a7dcefc48937f03"), looks := false }, kinds := [], alts := [], laidByText := true, laidKinds := [.data], laidTests := true, laidLooks := .later }
def TableAsksUptoCardSaid : Prop := Claim7.holds Tryz.pinned (.plain (OpenSpec.upto tableAsksSpec)) tableAsksUptoCard

/-- THE SECOND FORM's CARD OF 'presagelaw14.TableFits'. -/
def tableFitsUptoCard : Claim7 := { stood := { row := tableFitsUptoRow, standIns := [], harness := (true, "914108409d80ed017965fe4337b5a9684c9206316fee66198a7dcefc48937f03"), looks := false }, kinds := [], alts := [], laidByText := true, laidKinds := [.data], laidTests := true, laidLooks := .later }
def TableFitsUptoCardSaid : Prop := Claim7.holds Tryz.pinned (.plain (OpenSpec.upto tableFitsSpec)) tableFitsUptoCard

/-- THE SECOND FORM's CARD OF 'presagelaw14.TableOne'. -/
def tableOneUptoCard : Claim7 := { stood := { row := tableOneUptoRow, standIns := [], harness := (true, "914108409d80ed017965fe4337b5a9684c9206316fee66198a7dcefc48937f03"), looks := false }, kinds := [], alts := [], laidByText := true, laidKinds := [.data], laidTests := true, laidLooks := .later }
def TableOneUptoCardSaid : Prop := Claim7.holds Tryz.pinned (.plain (OpenSpec.upto tableOneSpec)) tableOneUptoCard

/-- THE SECOND FORM's CARD OF 'presagelaw15.ResolveSides'. -/
def resolveSidesUptoCard : Claim7 := { stood := { row := resolveSidesUptoRow, standIns := [], harness := (true, "914108409d80ed017965fe4337b5a9684c9206316fee66198a7dcefc48937f03"), looks := false }, kinds := [], alts := [], laidByText := true, laidKinds := [.data, .data, .data], laidTests := true, laidLooks := .later }
def ResolveSidesUptoCardSaid : Prop := Claim7.holds Tryz.pinned (.plain (OpenSpec.upto resolveSidesSpec)) resolveSidesUptoCard

/-- THE SECOND FORM's CARD OF 'presagelaw15.ResolveCells'. -/
def resolveCellsUptoCard : Claim7 := { stood := { row := resolveCellsUptoRow, standIns := [], harness := (true, "914108409d80ed017965fe4337b5a9684c9206316fee66198a7dcefc48937f03"), looks := false }, kinds := [], alts := [], laidByText := true, laidKinds := [.data, .data, .data], laidTests := true, laidLooks := .later }
def ResolveCellsUptoCardSaid : Prop := Claim7.holds Tryz.pinned (.plain (OpenSpec.upto resolveCellsSpec)) resolveCellsUptoCard

/-- THE SECOND FORM's CARD OF 'presagelaw15.ResolveSettles'. -/
def resolveSettlesUptoCard : Claim7 := { stood := { row := resolveSettlesUptoRow, standIns := [], harness := (true, "914108409d80ed017965fe4337b5a9684c9206316fee66198a7dcefc48937f03"), looks := false }, kinds := [], alts := [], laidByText := true, laidKinds := [.data, .data, .data], laidTests := true, laidLooks := .later }
def ResolveSettlesUptoCardSaid : Prop := Claim7.holds Tryz.pinned (.plain (OpenSpec.upto resolveSettlesSpec)) resolveSettlesUptoCard

/-- THE SECOND FORM's CARD OF 'presagelaw15.ResolvePicks'. -/
def resolvePicksUptoCard : Claim7 := { stood := { row := resolvePicksUptoRow, standIns := [], harness := (true, "914108409d80ed017965fe4337b5a9684c9206316fee66198a7dcefc48937f03"), looks := false }, kinds := [], alts := [], laidByText := true, laidKinds := [.data, .data, .data], laidTests := true, laidLooks := .later }
def ResolvePicksUptoCardSaid : Prop := Claim7.holds Tryz.pinned (.plain (OpenSpec.upto resolvePicksSpec)) resolvePicksUptoCard

/-- THE SECOND FORM's CARD OF 'presagelaw15.ResolveTurns'. -/
def resolveTurnsUptoCard : Claim7 := { stood := { row := resolveTurnsUptoRow, standIns := [], harness := (true, "914108409d80ed017965fe4337b5a9684c9206316fee66198a7dcefc48937f03"), looks := false }, kinds := [], alts := [], laidByText := true, laidKinds := [.data, .data, .data], laidTests := true, laidLooks := .later }
def ResolveTurnsUptoCardSaid : Prop := Claim7.holds Tryz.pinned (.plain (OpenSpec.upto resolveTurnsSpec)) resolveTurnsUptoCard

/-- THE SECOND FORM's CARD OF 'presagelaw15.ResolvePlain'. -/
def resolvePlainUptoCard : Claim7 := { stood := { row := resolvePlainUptoRow, standIns := [], harness := (true, "914108409d80ed017965fe4337b5a9684c9206316fee66198a7dcefc48937f03"), looks := false }, kinds := [], alts := [], laidByText := true, laidKinds := [.data, .data, .data], laidTests := true, laidLooks := .later }
def ResolvePlainUptoCardSaid : Prop := Claim7.holds Tryz.pinned (.plain (OpenSpec.upto resolvePlainSpec)) resolvePlainUptoCard
end Rows
end Go.Proofs.YtndaepmjkbmjmaaGreatDoor
