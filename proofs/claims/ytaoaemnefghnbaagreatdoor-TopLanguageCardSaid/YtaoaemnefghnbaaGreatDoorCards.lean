/-
  DERIVED. GIVEN WITH THE SEED: THE CARDS: each row of YtaoaemnefghnbaaGreatDoorRows.lean that lists a variable, with what it lists TIED to the program's text (the seventh form; the later family's looks); each row that meets fmt, with fmt's text TOLD by the authors' own Lean function (tested against real Go, not proved from fmt's source: count such statements apart). THE CARD IS WHAT COUNTS. Prove the row's statement (the work); the ties are given (YtaoaemnefghnbaaGreatDoorTie.lean); close each card by the builder's one call (the guide's Derived/Test/ToyasCard.lean, 'card_holds'). Laid BY PROGRAM, IN A SANDBOX (cutbox-door.mjs). By AI agents, Wed Nov 11 2026. No macro, syntax, notation, axiom, sorry.
-/
import Derived.Test.YtaoaemnefghnbaaGreatDoorRows
import GoSem.ClaimSeven
namespace Go.Proofs.YtaoaemnefghnbaaGreatDoor
namespace Rows

/-- THE TIED CARD OF 'presagetop.TopLanguage'. -/
def topLanguageCard : Claim7 := { stood := { row := topLanguageRow, standIns := [], harness := (true, "5752f73987eab450df8fa777ac1da065d74fe7e5dd4b24fd50114edcd979b5cc"), looks := true }, kinds := [], alts := [], laidByText := true, laidKinds := [.data], laidTests := true, laidLooks := .later }
def TopLanguageCardSaid : Prop := Claim7.holds Tryz.pinned (.plain (OpenSpec.ofChange topLanguageSpec)) topLanguageCard

/-- THE TIED CARD OF 'presagetop.TopUnique'. -/
def topUniqueCard : Claim7 := { stood := { row := topUniqueRow, standIns := [], harness := (true, "5752f73987eab450df8fa777ac1da065d74fe7e5dd4b24fd50114edcd979b5cc"), looks := true }, kinds := [], alts := [], laidByText := true, laidKinds := [.data], laidTests := true, laidLooks := .later }
def TopUniqueCardSaid : Prop := Claim7.holds Tryz.pinned (.plain (OpenSpec.ofChange topUniqueSpec)) topUniqueCard

/-- THE TIED CARD OF 'presagetop.TopGoesOn'. -/
def topGoesOnCard : Claim7 := { stood := { row := topGoesOnRow, standIns := [], harness := (true, "5752f73987eab450df8fa777ac1da065d74fe7e5dd4b24fd50114edcd979b5cc"), looks := true }, kinds := [], alts := [], laidByText := true, laidKinds := [.data], laidTests := true, laidLooks := .later }
def TopGoesOnCardSaid : Prop := Claim7.holds Tryz.pinned (.plain (OpenSpec.ofChange topGoesOnSpec)) topGoesOnCard

/-- THE TIED CARD OF 'presagetop.TopAnswers'. -/
def topAnswersCard : Claim7 := { stood := { row := topAnswersRow, standIns := [], harness := (true, "5752f73987eab450df8fa777ac1da065d74fe7e5dd4b24fd50114edcd979b5cc"), looks := true }, kinds := [], alts := [], laidByText := true, laidKinds := [.data, .widerDeep], laidTests := true, laidLooks := .later }
def TopAnswersCardSaid : Prop := Claim7.holds Tryz.pinned (.plain (OpenSpec.ofChange topAnswersSpec)) topAnswersCard

/-- THE TIED CARD OF 'presagetop.TopOpen'. -/
def topOpenCard : Claim7 := { stood := { row := topOpenRow, standIns := [], harness := (true, "5752f73987eab450df8fa777ac1da065d74fe7e5dd4b24fd50114edcd979b5cc"), looks := true }, kinds := [], alts := [], laidByText := true, laidKinds := [.data, .widerDeep], laidTests := true, laidLooks := .later }
def TopOpenCardSaid : Prop := Claim7.holds Tryz.pinned (.plain (OpenSpec.ofChange topOpenSpec)) topOpenCard

/-- THE SECOND FORM's CARD OF 'presagetop.TopLanguage'. -/
def topLanguageUptoCard : Claim7 := { stood := { row := topLanguageUptoRow, standIns := [], harness := (true, "5752f73987eab450df8fa777ac1da065d74fe7e5dd4b24fd50114edcd979b5cc"), looks := true }, kinds := [], alts := [], laidByText := true, laidKinds := [.data], laidTests := true, laidLooks := .later }
def TopLanguageUptoCardSaid : Prop := Claim7.holds Tryz.pinned (.plain (OpenSpec.upto topLanguageSpec)) topLanguageUptoCard

/-- THE SECOND FORM's CARD OF 'presagetop.TopUnique'. -/
def topUniqueUptoCard : Claim7 := { stood := { row := topUniqueUptoRow, standIns := [], harness := (true, "5752f73987eab450df8fa777ac1da065d74fe7e5dd4b24fd50114edcd979b5cc"), looks := true }, kinds := [], alts := [], laidByText := true, laidKinds := [.data], laidTests := true, laidLooks := .later }
def TopUniqueUptoCardSaid : Prop := Claim7.holds Tryz.pinned (.plain (OpenSpec.upto topUniqueSpec)) topUniqueUptoCard

/-- THE SECOND FORM's CARD OF 'presagetop.TopGoesOn'. -/
def topGoesOnUptoCard : Claim7 := { stood := { row := topGoesOnUptoRow, standIns := [], harness := (true, "5752f73987eab450df8fa777ac1da065d74fe7e5dd4b24fd50114edcd979b5cc"), looks := true }, kinds := [], alts := [], laidByText := true, laidKinds := [.data], laidTests := true, laidLooks := .later }
def TopGoesOnUptoCardSaid : Prop := Claim7.holds Tryz.pinned (.plain (OpenSpec.upto topGoesOnSpec)) topGoesOnUptoCard

/-- THE SECOND FORM's CARD OF 'presagetop.TopAnswers'. -/
def topAnswersUptoCard : Claim7 := { stood := { row := topAnswersUptoRow, standIns := [], harness := (true, "5752f73987eab450df8fa777ac1da065d74fe7e5dd4b24fd50114edcd979b5cc"), looks := true }, kinds := [], alts := [], laidByText := true, laidKinds := [.data, .widerDeep], laidTests := true, laidLooks := .later }
def TopAnswersUptoCardSaid : Prop := Claim7.holds Tryz.pinned (.plain (OpenSpec.upto topAnswersSpec)) topAnswersUptoCard

/-- THE SECOND FORM's CARD OF 'presagetop.TopOpen'. -/
def topOpenUptoCard : Claim7 := { stood := { row := topOpenUptoRow, standIns := [], harness := (true, "5752f73987eab450df8fa777ac1da065d74fe7e5dd4b24fd50114edcd979b5cc"), looks := true }, kinds := [], alts := [], laidByText := true, laidKinds := [.data, .widerDeep], laidTests := true, laidLooks := .later }
def TopOpenUptoCardSaid : Prop := Claim7.holds Tryz.pinned (.plain (OpenSpec.upto topOpenSpec)) topOpenUptoCard
end Rows
end Go.Proofs.YtaoaemnefghnbaaGreatDoor
