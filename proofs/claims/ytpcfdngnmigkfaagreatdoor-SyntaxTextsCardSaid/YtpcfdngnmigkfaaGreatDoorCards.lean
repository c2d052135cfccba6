/-
  DERIVED. GIVEN WITH THE SEED: THE CARDS: each row of YtpcfdngnmigkfaaGreatDoorRows.lean that lists a variable, with what it lists TIED to the program's text (the seventh form; the later family's looks); each row that meets fmt, with fmt's text TOLD by the authors' own Lean function (tested against real Go, not proved from fmt's source: count such statements apart). THE CARD IS WHAT COUNTS. Prove the row's statement (the work); the ties are given (YtpcfdngnmigkfaaGreatDoorTie.lean); close each card by the builder's one call (the guide's Derived/Test/ToyasCard.lean, 'card_holds'). Laid BY PROGRAM, IN A SANDBOX (cutbox-door.mjs). By AI agents, Wed Nov 11 2026. No macro, syntax, notation, axiom, sorry.
-/
import Derived.Test.YtpcfdngnmigkfaaGreatDoorRows
import GoSem.ClaimSeven
namespace Go.Proofs.YtpcfdngnmigkfaaGreatDoor
namespace Rows

/-- THE TIED CARD OF 'redlinelaw08.SyntaxTexts'. -/
def syntaxTextsCard : Claim7 := { stood := { row := syntaxTextsRow, standIns := [], harness := (true, "7d7acc47a3bda65f15d4c7c12af38bb537553afcedba137640e23cde9e0fe72d"), looks := true }, kinds := [], alts := [], laidByText := true, laidKinds := [.data, .data, .data, .handle, .sentinel, .sentinel, .sentinel, .sentinel, .sentinel, .sentinel, .sentinel, .sentinel, .sentinel, .sentinel, .sentinel, .sentinel, .sentinel, .sentinel, .sentinel, .sentinel, .sentinel, .sentinel, .sentinel, .sentinel, .sentinel], laidTests := true, laidLooks := .later }
def SyntaxTextsCardSaid : Prop := Claim7.holds Tryz.pinned (.plain (OpenSpec.ofChange syntaxTextsSpec)) syntaxTextsCard

/-- THE SECOND FORM's CARD OF 'redlinelaw08.SyntaxTexts'. -/
def syntaxTextsUptoCard : Claim7 := { stood := { row := syntaxTextsUptoRow, standIns := [], harness := (true, "7d7acc47a3bda65f15d4c7c12af38bb537553afcedba137640e23cde9e0fe72d"), looks := true }, kinds := [], alts := [], laidByText := true, laidKinds := [.data, .data, .data, .handle, .sentinel, .sentinel, .sentinel, .sentinel, .sentinel, .sentinel, .sentinel, .sentinel, .sentinel, .sentinel, .sentinel, .sentinel, .sentinel, .sentinel, .sentinel, .sentinel, .sentinel, .sentinel, .sentinel, .sentinel, .sentinel], laidTests := true, laidLooks := .later }
def SyntaxTextsUptoCardSaid : Prop := Claim7.holds Tryz.pinned (.plain (OpenSpec.upto syntaxTextsSpec)) syntaxTextsUptoCard
end Rows
end Go.Proofs.YtpcfdngnmigkfaaGreatDoor
