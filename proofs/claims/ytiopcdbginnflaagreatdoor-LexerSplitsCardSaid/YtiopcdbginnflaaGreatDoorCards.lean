/-
  DERIVED. GIVEN WITH THE SEED: THE CARDS: each row of YtiopcdbginnflaaGreatDoorRows.lean that lists a variable, with what it lists TIED to the program's text (the seventh form; the later family's looks); each row that meets fmt, with fmt's text TOLD by the authors' own Lean function (tested against real Go, not proved from fmt's source: count such statements apart). THE CARD IS WHAT COUNTS. Prove the row's statement (the work); the ties are given (YtiopcdbginnflaaGreatDoorTie.lean); close each card by the builder's one call (the guide's Derived/Test/ToyasCard.lean, 'card_holds'). Laid BY PROGRAM, IN A SANDBOX (cutbox-door.mjs). By AI agents, Wed Nov 11 2026. No macro, syntax, notation, axiom, sorry.
-/
import Derived.Test.YtiopcdbginnflaaGreatDoorRows
import GoSem.ClaimSeven
namespace Go.Proofs.YtiopcdbginnflaaGreatDoor
namespace Rows

/-- THE TIED CARD OF 'redlinelaw07.LexerSplits'. -/
def lexerSplitsCard : Claim7 := { stood := { row := lexerSplitsRow, standIns := [], harness := (true, "d70dcce1dda40ed6dcbbc60c5ccee4b7442baf6c972936f7bea8e139ba6c4431"), looks := true }, kinds := [], alts := [], laidByText := true, laidKinds := [.data, .data, .data, .handle, .sentinel, .sentinel, .sentinel, .sentinel, .sentinel, .sentinel, .sentinel, .sentinel, .sentinel, .sentinel, .sentinel, .sentinel, .sentinel, .sentinel, .sentinel, .sentinel, .sentinel, .sentinel, .sentinel, .sentinel, .sentinel], laidTests := true, laidLooks := .later }
def LexerSplitsCardSaid : Prop := Claim7.holds Tryz.pinned (.plain (OpenSpec.ofChange lexerSplitsSpec)) lexerSplitsCard

/-- THE SECOND FORM's CARD OF 'redlinelaw07.LexerSplits'. -/
def lexerSplitsUptoCard : Claim7 := { stood := { row := lexerSplitsUptoRow, standIns := [], harness := (true, "d70dcce1dda40ed6dcbbc60c5ccee4b7442baf6c972936f7bea8e139ba6c4431"), looks := true }, kinds := [], alts := [], laidByText := true, laidKinds := [.data, .data, .data, .handle, .sentinel, .sentinel, .sentinel, .sentinel, .sentinel, .sentinel, .sentinel, .sentinel, .sentinel, .sentinel, .sentinel, .sentinel, .sentinel, .sentinel, .sentinel, .sentinel, .sentinel, .sentinel, .sentinel, .sentinel, .sentinel], laidTests := true, laidLooks := .later }
def LexerSplitsUptoCardSaid : Prop := Claim7.holds Tryz.pinned (.plain (OpenSpec.upto lexerSplitsSpec)) lexerSplitsUptoCard
end Rows
end Go.Proofs.YtiopcdbginnflaaGreatDoor
