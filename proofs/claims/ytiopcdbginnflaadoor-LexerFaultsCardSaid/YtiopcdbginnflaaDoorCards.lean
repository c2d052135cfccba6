/-
  DERIVED. GIVEN WITH THE SEED: THE CARDS: each row of YtiopcdbginnflaaDoorRows.lean that lists a variable, with what it lists TIED to the program's text (the seventh form; the later family's looks); each row that meets fmt, with fmt's text TOLD by the authors' own Lean function (tested against real Go, not proved from fmt's source: count such statements apart). THE CARD IS WHAT COUNTS. Prove the row's statement (the work); the ties are given (YtiopcdbginnflaaDoorTie.lean); close each card by the builder's one call (the guide's Derived/Test/ToyasCard.lean, 'card_holds'). Laid BY PROGRAM, IN A SANDBOX (cutbox-door.mjs). By AI agents, Wed Nov 11 2026. No macro, syntax, notation, axiom, sorry.
-/
import Derived.Test.YtiopcdbginnflaaDoorRows
import GoSem.ClaimSeven
namespace Go.Proofs.YtiopcdbginnflaaDoor
namespace Rows

/-- THE TIED CARD OF 'redlinelaw07.LexerBack'. -/
def lexerBackCard : Claim7 := { stood := { row := lexerBackRow, standIns := [], harness := (true, "d6f15038753025a762449e79c51a008f3233cd98ef675544e8d0cda03763affd"), looks := true }, kinds := [], alts := [], laidByText := true, laidKinds := [.data, .data, .data, .sentinel, .sentinel, .sentinel, .sentinel, .sentinel], laidTests := true, laidLooks := .later }
def LexerBackCardSaid : Prop := Claim7.holds Tryd.pinned (.plain (OpenSpec.ofChange lexerBackSpec)) lexerBackCard

/-- THE TIED CARD OF 'redlinelaw07.LexerFaults'. -/
def lexerFaultsCard : Claim7 := { stood := { row := lexerFaultsRow, standIns := [], harness := (true, "d6f15038753025a762449e79c51a008f3233cd98ef675544e8d0cda03763affd"), looks := true }, kinds := [], alts := [], laidByText := true, laidKinds := [.data, .data, .data, .handle, .sentinel, .sentinel, .sentinel, .sentinel, .sentinel, .sentinel, .sentinel, .sentinel, .sentinel, .sentinel, .sentinel, .sentinel, .sentinel, .sentinel, .sentinel, .sentinel, .sentinel, .sentinel, .sentinel, .sentinel, .sentinel], laidTests := true, laidLooks := .later }
def LexerFaultsCardSaid : Prop := Claim7.holds Tryd.pinned (.plain (OpenSpec.ofChange lexerFaultsSpec)) lexerFaultsCard

/-- THE SECOND FORM's CARD OF 'redlinelaw07.LexerBack'. -/
def lexerBackUptoCard : Claim7 := { stood := { row := lexerBackUptoRow, standIns := [], harness := (true, "d6f15038753025a762449e79c51a008f3233cd98ef675544e8d0cda03763affd"), looks := true }, kinds := [], alts := [], laidByText := true, laidKinds := [.data, .data, .data, .sentinel, .sentinel, .sentinel, .sentinel, .sentinel], laidTests := true, laidLooks := .later }
def LexerBackUptoCardSaid : Prop := Claim7.holds Tryd.pinned (.plain (OpenSpec.upto lexerBackSpec)) lexerBackUptoCard

/-- THE SECOND FORM's CARD OF 'redlinelaw07.LexerFaults'. -/
def lexerFaultsUptoCard : Claim7 := { stood := { row := lexerFaultsUptoRow, standIns := [], harness := (true, "d6f15038753025a762449e79c51a008f3233cd98ef675544e8d0cda03763affd"), looks := true }, kinds := [], alts := [], laidByText := true, laidKinds := [.data, .data, .data, .handle, .sentinel, .sentinel, .sentinel, .sentinel, .sentinel, .sentinel, .sentinel, .sentinel, .sentinel, .sentinel, .sentinel, .sentinel, .sentinel, .sentinel, .sentinel, .sentinel, .sentinel, .sentinel, .sentinel, .sentinel, .sentinel], laidTests := true, laidLooks := .later }
def LexerFaultsUptoCardSaid : Prop := Claim7.holds Tryd.pinned (.plain (OpenSpec.upto lexerFaultsSpec)) lexerFaultsUptoCard
end Rows
end Go.Proofs.YtiopcdbginnflaaDoor
