/-
  DERIVED. GIVEN WITH THE SEED: THE CARDS: each row of YtebekgdjknenlaaGreatDoorRows.lean that lists a variable, with what it lists TIED to the program's text (the seventh form; the later family's looks); each row that meets fmt, with fmt's text TOLD by the authors' own Lean function (tested against real Go, not proved from fmt's source: count such statements apart). THE CARD IS WHAT COUNTS. Prove the row's statement (the work); the ties are given (YtebekgdjknenlaaGreatDoorTie.lean); close each card by the builder's one call (the guide's Derived/Test/ToyasCard.lean, 'card_holds'). Laid BY PROGRAM, IN A SANDBOX (cutbox-door.mjs). By AI agents, Wed Nov 11 2026. No macro, syntax, notation, axiom, sorry.
-/
import Derived.Test.YtebekgdjknenlaaGreatDoorRows
import GoSem.ClaimSeven
namespace Go.Proofs.YtebekgdjknenlaaGreatDoor
namespace Rows

/-- THE TIED CARD OF 'redlinelaw23.ApplyValues'. -/
def applyValuesCard : Claim7 := { stood := { row := applyValuesRow, standIns := [], harness := (true, "01cfe398ba25980a5e2e001b94d9f1ae1569c461f40667793bfda3d3c67fc52b"), looks := true }, kinds := [], alts := [], laidByText := true, laidKinds := [.sentinel, .sentinel, .sentinel, .sentinel, .sentinel, .sentinel, .sentinel, .sentinel, .sentinel, .sentinel, .sentinel, .sentinel, .sentinel, .sentinel, .sentinel, .sentinel, .sentinel, .sentinel, .sentinel], laidTests := true, laidLooks := .later }
def ApplyValuesCardSaid : Prop := Claim7.holds Tryz.pinned (.plain (OpenSpec.ofChange applyValuesSpec)) applyValuesCard

/-- THE SECOND FORM's CARD OF 'redlinelaw23.ApplyValues'. -/
def applyValuesUptoCard : Claim7 := { stood := { row := applyValuesUptoRow, standIns := [], harness := (true, "01cfe398ba25980a5e2e001b94d9f1ae1569c461f40667793bfda3d3c67fc52b"), looks := true }, kinds := [], alts := [], laidByText := true, laidKinds := [.sentinel, .sentinel, .sentinel, .sentinel, .sentinel, .sentinel, .sentinel, .sentinel, .sentinel, .sentinel, .sentinel, .sentinel, .sentinel, .sentinel, .sentinel, .sentinel, .sentinel, .sentinel, .sentinel], laidTests := true, laidLooks := .later }
def ApplyValuesUptoCardSaid : Prop := Claim7.holds Tryz.pinned (.plain (OpenSpec.upto applyValuesSpec)) applyValuesUptoCard
end Rows
end Go.Proofs.YtebekgdjknenlaaGreatDoor
