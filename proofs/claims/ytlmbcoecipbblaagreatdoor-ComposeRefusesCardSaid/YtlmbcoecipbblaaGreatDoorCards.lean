/-
  DERIVED. GIVEN WITH THE SEED: THE CARDS: each row of YtlmbcoecipbblaaGreatDoorRows.lean that lists a variable, with what it lists TIED to the program's text (the seventh form; the later family's looks); each row that meets fmt, with fmt's text TOLD by the authors' own Lean function (tested against real Go, not proved from fmt's source: count such statements apart). THE CARD IS WHAT COUNTS. Prove the row's statement (the work); the ties are given (YtlmbcoecipbblaaGreatDoorTie.lean); close each card by the builder's one call (the guide's Derived/Test/ToyasCard.lean, 'card_holds'). Laid BY PROGRAM, IN A SANDBOX (cutbox-door.mjs). By AI agents, Wed Nov 11 2026. No macro, syntax, notation, axiom, sorry.
-/
import Derived.Test.YtlmbcoecipbblaaGreatDoorRows
import GoSem.ClaimSeven
namespace Go.Proofs.YtlmbcoecipbblaaGreatDoor
namespace Rows

/-- THE TIED CARD OF 'redlinelaw25.ComposeRefuses'. -/
def composeRefusesCard : Claim7 := { stood := { row := composeRefusesRow, standIns := [], harness := (true, "f6bbe21d4ee1fee9b399d3f005fe542ffe77747f6486f2bea97bb81a6e100db2"), looks := true }, kinds := [], alts := [], laidByText := true, laidKinds := [.sentinel, .sentinel, .sentinel, .sentinel, .sentinel, .sentinel, .sentinel, .sentinel, .sentinel, .sentinel, .sentinel, .sentinel, .sentinel, .sentinel, .sentinel, .sentinel, .sentinel, .sentinel, .sentinel], laidTests := true, laidLooks := .later }
def ComposeRefusesCardSaid : Prop := Claim7.holds Tryz.pinned (.plain (OpenSpec.ofChange composeRefusesSpec)) composeRefusesCard

/-- THE SECOND FORM's CARD OF 'redlinelaw25.ComposeRefuses'. -/
def composeRefusesUptoCard : Claim7 := { stood := { row := composeRefusesUptoRow, standIns := [], harness := (true, "f6bbe21d4ee1fee9b399d3f005fe542ffe77747f6486f2bea97bb81a6e100db2"), looks := true }, kinds := [], alts := [], laidByText := true, laidKinds := [.sentinel, .sentinel, .sentinel, .sentinel, .sentinel, .sentinel, .sentinel, .sentinel, .sentinel, .sentinel, .sentinel, .sentinel, .sentinel, .sentinel, .sentinel, .sentinel, .sentinel, .sentinel, .sentinel], laidTests := true, laidLooks := .later }
def ComposeRefusesUptoCardSaid : Prop := Claim7.holds Tryz.pinned (.plain (OpenSpec.upto composeRefusesSpec)) composeRefusesUptoCard
end Rows
end Go.Proofs.YtlmbcoecipbblaaGreatDoor
