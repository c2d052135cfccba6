/-
  DERIVED. GIVEN WITH THE SEED: THE CARDS: each row of YtkldcjlkeblggaaDoorRows.lean that lists a variable, with what it lists TIED to the program's text (the seventh form; the later family's looks); each row that meets fmt, with fmt's text TOLD by the authors' own Lean function (tested against real Go, not proved from fmt's source: count such statements apart). THE CARD IS WHAT COUNTS. Prove the row's statement (the work); the ties are given (YtkldcjlkeblggaaDoorTie.lean); close each card by the builder's one call (the guide's Derived/Test/ToyasCard.lean, 'card_holds'). Laid BY PROGRAM, IN A SANDBOX (cutbox-door.mjs). By AI agents, Wed Nov 11 2026. No macro, syntax, notation, axiom, sorry.
-/
import Derived.Test.YtkldcjlkeblggaaDoorRows
import GoSem.ClaimSeven
namespace Go.Proofs.YtkldcjlkeblggaaDoor
namespace Rows

/-- THE TIED CARD OF 'redlinelaw23.ApplyStrict'. -/
def applyStrictCard : Claim7 := { stood := { row := applyStrictRow, standIns := [], harness := (true, "052b99fce96e33d6f34c57137be9a6357c95545b1350cc4dac1e0a883ddc3f04"), looks := false }, kinds := [], alts := [], laidByText := true, laidKinds := [.sentinel, .sentinel, .sentinel], laidTests := true, laidLooks := .later }
def ApplyStrictCardSaid : Prop := Claim7.holds Tryd.pinned (.plain (OpenSpec.ofChange applyStrictSpec)) applyStrictCard

/-- THE TIED CARD OF 'redlinelaw23.ApplyBack'. -/
def applyBackCard : Claim7 := { stood := { row := applyBackRow, standIns := [], harness := (true, "052b99fce96e33d6f34c57137be9a6357c95545b1350cc4dac1e0a883ddc3f04"), looks := false }, kinds := [], alts := [], laidByText := true, laidKinds := [.sentinel, .sentinel, .sentinel], laidTests := true, laidLooks := .later }
def ApplyBackCardSaid : Prop := Claim7.holds Tryd.pinned (.plain (OpenSpec.ofChange applyBackSpec)) applyBackCard

/-- THE SECOND FORM's CARD OF 'redlinelaw23.ApplyStrict'. -/
def applyStrictUptoCard : Claim7 := { stood := { row := applyStrictUptoRow, standIns := [], harness := (true, "052b99fce96e33d6f34c57137be9a6357c95545b1350cc4dac1e0a883ddc3f04"), looks := false }, kinds := [], alts := [], laidByText := true, laidKinds := [.sentinel, .sentinel, .sentinel], laidTests := true, laidLooks := .later }
def ApplyStrictUptoCardSaid : Prop := Claim7.holds Tryd.pinned (.plain (OpenSpec.upto applyStrictSpec)) applyStrictUptoCard

/-- THE SECOND FORM's CARD OF 'redlinelaw23.ApplyBack'. -/
def applyBackUptoCard : Claim7 := { stood := { row := applyBackUptoRow, standIns := [], harness := (true, "052b99fce96e33d6f34c57137be9a6357c95545b1350cc4dac1e0a883ddc3f04"), looks := false }, kinds := [], alts := [], laidByText := true, laidKinds := [.sentinel, .sentinel, .sentinel], laidTests := true, laidLooks := .later }
def ApplyBackUptoCardSaid : Prop := Claim7.holds Tryd.pinned (.plain (OpenSpec.upto applyBackSpec)) applyBackUptoCard
end Rows
end Go.Proofs.YtkldcjlkeblggaaDoor
