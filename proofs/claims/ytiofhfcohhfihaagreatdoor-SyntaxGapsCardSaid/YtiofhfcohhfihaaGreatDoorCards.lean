/-
  DERIVED. GIVEN WITH THE SEED: THE CARDS: each row of YtiofhfcohhfihaaGreatDoorRows.lean that lists a variable, with what it lists TIED to the program's text (the seventh form; the later family's looks); each row that meets fmt, with fmt's text TOLD by the authors' own Lean function (tested against real Go, not proved from fmt's source: count such statements apart). THE CARD IS WHAT COUNTS. Prove the row's statement (the work); the ties are given (YtiofhfcohhfihaaGreatDoorTie.lean); close each card by the builder's one call (the guide's Derived/Test/ToyasCard.lean, 'card_holds'). Laid BY PROGRAM, IN A SANDBOX (cutbox-door.mjs). By AI agents, Wed Nov 11 2026. No macro, syntax, notation, axiom, sorry.
-/
import Derived.Test.YtiofhfcohhfihaaGreatDoorRows
import GoSem.ClaimSeven
namespace Go.Proofs.YtiofhfcohhfihaaGreatDoor
namespace Rows

/-- THE TIED CARD OF 'redlinelaw08.SyntaxGaps'. -/
def syntaxGapsCard : Claim7 := { stood := { row := syntaxGapsRow, standIns := [], harness := (true, "c439178bd7b40e6ce6b0f457bf11c5d5a9acc02f2e582fed8b581b4ca72a17f4"), looks := true }, kinds := [], alts := [], laidByText := true, laidKinds := [.data, .data, .data, .sentinel, .sentinel, .sentinel, .sentinel, .sentinel, .sentinel], laidTests := true, laidLooks := .later }
def SyntaxGapsCardSaid : Prop := Claim7.holds Tryz.pinned (.plain (OpenSpec.ofChange syntaxGapsSpec)) syntaxGapsCard

/-- THE TIED CARD OF 'redlinelaw09.ScopesLooks'. -/
def scopesLooksCard : Claim7 := { stood := { row := scopesLooksRow, standIns := [], harness := (true, "c439178bd7b40e6ce6b0f457bf11c5d5a9acc02f2e582fed8b581b4ca72a17f4"), looks := true }, kinds := [], alts := [], laidByText := true, laidKinds := [.data, .data, .data, .sentinel, .sentinel, .sentinel, .sentinel, .sentinel, .sentinel, .sentinel], laidTests := true, laidLooks := .later }
def ScopesLooksCardSaid : Prop := Claim7.holds Tryz.pinned (.plain (OpenSpec.ofChange scopesLooksSpec)) scopesLooksCard

/-- THE TIED CARD OF 'redlinelaw09.ScopesOwn'. -/
def scopesOwnCard : Claim7 := { stood := { row := scopesOwnRow, standIns := [], harness := (true, "c439178bd7b40e6ce6b0f457bf11c5d5a9acc02f2e582fed8b581b4ca72a17f4"), looks := true }, kinds := [], alts := [], laidByText := true, laidKinds := [.data, .data, .data, .sentinel, .sentinel, .sentinel, .sentinel, .sentinel, .sentinel, .sentinel], laidTests := true, laidLooks := .later }
def ScopesOwnCardSaid : Prop := Claim7.holds Tryz.pinned (.plain (OpenSpec.ofChange scopesOwnSpec)) scopesOwnCard

/-- THE TIED CARD OF 'redlinelaw08.SyntaxTexts'. -/
def syntaxTextsCard : Claim7 := { stood := { row := syntaxTextsRow, standIns := [], harness := (true, "c439178bd7b40e6ce6b0f457bf11c5d5a9acc02f2e582fed8b581b4ca72a17f4"), looks := true }, kinds := [], alts := [], laidByText := true, laidKinds := [.data, .data, .data, .handle, .sentinel, .sentinel, .sentinel, .sentinel, .sentinel, .sentinel, .sentinel, .sentinel, .sentinel, .sentinel, .sentinel, .sentinel, .sentinel, .sentinel, .sentinel, .sentinel, .sentinel, .sentinel, .sentinel, .sentinel, .sentinel], laidTests := true, laidLooks := .later }
def SyntaxTextsCardSaid : Prop := Claim7.holds Tryz.pinned (.plain (OpenSpec.ofChange syntaxTextsSpec)) syntaxTextsCard

/-- THE TIED CARD OF 'redlinelaw09.ScopesTables'. -/
def scopesTablesCard : Claim7 := { stood := { row := scopesTablesRow, standIns := [], harness := (true, "c439178bd7b40e6ce6b0f457bf11c5d5a9acc02f2e582fed8b581b4ca72a17f4"), looks := true }, kinds := [], alts := [], laidByText := true, laidKinds := [.data, .data, .data, .handle, .sentinel, .sentinel, .sentinel, .sentinel, .sentinel, .sentinel, .sentinel, .sentinel, .sentinel, .sentinel, .sentinel, .sentinel, .sentinel, .sentinel, .sentinel, .sentinel, .sentinel, .sentinel, .sentinel, .sentinel, .sentinel], laidTests := true, laidLooks := .later }
def ScopesTablesCardSaid : Prop := Claim7.holds Tryz.pinned (.plain (OpenSpec.ofChange scopesTablesSpec)) scopesTablesCard

/-- THE SECOND FORM's CARD OF 'redlinelaw08.SyntaxGaps'. -/
def syntaxGapsUptoCard : Claim7 := { stood := { row := syntaxGapsUptoRow, standIns := [], harness := (true, "c439178bd7b40e6ce6b0f457bf11c5d5a9acc02f2e582fed8b581b4ca72a17f4"), looks := true }, kinds := [], alts := [], laidByText := true, laidKinds := [.data, .data, .data, .sentinel, .sentinel, .sentinel, .sentinel, .sentinel, .sentinel], laidTests := true, laidLooks := .later }
def SyntaxGapsUptoCardSaid : Prop := Claim7.holds Tryz.pinned (.plain (OpenSpec.upto syntaxGapsSpec)) syntaxGapsUptoCard

/-- THE SECOND FORM's CARD OF 'redlinelaw09.ScopesLooks'. -/
def scopesLooksUptoCard : Claim7 := { stood := { row := scopesLooksUptoRow, standIns := [], harness := (true, "c439178bd7b40e6ce6b0f457bf11c5d5a9acc02f2e582fed8b581b4ca72a17f4"), looks := true }, kinds := [], alts := [], laidByText := true, laidKinds := [.data, .data, .data, .sentinel, .sentinel, .sentinel, .sentinel, .sentinel, .sentinel, .sentinel], laidTests := true, laidLooks := .later }
def ScopesLooksUptoCardSaid : Prop := Claim7.holds Tryz.pinned (.plain (OpenSpec.upto scopesLooksSpec)) scopesLooksUptoCard

/-- THE SECOND FORM's CARD OF 'redlinelaw09.ScopesOwn'. -/
def scopesOwnUptoCard : Claim7 := { stood := { row := scopesOwnUptoRow, standIns := [], harness := (true, "c439178bd7b40e6ce6b0f457bf11c5d5a9acc02f2e582fed8b581b4ca72a17f4"), looks := true }, kinds := [], alts := [], laidByText := true, laidKinds := [.data, .data, .data, .sentinel, .sentinel, .sentinel, .sentinel, .sentinel, .sentinel, .sentinel], laidTests := true, laidLooks := .later }
def ScopesOwnUptoCardSaid : Prop := Claim7.holds Tryz.pinned (.plain (OpenSpec.upto scopesOwnSpec)) scopesOwnUptoCard

/-- THE SECOND FORM's CARD OF 'redlinelaw08.SyntaxTexts'. -/
def syntaxTextsUptoCard : Claim7 := { stood := { row := syntaxTextsUptoRow, standIns := [], harness := (true, "c439178bd7b40e6ce6b0f457bf11c5d5a9acc02f2e582fed8b581b4ca72a17f4"), looks := true }, kinds := [], alts := [], laidByText := true, laidKinds := [.data, .data, .data, .handle, .sentinel, .sentinel, .sentinel, .sentinel, .sentinel, .sentinel, .sentinel, .sentinel, .sentinel, .sentinel, .sentinel, .sentinel, .sentinel, .sentinel, .sentinel, .sentinel, .sentinel, .sentinel, .sentinel, .sentinel, .sentinel], laidTests := true, laidLooks := .later }
def SyntaxTextsUptoCardSaid : Prop := Claim7.holds Tryz.pinned (.plain (OpenSpec.upto syntaxTextsSpec)) syntaxTextsUptoCard

/-- THE SECOND FORM's CARD OF 'redlinelaw09.ScopesTables'. -/
def scopesTablesUptoCard : Claim7 := { stood := { row := scopesTablesUptoRow, standIns := [], harness := (true, "c439178bd7b40e6ce6b0f457bf11c5d5a9acc02f2e582fed8b581b4ca72a17f4"), looks := true }, kinds := [], alts := [], laidByText := true, laidKinds := [.data, .data, .data, .handle, .sentinel, .sentinel, .sentinel, .sentinel, .sentinel, .sentinel, .sentinel, .sentinel, .sentinel, .sentinel, .sentinel, .sentinel, .sentinel, .sentinel, .sentinel, .sentinel, .sentinel, .sentinel, .sentinel, .sentinel, .sentinel], laidTests := true, laidLooks := .later }
def ScopesTablesUptoCardSaid : Prop := Claim7.holds Tryz.pinned (.plain (OpenSpec.upto scopesTablesSpec)) scopesTablesUptoCard
end Rows
end Go.Proofs.YtiofhfcohhfihaaGreatDoor
