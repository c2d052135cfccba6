/-
  NARROWER THAN 'FOR EVERY INPUT', by the rows' own cells (each row's printed sentence says how): ComposeRefuses: loops, laid.
  DERIVED. THE GIVEN ROWS OF THIS SEAT. 1 by the template 'for every input the law returns true; each argument reads behind the call as it read before'; 0 by the template 'total and deterministic' (their statements: YtlmbcoecipbblaaGreatDoorTotals.lean).
  GIVEN WITH THE SEED: the statements are not yours to turn. If you find one false, say at which input.
  Laid BY PROGRAM, IN A SANDBOX (cutbox-rows.mjs): the forced cells as the released guide's own fill.sh prints them over the translation bfc81dc8aa02e1f6… (all of the seat's roots in one cut). By AI agents, Wed Nov 11 2026. No macro, syntax, notation, axiom, sorry.
-/
import Derived.Test.YtlmbcoecipbblaaGreatDoorChecked
import GoSem.Claim
import GoSem.ClaimJoined
import GoSem.ClaimMapViews
import Derived.JoinedTies
import Derived.KernelRfl
namespace Go.Proofs.YtlmbcoecipbblaaGreatDoor
/- THE CELL 'sum', in the pinned program and in every row, IS THE sha256 OF THE DUMP (.gsa) THAT YtlmbcoecipbblaaGreatDoorProg.lean LOADS. Nothing in Lean hashes anything: it is a label: what it is worth is what the hold of that sum in a sandbox is worth. -/
noncomputable def Tryz.pinned : Pinned := { name := "ytlmbcoecipbblaagreatdoor", sum := "bfc81dc8aa02e1f6ff5bcfbf6f59154e666621d531630408d70e678a72048a71", checked := Tryz.checked }
namespace Rows
def none {H : Type} : Left H := { results := [], args := [] }

/- WHAT THE LISTED PACKAGE-LEVEL VARIABLES READ AS WHEN THE CALL BEGINS. Each datum BY PROGRAM (the guide's laid-datum.mjs) off the statement by which the dump's own 'gosem.cut.vars' lays the variable. In a bare row this is a premise. The card (YtlmbcoecipbblaaGreatDoorCards.lean) ties it to the program's text. -/
def laid_redline_api_ErrRange {H : Type} : DataW H := .iface "*errors.errorString" (.ptr (.agg [.lit (.string [97, 32, 110, 117, 109, 98, 101, 114, 32, 105, 115, 32, 111, 117, 116, 32, 111, 102, 32, 105, 116, 115, 32, 114, 97, 110, 103, 101])]))
def laid_redline_api_ErrShort {H : Type} : DataW H := .iface "*errors.errorString" (.ptr (.agg [.lit (.string [115, 111, 109, 101, 116, 104, 105, 110, 103, 32, 105, 115, 32, 109, 105, 115, 115, 105, 110, 103, 32, 97, 116, 32, 116, 104, 101, 32, 101, 110, 100])]))
def laid_redline_api_ErrLong {H : Type} : DataW H := .iface "*errors.errorString" (.ptr (.agg [.lit (.string [116, 104, 101, 114, 101, 32, 105, 115, 32, 109, 111, 114, 101, 32, 116, 104, 97, 110, 32, 109, 97, 121, 32, 98, 101])]))
def laid_redline_api_ErrVarint {H : Type} : DataW H := .iface "*errors.errorString" (.ptr (.agg [.lit (.string [105, 116, 32, 105, 115, 32, 110, 111, 32, 118, 97, 114, 105, 110, 116])]))
def laid_redline_api_ErrTag {H : Type} : DataW H := .iface "*errors.errorString" (.ptr (.agg [.lit (.string [105, 116, 32, 105, 115, 32, 110, 111, 32, 116, 97, 103])]))
def laid_redline_api_ErrGroup {H : Type} : DataW H := .iface "*errors.errorString" (.ptr (.agg [.lit (.string [116, 104, 101, 114, 101, 32, 97, 114, 101, 32, 110, 111, 32, 103, 114, 111, 117, 112, 115])]))
def laid_redline_api_ErrRune {H : Type} : DataW H := .iface "*errors.errorString" (.ptr (.agg [.lit (.string [105, 116, 32, 105, 115, 32, 110, 111, 32, 85, 84, 70, 45, 56])]))
def laid_redline_api_ErrDepth {H : Type} : DataW H := .iface "*errors.errorString" (.ptr (.agg [.lit (.string [105, 116, 32, 103, 111, 101, 115, 32, 116, 111, 111, 32, 100, 101, 101, 112])]))
def laid_redline_api_ErrForm {H : Type} : DataW H := .iface "*errors.errorString" (.ptr (.agg [.lit (.string [105, 116, 32, 105, 115, 32, 110, 111, 116, 32, 111, 102, 32, 105, 116, 115, 32, 102, 111, 114, 109])]))
def laid_redline_api_ErrName {H : Type} : DataW H := .iface "*errors.errorString" (.ptr (.agg [.lit (.string [116, 104, 101, 114, 101, 32, 105, 115, 32, 110, 111, 32, 115, 117, 99, 104, 32, 110, 97, 109, 101])]))
def laid_redline_api_ErrDup {H : Type} : DataW H := .iface "*errors.errorString" (.ptr (.agg [.lit (.string [105, 116, 32, 105, 115, 32, 116, 104, 101, 114, 101, 32, 97, 108, 114, 101, 97, 100, 121])]))
def laid_redline_api_ErrKind {H : Type} : DataW H := .iface "*errors.errorString" (.ptr (.agg [.lit (.string [105, 116, 32, 105, 115, 32, 111, 102, 32, 97, 110, 111, 116, 104, 101, 114, 32, 107, 105, 110, 100])]))
def laid_redline_api_ErrClash {H : Type} : DataW H := .iface "*errors.errorString" (.ptr (.agg [.lit (.string [105, 116, 32, 105, 115, 32, 110, 111, 116, 32, 119, 104, 97, 116, 32, 105, 116, 32, 119, 97, 115])]))
def laid_redline_api_ErrNone {H : Type} : DataW H := .iface "*errors.errorString" (.ptr (.agg [.lit (.string [116, 104, 101, 114, 101, 32, 105, 115, 32, 110, 111, 110, 101])]))
def laid_redline_api_ErrFull {H : Type} : DataW H := .iface "*errors.errorString" (.ptr (.agg [.lit (.string [116, 104, 101, 114, 101, 32, 105, 115, 32, 110, 111, 32, 109, 111, 114, 101, 32, 114, 111, 111, 109])]))
def laid_redline_api_ErrState {H : Type} : DataW H := .iface "*errors.errorString" (.ptr (.agg [.lit (.string [105, 116, 32, 99, 97, 110, 32, 110, 111, 116, 32, 98, 101, 32, 100, 111, 110, 101, 32, 105, 110, 32, 116, 104, 105, 115, 32, 115, 116, 97, 116, 101])]))
def laid_redline_api_ErrPower {H : Type} : DataW H := .iface "*errors.errorString" (.ptr (.agg [.lit (.string [116, 104, 101, 32, 112, 111, 119, 101, 114, 32, 105, 115, 32, 103, 111, 110, 101])]))
def laid_redline_api_ErrSum {H : Type} : DataW H := .iface "*errors.errorString" (.ptr (.agg [.lit (.string [116, 104, 101, 32, 115, 117, 109, 32, 105, 115, 32, 110, 111, 116, 32, 114, 105, 103, 104, 116])]))
def laid_redline_api_ErrConflict {H : Type} : DataW H := .iface "*errors.errorString" (.ptr (.agg [.lit (.string [98, 111, 116, 104, 32, 115, 105, 100, 101, 115, 32, 99, 104, 97, 110, 103, 101, 100, 32, 105, 116])]))

/-- 'redlinelaw25.ComposeRefuses': WHATEVER THE INPUT: true; the input reads as it did. -/
def composeRefusesSpec : ChangeSpec := { name := "composeRefuses", fn := fun _ => fun
  | [d1, d2] => { results := [.lit (.bool true)], args := [d1, d2] }
  | _ => none }
def composeRefusesRow : OpenClaim := { program := "ytlmbcoecipbblaagreatdoor", sum := "bfc81dc8aa02e1f6ff5bcfbf6f59154e666621d531630408d70e678a72048a71", func := "redline/redlinelaw25.ComposeRefuses", spec := "composeRefuses", inPlace := ["internal/reflectlite.TypeOf"], unfollowed := true, recurses := true, named := ["redline/api.ErrForm", "redline/api.ErrKind", "redline/api.ErrLong", "redline/api.ErrClash", "redline/api.ErrRange", "redline/api.ErrShort", "redline/api.ErrVarint", "redline/api.ErrTag", "redline/api.ErrGroup", "redline/api.ErrRune", "redline/api.ErrDepth", "redline/api.ErrName", "redline/api.ErrDup", "redline/api.ErrNone", "redline/api.ErrFull", "redline/api.ErrState", "redline/api.ErrPower", "redline/api.ErrSum", "redline/api.ErrConflict"], loops := true, apart := false, laid := [("redline/api.ErrRange", laid_redline_api_ErrRange), ("redline/api.ErrShort", laid_redline_api_ErrShort), ("redline/api.ErrLong", laid_redline_api_ErrLong), ("redline/api.ErrVarint", laid_redline_api_ErrVarint), ("redline/api.ErrTag", laid_redline_api_ErrTag), ("redline/api.ErrGroup", laid_redline_api_ErrGroup), ("redline/api.ErrRune", laid_redline_api_ErrRune), ("redline/api.ErrDepth", laid_redline_api_ErrDepth), ("redline/api.ErrForm", laid_redline_api_ErrForm), ("redline/api.ErrName", laid_redline_api_ErrName), ("redline/api.ErrDup", laid_redline_api_ErrDup), ("redline/api.ErrKind", laid_redline_api_ErrKind), ("redline/api.ErrClash", laid_redline_api_ErrClash), ("redline/api.ErrNone", laid_redline_api_ErrNone), ("redline/api.ErrFull", laid_redline_api_ErrFull), ("redline/api.ErrState", laid_redline_api_ErrState), ("redline/api.ErrPower", laid_redline_api_ErrPower), ("redline/api.ErrSum", laid_redline_api_ErrSum), ("redline/api.ErrConflict", laid_redline_api_ErrConflict)] }
def ComposeRefusesSaid : Prop := composeRefusesRow.holds Tryz.pinned (OpenSpec.ofChange composeRefusesSpec)

/-- ITS FALSE NEIGHBOUR: 'it returns false'. Refute it at one input. -/
def composeRefusesWrong : ChangeSpec := { name := "composeRefuses", fn := fun _ => fun
  | [d1, d2] => { results := [.lit (.bool false)], args := [d1, d2] }
  | _ => none }
def ComposeRefusesWrongFalsely : Prop := composeRefusesRow.holds Tryz.pinned (OpenSpec.ofChange composeRefusesWrong)

/- THE SECOND FORM. 'bulk': how many values and letters a reading holds, each counted each time it is reached (what is shared counts as often as it is met; a slice's spare places count too). A statement '..UptoSaid' is the law's where the arguments, and the package variables that the reading takes, are together of bulk at most 1048576: NARROWER than '..Said'. Prove '..Said' where nothing that the law and all that it calls make is longer than what came in: it says more and counts as full. Else prove '..UptoSaid'. A law counts once. -/
mutual
def uptoBulk {H : Type} : DataW H → Nat
  | .lit (.string bytes) => bytes.length + 1
  | .lit _ => 1
  | .nil => 1
  | .ptr d => uptoBulk d + 1
  | .slice elems spare => uptoBulkAll elems + uptoBulkAll spare + 1
  | .agg parts => uptoBulkAll parts + 1
  | .iface _ d => uptoBulk d + 1
  | .map entries => uptoBulkEntries entries + 1
  | .held _ => 1
def uptoBulkAll {H : Type} : List (DataW H) → Nat
  | [] => 0
  | d :: r => uptoBulk d + uptoBulkAll r
def uptoBulkEntries {H : Type} : List (Lit × DataW H) → Nat
  | [] => 0
  | x :: r => uptoBulkEntry x + uptoBulkEntries r
def uptoBulkEntry {H : Type} : Lit × DataW H → Nat
  | (.string bytes, d) => bytes.length + uptoBulk d + 1
  | (_, d) => uptoBulk d + 1
 end
def uptoSmall : (H : Type) → List (DataW H) → Bool := fun _ ds => decide (uptoBulkAll ds ≤ 1048576)
def OpenSpec.upto (s : _root_.Go.ChangeSpec) : _root_.Go.OpenSpec := { _root_.Go.OpenSpec.ofChange s with cond := some uptoSmall }

/-- 'redlinelaw25.ComposeRefuses', WHERE WHAT IT READS IS OF BULK AT MOST 1048576: true; the input reads as it did. -/
def composeRefusesUptoRow : OpenClaim := { program := "ytlmbcoecipbblaagreatdoor", sum := "bfc81dc8aa02e1f6ff5bcfbf6f59154e666621d531630408d70e678a72048a71", func := "redline/redlinelaw25.ComposeRefuses", spec := "composeRefuses", inPlace := ["internal/reflectlite.TypeOf"], unfollowed := true, recurses := true, named := ["redline/api.ErrForm", "redline/api.ErrKind", "redline/api.ErrLong", "redline/api.ErrClash", "redline/api.ErrRange", "redline/api.ErrShort", "redline/api.ErrVarint", "redline/api.ErrTag", "redline/api.ErrGroup", "redline/api.ErrRune", "redline/api.ErrDepth", "redline/api.ErrName", "redline/api.ErrDup", "redline/api.ErrNone", "redline/api.ErrFull", "redline/api.ErrState", "redline/api.ErrPower", "redline/api.ErrSum", "redline/api.ErrConflict"], loops := true, apart := false, laid := [("redline/api.ErrRange", laid_redline_api_ErrRange), ("redline/api.ErrShort", laid_redline_api_ErrShort), ("redline/api.ErrLong", laid_redline_api_ErrLong), ("redline/api.ErrVarint", laid_redline_api_ErrVarint), ("redline/api.ErrTag", laid_redline_api_ErrTag), ("redline/api.ErrGroup", laid_redline_api_ErrGroup), ("redline/api.ErrRune", laid_redline_api_ErrRune), ("redline/api.ErrDepth", laid_redline_api_ErrDepth), ("redline/api.ErrForm", laid_redline_api_ErrForm), ("redline/api.ErrName", laid_redline_api_ErrName), ("redline/api.ErrDup", laid_redline_api_ErrDup), ("redline/api.ErrKind", laid_redline_api_ErrKind), ("redline/api.ErrClash", laid_redline_api_ErrClash), ("redline/api.ErrNone", laid_redline_api_ErrNone), ("redline/api.ErrFull", laid_redline_api_ErrFull), ("redline/api.ErrState", laid_redline_api_ErrState), ("redline/api.ErrPower", laid_redline_api_ErrPower), ("redline/api.ErrSum", laid_redline_api_ErrSum), ("redline/api.ErrConflict", laid_redline_api_ErrConflict)], narrowed := true }
def ComposeRefusesUptoSaid : Prop := composeRefusesUptoRow.holds Tryz.pinned (OpenSpec.upto composeRefusesSpec)

end Rows
end Go.Proofs.YtlmbcoecipbblaaGreatDoor
