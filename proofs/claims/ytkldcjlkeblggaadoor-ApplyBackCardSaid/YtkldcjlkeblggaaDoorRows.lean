/-
  NARROWER THAN 'FOR EVERY INPUT', by the rows' own cells (each row's printed sentence says how): ApplyStrict: loops, laid · ApplyBack: loops, laid.
  DERIVED. THE GIVEN ROWS OF THIS SEAT. 2 by the template 'for every input the law returns true; each argument reads behind the call as it read before'; 0 by the template 'total and deterministic' (their statements: YtkldcjlkeblggaaDoorTotals.lean).
  GIVEN WITH THE SEED: the statements are not yours to turn. If you find one false, say at which input.
  Laid BY PROGRAM, IN A SANDBOX (cutbox-rows.mjs): the forced cells as the released guide's own fill.sh prints them over the translation 51830ee7798149f5… (all of the seat's roots in one cut). By AI agents, Wed Nov 11 2026. No macro, syntax, notation, axiom, sorry.
-/
import Derived.Test.YtkldcjlkeblggaaDoorChecked
import GoSem.Claim
import GoSem.ClaimJoined
import GoSem.ClaimMapViews
import Derived.JoinedTies
import Derived.KernelRfl
namespace Go.Proofs.YtkldcjlkeblggaaDoor
/- THE CELL 'sum', in the pinned program and in every row, IS THE sha256 OF THE DUMP (.gsa) THAT YtkldcjlkeblggaaDoorProg.lean LOADS. Nothing in Lean hashes anything: it is a label: what it is worth is what the hold of that sum in a sandbox is worth. -/
noncomputable def Tryd.pinned : Pinned := { name := "ytkldcjlkeblggaadoor", sum := "51830ee7798149f5280457ab1caf18694e5b51466cb7f00d5ba970a682d2255b", checked := Tryd.checked }
namespace Rows
def none {H : Type} : Left H := { results := [], args := [] }

/- WHAT THE LISTED PACKAGE-LEVEL VARIABLES READ AS WHEN THE CALL BEGINS. Each datum BY PROGRAM (the guide's laid-datum.mjs) off the statement by which the dump's own 'gosem.cut.vars' lays the variable. In a bare row this is a premise. The card (YtkldcjlkeblggaaDoorCards.lean) ties it to the program's text. -/
def laid_redline_api_ErrForm {H : Type} : DataW H := .iface "*errors.errorString" (.ptr (.agg [.lit (.string [105, 116, 32, 105, 115, 32, 110, 111, 116, 32, 111, 102, 32, 105, 116, 115, 32, 102, 111, 114, 109])]))
def laid_redline_api_ErrKind {H : Type} : DataW H := .iface "*errors.errorString" (.ptr (.agg [.lit (.string [105, 116, 32, 105, 115, 32, 111, 102, 32, 97, 110, 111, 116, 104, 101, 114, 32, 107, 105, 110, 100])]))
def laid_redline_api_ErrClash {H : Type} : DataW H := .iface "*errors.errorString" (.ptr (.agg [.lit (.string [105, 116, 32, 105, 115, 32, 110, 111, 116, 32, 119, 104, 97, 116, 32, 105, 116, 32, 119, 97, 115])]))

/-- 'redlinelaw23.ApplyStrict': WHATEVER THE INPUT: true; the input reads as it did. -/
def applyStrictSpec : ChangeSpec := { name := "applyStrict", fn := fun _ => fun
  | [d1, d2, d3] => { results := [.lit (.bool true)], args := [d1, d2, d3] }
  | _ => none }
def applyStrictRow : OpenClaim := { program := "ytkldcjlkeblggaadoor", sum := "51830ee7798149f5280457ab1caf18694e5b51466cb7f00d5ba970a682d2255b", func := "redline/redlinelaw23.ApplyStrict", spec := "applyStrict", unfollowed := true, recurses := true, named := ["redline/api.ErrForm", "redline/api.ErrClash", "redline/api.ErrKind"], loops := true, apart := false, laid := [("redline/api.ErrForm", laid_redline_api_ErrForm), ("redline/api.ErrKind", laid_redline_api_ErrKind), ("redline/api.ErrClash", laid_redline_api_ErrClash)] }
def ApplyStrictSaid : Prop := applyStrictRow.holds Tryd.pinned (OpenSpec.ofChange applyStrictSpec)

/-- ITS FALSE NEIGHBOUR: 'it returns false'. Refute it at one input. -/
def applyStrictWrong : ChangeSpec := { name := "applyStrict", fn := fun _ => fun
  | [d1, d2, d3] => { results := [.lit (.bool false)], args := [d1, d2, d3] }
  | _ => none }
def ApplyStrictWrongFalsely : Prop := applyStrictRow.holds Tryd.pinned (OpenSpec.ofChange applyStrictWrong)

/-- 'redlinelaw23.ApplyBack': WHATEVER THE INPUT: true; the input reads as it did. -/
def applyBackSpec : ChangeSpec := { name := "applyBack", fn := fun _ => fun
  | [d1, d2] => { results := [.lit (.bool true)], args := [d1, d2] }
  | _ => none }
def applyBackRow : OpenClaim := { program := "ytkldcjlkeblggaadoor", sum := "51830ee7798149f5280457ab1caf18694e5b51466cb7f00d5ba970a682d2255b", func := "redline/redlinelaw23.ApplyBack", spec := "applyBack", unfollowed := true, recurses := true, named := ["redline/api.ErrForm", "redline/api.ErrClash", "redline/api.ErrKind"], loops := true, apart := false, laid := [("redline/api.ErrForm", laid_redline_api_ErrForm), ("redline/api.ErrKind", laid_redline_api_ErrKind), ("redline/api.ErrClash", laid_redline_api_ErrClash)] }
def ApplyBackSaid : Prop := applyBackRow.holds Tryd.pinned (OpenSpec.ofChange applyBackSpec)

/-- ITS FALSE NEIGHBOUR: 'it returns false'. Refute it at one input. -/
def applyBackWrong : ChangeSpec := { name := "applyBack", fn := fun _ => fun
  | [d1, d2] => { results := [.lit (.bool false)], args := [d1, d2] }
  | _ => none }
def ApplyBackWrongFalsely : Prop := applyBackRow.holds Tryd.pinned (OpenSpec.ofChange applyBackWrong)

/- THE SECOND FORM. 'bulk': how many values and letters a reading holds, each counted each time it is reached (what is shared counts as often as it is met; a slice's spare places count too). A statement '..UptoSaid' is the law's where the arguments, and the package variables that the reading takes, are together of bulk at most 1048576: NARROWER than '..Said'. Prove '..Said' where nothing that the law and all that it calls make is longer than what came in: it says more and counts as full. Else prove '..UptoSaid'. A law counts once. -/
mutual
def uptoBulk {H : Type} : DataW H → Nat
  | .lit (.string bytes) => bytes.length + 1
  | .lit _ => 1
  | .nil => 1
  | .ptr d => uptoBulk d + 1
  | .slice elems spare => uptoBulkAll elems + uptoBulkAll spare + 1
  | .agg parts => uptoBulkAll parts + 1
  | .iface _ d => uptoBulk d + 1
  | .map entries => uptoBulkEntries entries + 1
  | .held _ => 1
def uptoBulkAll {H : Type} : List (DataW H) → Nat
  | [] => 0
  | d :: r => uptoBulk d + uptoBulkAll r
def uptoBulkEntries {H : Type} : List (Lit × DataW H) → Nat
  | [] => 0
  | x :: r => uptoBulkEntry x + uptoBulkEntries r
def uptoBulkEntry {H : Type} : Lit × DataW H → Nat
  | (.string bytes, d) => bytes.length + uptoBulk d + 1
  | (_, d) => uptoBulk d + 1
 end
def uptoSmall : (H : Type) → List (DataW H) → Bool := fun _ ds => decide (uptoBulkAll ds ≤ 1048576)
def OpenSpec.upto (s : _root_.Go.ChangeSpec) : _root_.Go.OpenSpec := { _root_.Go.OpenSpec.ofChange s with cond := some uptoSmall }

/-- 'redlinelaw23.ApplyStrict', WHERE WHAT IT READS IS OF BULK AT MOST 1048576: true; the input reads as it did. -/
def applyStrictUptoRow : OpenClaim := { program := "ytkldcjlkeblggaadoor", sum := "51830ee7798149f5280457ab1caf18694e5b51466cb7f00d5ba970a682d2255b", func := "redline/redlinelaw23.ApplyStrict", spec := "applyStrict", unfollowed := true, recurses := true, named := ["redline/api.ErrForm", "redline/api.ErrClash", "redline/api.ErrKind"], loops := true, apart := false, laid := [("redline/api.ErrForm", laid_redline_api_ErrForm), ("redline/api.ErrKind", laid_redline_api_ErrKind), ("redline/api.ErrClash", laid_redline_api_ErrClash)], narrowed := true }
def ApplyStrictUptoSaid : Prop := applyStrictUptoRow.holds Tryd.pinned (OpenSpec.upto applyStrictSpec)

/-- 'redlinelaw23.ApplyBack', WHERE WHAT IT READS IS OF BULK AT MOST 1048576: true; the input reads as it did. -/
def applyBackUptoRow : OpenClaim := { program := "ytkldcjlkeblggaadoor", sum := "51830ee7798149f5280457ab1caf18694e5b51466cb7f00d5ba970a682d2255b", func := "redline/redlinelaw23.ApplyBack", spec := "applyBack", unfollowed := true, recurses := true, named := ["redline/api.ErrForm", "redline/api.ErrClash", "redline/api.ErrKind"], loops := true, apart := false, laid := [("redline/api.ErrForm", laid_redline_api_ErrForm), ("redline/api.ErrKind", laid_redline_api_ErrKind), ("redline/api.ErrClash", laid_redline_api_ErrClash)], narrowed := true }
def ApplyBackUptoSaid : Prop := applyBackUptoRow.holds Tryd.pinned (OpenSpec.upto applyBackSpec)

end Rows
end Go.Proofs.YtkldcjlkeblggaaDoor
