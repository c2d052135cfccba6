/- What the walk of SyntaxTexts is told of the package-level variables. -/
import Derived.Test.YtpcfdngnmigkfaaGreatDoorSyntaxTextsLaw
import Derived.Test.YtpcfdngnmigkfaaGreatDoorLaidOne
import Derived.LaidSub
import Derived.LaidHandle
import Derived.Lib.LaidTab
set_option linter.unusedVariables false
set_option linter.unusedSimpArgs false
namespace Go.Proofs.YtpcfdngnmigkfaaGreatDoor
open Go.ChangeShapes Go.WideShapes Go.ChangeAt Go.RowKit
theorem lf_rt : (Tryz.prog.cutTypes.find? (·.1 == "internal/reflectlite.rtype")).map (·.2) = some 172 := by kernel_rfl
theorem lf_oneRow : ((List.range 259).filter fun t => Tryz.prog.rowNamed t [101, 114, 114, 111, 114]) = [28] := by kernel_rfl
theorem lf_size : Tryz.prog.types.size = 259 := by kernel_rfl
theorem lf_handle : typeHandle Tryz.prog 28 = .pointer (some ⟨26, 28, none⟩) := by kernel_rfl
theorem of_laid {W : World} (h : laidMetH Tryz.prog [("math/bits.deBruijn32tab", Rows.laid_math_bits_deBruijn32tab), ("math/bits.deBruijn64tab", Rows.laid_math_bits_deBruijn64tab), ("internal/strconv.uint64pow10", Rows.laid_internal_strconv_uint64pow10), ("errors.errorType", Rows.laid_errors_errorType), ("redline/api.ErrRange", Rows.laid_redline_api_ErrRange), ("redline/api.ErrShort", Rows.laid_redline_api_ErrShort), ("redline/api.ErrLong", Rows.laid_redline_api_ErrLong), ("redline/api.ErrVarint", Rows.laid_redline_api_ErrVarint), ("redline/api.ErrTag", Rows.laid_redline_api_ErrTag), ("redline/api.ErrGroup", Rows.laid_redline_api_ErrGroup), ("redline/api.ErrRune", Rows.laid_redline_api_ErrRune), ("redline/api.ErrDepth", Rows.laid_redline_api_ErrDepth), ("redline/api.ErrForm", Rows.laid_redline_api_ErrForm), ("redline/api.ErrName", Rows.laid_redline_api_ErrName), ("redline/api.ErrDup", Rows.laid_redline_api_ErrDup), ("redline/api.ErrKind", Rows.laid_redline_api_ErrKind), ("redline/api.ErrClash", Rows.laid_redline_api_ErrClash), ("redline/api.ErrNone", Rows.laid_redline_api_ErrNone), ("redline/api.ErrFull", Rows.laid_redline_api_ErrFull), ("redline/api.ErrState", Rows.laid_redline_api_ErrState), ("redline/api.ErrPower", Rows.laid_redline_api_ErrPower), ("redline/api.ErrSum", Rows.laid_redline_api_ErrSum), ("redline/api.ErrConflict", Rows.laid_redline_api_ErrConflict), ("strconv.ErrRange", Rows.laid_strconv_ErrRange), ("strconv.ErrSyntax", Rows.laid_strconv_ErrSyntax)] W) (hsh : W.ShapedOpen Tryz.prog) : ∃ A, NE A W ∧ VarsD A W ∧ ETy W := by
 have h19 : laidMetH Tryz.prog [("redline/api.ErrRange", Rows.laid_redline_api_ErrRange), ("redline/api.ErrShort", Rows.laid_redline_api_ErrShort), ("redline/api.ErrLong", Rows.laid_redline_api_ErrLong), ("redline/api.ErrVarint", Rows.laid_redline_api_ErrVarint), ("redline/api.ErrTag", Rows.laid_redline_api_ErrTag), ("redline/api.ErrGroup", Rows.laid_redline_api_ErrGroup), ("redline/api.ErrRune", Rows.laid_redline_api_ErrRune), ("redline/api.ErrDepth", Rows.laid_redline_api_ErrDepth), ("redline/api.ErrForm", Rows.laid_redline_api_ErrForm), ("redline/api.ErrName", Rows.laid_redline_api_ErrName), ("redline/api.ErrDup", Rows.laid_redline_api_ErrDup), ("redline/api.ErrKind", Rows.laid_redline_api_ErrKind), ("redline/api.ErrClash", Rows.laid_redline_api_ErrClash), ("redline/api.ErrNone", Rows.laid_redline_api_ErrNone), ("redline/api.ErrFull", Rows.laid_redline_api_ErrFull), ("redline/api.ErrState", Rows.laid_redline_api_ErrState), ("redline/api.ErrPower", Rows.laid_redline_api_ErrPower), ("redline/api.ErrSum", Rows.laid_redline_api_ErrSum), ("redline/api.ErrConflict", Rows.laid_redline_api_ErrConflict)] W := h.filter (fun x => ["redline/api.ErrRange", "redline/api.ErrShort", "redline/api.ErrLong", "redline/api.ErrVarint", "redline/api.ErrTag", "redline/api.ErrGroup", "redline/api.ErrRune", "redline/api.ErrDepth", "redline/api.ErrForm", "redline/api.ErrName", "redline/api.ErrDup", "redline/api.ErrKind", "redline/api.ErrClash", "redline/api.ErrNone", "redline/api.ErrFull", "redline/api.ErrState", "redline/api.ErrPower", "redline/api.ErrSum", "redline/api.ErrConflict"].contains x.1)
 have hpl : laidMetH Tryz.prog [("math/bits.deBruijn32tab", Rows.laid_math_bits_deBruijn32tab), ("math/bits.deBruijn64tab", Rows.laid_math_bits_deBruijn64tab), ("internal/strconv.uint64pow10", Rows.laid_internal_strconv_uint64pow10), ("redline/api.ErrRange", Rows.laid_redline_api_ErrRange), ("redline/api.ErrShort", Rows.laid_redline_api_ErrShort), ("redline/api.ErrLong", Rows.laid_redline_api_ErrLong), ("redline/api.ErrVarint", Rows.laid_redline_api_ErrVarint), ("redline/api.ErrTag", Rows.laid_redline_api_ErrTag), ("redline/api.ErrGroup", Rows.laid_redline_api_ErrGroup), ("redline/api.ErrRune", Rows.laid_redline_api_ErrRune), ("redline/api.ErrDepth", Rows.laid_redline_api_ErrDepth), ("redline/api.ErrForm", Rows.laid_redline_api_ErrForm), ("redline/api.ErrName", Rows.laid_redline_api_ErrName), ("redline/api.ErrDup", Rows.laid_redline_api_ErrDup), ("redline/api.ErrKind", Rows.laid_redline_api_ErrKind), ("redline/api.ErrClash", Rows.laid_redline_api_ErrClash), ("redline/api.ErrNone", Rows.laid_redline_api_ErrNone), ("redline/api.ErrFull", Rows.laid_redline_api_ErrFull), ("redline/api.ErrState", Rows.laid_redline_api_ErrState), ("redline/api.ErrPower", Rows.laid_redline_api_ErrPower), ("redline/api.ErrSum", Rows.laid_redline_api_ErrSum), ("redline/api.ErrConflict", Rows.laid_redline_api_ErrConflict), ("strconv.ErrRange", Rows.laid_strconv_ErrRange), ("strconv.ErrSyntax", Rows.laid_strconv_ErrSyntax)] W := h.filter (fun x => ["math/bits.deBruijn32tab", "math/bits.deBruijn64tab", "internal/strconv.uint64pow10", "redline/api.ErrRange", "redline/api.ErrShort", "redline/api.ErrLong", "redline/api.ErrVarint", "redline/api.ErrTag", "redline/api.ErrGroup", "redline/api.ErrRune", "redline/api.ErrDepth", "redline/api.ErrForm", "redline/api.ErrName", "redline/api.ErrDup", "redline/api.ErrKind", "redline/api.ErrClash", "redline/api.ErrNone", "redline/api.ErrFull", "redline/api.ErrState", "redline/api.ErrPower", "redline/api.ErrSum", "redline/api.ErrConflict", "strconv.ErrRange", "strconv.ErrSyntax"].contains x.1)
 obtain ⟨A, hne⟩ := ne_of_laid h19
 rw [MakeChecks.laidMetH_plain _ _ _ (by kernel_rfl)] at hpl
 obtain ⟨ps, h1, _, hrows⟩ := hpl
 have key := laid_one (P := Tryz.prog) (W := W) Tryz.underlying28 lo_rowE Tryz.underlying216 Tryz.underlying218 rfl rfl Tryz.underlying9 (by kernel_rfl) (by kernel_rfl) _ ps h1 hrows
 obtain ⟨ac, ec⟩ := key "strconv.ErrRange" _ (List.mem_of_getElem? (i := 22) rfl) 22 (by kernel_rfl) (by kernel_rfl)
 have hE : ETy W := by
  obtain ⟨name, u, ty, e1, e2, e3, e4, e5⟩ := (laidMetH_iff.1 h).2 ("errors.errorType", Rows.laid_errors_errorType) (List.mem_filter.2 ⟨List.mem_of_getElem? (i := 3) rfl, by rfl⟩)
  have en : name = [101, 114, 114, 111, 114] := (Option.some.inj e1).symm
  subst en
  obtain rfl := Option.some.inj (lf_rt.symm.trans e2)
  have hm : ty ∈ (List.range 259).filter fun t => Tryz.prog.rowNamed t [101, 114, 114, 111, 114] := List.mem_filter.2 ⟨List.mem_range.2 (by rw [← lf_size]; exact e3), e4⟩
  rw [lf_oneRow] at hm
  obtain rfl := List.mem_singleton.1 hm
  rw [lf_handle] at e5
  have hg : Tryz.prog.globalNamed "errors.errorType" = some 3 := by kernel_rfl
  show W.cell? _ = _
  simpa using World.var?_cell hg e5 0
 exact ⟨A, hne, ⟨⟨hne.cell 0 (by decide), hne.cell 2 (by decide), hne.cell 8 (by decide), ⟨_, _, ec⟩, Tryz.laysM143.s1_3 W hsh⟩, hne.cell 7 (by decide)⟩, hE⟩
theorem syntaxTexts_walk (W : World) (h : ∃ A, NE A W ∧ VarsD A W ∧ ETy W) (s : ByteArray) (hm : s.size ≤ maxLen) :
  Calls Tryz.prog 3 #[.string s] W fun e w' => e = .returned (.bool true) ∧ Below W.heap.size W w' := by
 obtain ⟨A, hne, hV, hE⟩ := h
 exact syntaxTexts_main A s W hne hV hE hm
end Go.Proofs.YtpcfdngnmigkfaaGreatDoor
