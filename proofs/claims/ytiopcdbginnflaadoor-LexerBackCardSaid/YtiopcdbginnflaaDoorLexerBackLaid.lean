/- What the walk of LexerBack is told of the package-level variables. -/
import Derived.Test.YtiopcdbginnflaaDoorLexerBackLaw
import Derived.Test.YtiopcdbginnflaaDoorLaidOne
namespace Go.Proofs.YtiopcdbginnflaaDoor
open Go.ChangeShapes Go.WideShapes Go.ChangeAt Go.RowKit
set_option linter.unusedVariables false

theorem of_laid {W : World} (h : laidMetH Tryd.prog [("math/bits.deBruijn32tab", Rows.laid_math_bits_deBruijn32tab), ("math/bits.deBruijn64tab", Rows.laid_math_bits_deBruijn64tab), ("internal/strconv.uint64pow10", Rows.laid_internal_strconv_uint64pow10), ("redline/api.ErrRange", Rows.laid_redline_api_ErrRange), ("redline/api.ErrLong", Rows.laid_redline_api_ErrLong), ("redline/api.ErrForm", Rows.laid_redline_api_ErrForm), ("strconv.ErrRange", Rows.laid_strconv_ErrRange), ("strconv.ErrSyntax", Rows.laid_strconv_ErrSyntax)] W) (hsh : W.ShapedOpen Tryd.prog) : ∃ A, Vars A W := by
  rw [MakeChecks.laidMetH_plain _ _ _ (by kernel_rfl)] at h
  obtain ⟨ps, h1, _, hrows⟩ := h
  have key := laid_one (P := Tryd.prog) (W := W) Tryd.underlying25 rowE Tryd.underlying132 Tryd.underlying134 rfl rfl Tryd.underlying9 (by kernel_rfl) (by kernel_rfl) _ ps h1 hrows
  obtain ⟨a0, e0⟩ := key "redline/api.ErrRange" _ (List.mem_of_getElem? (i := 3) rfl) 2 (by kernel_rfl) (by kernel_rfl)
  obtain ⟨a2, e2⟩ := key "redline/api.ErrLong" _ (List.mem_of_getElem? (i := 4) rfl) 0 (by kernel_rfl) (by kernel_rfl)
  obtain ⟨a8, e8⟩ := key "redline/api.ErrForm" _ (List.mem_of_getElem? (i := 5) rfl) 1 (by kernel_rfl) (by kernel_rfl)
  obtain ⟨ac, ec⟩ := key "strconv.ErrRange" _ (List.mem_of_getElem? (i := 6) rfl) 23 (by kernel_rfl) (by kernel_rfl)
  exact ⟨fun i => if i = 0 then a0 else if i = 2 then a2 else a8, e0, e2, e8, ⟨_, _, ec⟩, Tryd.laysM143.s1_3 W hsh⟩

end Go.Proofs.YtiopcdbginnflaaDoor
