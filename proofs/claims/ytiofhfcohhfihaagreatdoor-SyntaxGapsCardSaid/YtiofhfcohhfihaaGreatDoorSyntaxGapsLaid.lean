/- What the walk of SyntaxGaps is told of the package-level variables. -/
import Derived.Test.YtiofhfcohhfihaaGreatDoorSyntaxGapsLaw
import Derived.Test.YtiofhfcohhfihaaGreatDoorLaidOne
import Derived.Test.YtiofhfcohhfihaaGreatDoorSxSameR3
namespace Go.Proofs.YtiofhfcohhfihaaGreatDoor
open Go.ChangeShapes Go.WideShapes Go.ChangeAt Go.RowKit
set_option linter.unusedVariables false

theorem of_laid {W : World} (h : laidMetH Tryz.prog [("math/bits.deBruijn32tab", Rows.laid_math_bits_deBruijn32tab), ("math/bits.deBruijn64tab", Rows.laid_math_bits_deBruijn64tab), ("internal/strconv.uint64pow10", Rows.laid_internal_strconv_uint64pow10), ("redline/api.ErrRange", Rows.laid_redline_api_ErrRange), ("redline/api.ErrLong", Rows.laid_redline_api_ErrLong), ("redline/api.ErrDepth", Rows.laid_redline_api_ErrDepth), ("redline/api.ErrForm", Rows.laid_redline_api_ErrForm), ("strconv.ErrRange", Rows.laid_strconv_ErrRange), ("strconv.ErrSyntax", Rows.laid_strconv_ErrSyntax)] W) (hsh : W.ShapedOpen Tryz.prog) : ∃ A, VarsD A W := by
  rw [MakeChecks.laidMetH_plain _ _ _ (by kernel_rfl)] at h
  obtain ⟨ps, h1, _, hrows⟩ := h
  have key := laid_one (P := Tryz.prog) (W := W) Tryz.underlying25 lo_rowE Tryz.underlying264 Tryz.underlying266 rfl rfl Tryz.underlying9 (by kernel_rfl) (by kernel_rfl) _ ps h1 hrows
  obtain ⟨a0, e0⟩ := key "redline/api.ErrRange" _ (List.mem_of_getElem? (i := 3) rfl) 6 (by kernel_rfl) (by kernel_rfl)
  obtain ⟨a2, e2⟩ := key "redline/api.ErrLong" _ (List.mem_of_getElem? (i := 4) rfl) 0 (by kernel_rfl) (by kernel_rfl)
  obtain ⟨a7, e7⟩ := key "redline/api.ErrDepth" _ (List.mem_of_getElem? (i := 5) rfl) 2 (by kernel_rfl) (by kernel_rfl)
  obtain ⟨a8, e8⟩ := key "redline/api.ErrForm" _ (List.mem_of_getElem? (i := 6) rfl) 1 (by kernel_rfl) (by kernel_rfl)
  obtain ⟨ac, ec⟩ := key "strconv.ErrRange" _ (List.mem_of_getElem? (i := 7) rfl) 22 (by kernel_rfl) (by kernel_rfl)
  exact ⟨fun i => if i = 0 then a0 else if i = 2 then a2 else if i = 7 then a7 else a8, ⟨e0, e2, e8, ⟨_, _, ec⟩, Tryz.laysM143.s1_3 W hsh⟩, e7⟩

theorem syntaxGaps_walk (W : World) (h : ∃ A, VarsD A W) (s : ByteArray) (hm : s.size ≤ maxLen) :
    Calls Tryz.prog 3 #[.string s] W fun e w' => e = .returned (.bool true) ∧ Below W.heap.size W w' := by
  obtain ⟨A, hV⟩ := h
  exact syntaxGaps_main rSame_any A s W hV hm

end Go.Proofs.YtiofhfcohhfihaaGreatDoor
