/- cmp.Compare of integers and texts, cmp.Or, walked. -/
import Derived.Test.YtkldcjlkeblggaaDoorVKit
namespace Go.Proofs.YtkldcjlkeblggaaDoor
open Go.RowKit
open Val (ocmp orr scmp)
set_option linter.unusedVariables false

set_option maxRecDepth 100000 in
theorem isnan_int (k : Int) (w : World) : Calls Tryd.prog 58 #[.int .i64 k] w fun e w' => e = .returned (.bool false) ∧ w = w' := by
  go_enter Tryd.func58, Tryd.ntmps58
  go_wp2
  go_ret
  exact ⟨by simp, rfl⟩
set_option maxRecDepth 100000 in
theorem isnan_u64 (k : Int) (w : World) : Calls Tryd.prog 59 #[.int .u64 k] w fun e w' => e = .returned (.bool false) ∧ w = w' := by
  go_enter Tryd.func59, Tryd.ntmps59
  go_wp2
  go_ret
  exact ⟨by simp, rfl⟩
set_option maxRecDepth 100000 in
theorem isnan_str (k : ByteArray) (w : World) : Calls Tryd.prog 60 #[.string k] w fun e w' => e = .returned (.bool false) ∧ w = w' := by
  go_enter Tryd.func60, Tryd.ntmps60
  go_wp2
  go_ret
  exact ⟨by simp, rfl⟩

set_option maxRecDepth 100000 in
theorem cmp_int (a b : Int) (w : World) : Calls Tryd.prog 36 #[.int .i64 a, .int .i64 b] w fun e w' => e = .returned (.int .i64 (ocmp a b)) ∧ w = w' := by
  by_cases h1 : a < b
  · go_enter Tryd.func36, Tryd.ntmps36
    go_wp2_with (go_at_call 58; refine (isnan_int _ _).mono ?_; rintro e w' ⟨rfl, rfl⟩)
    go_ret
    exact ⟨ret_int (by unfold ocmp; repeat' split
                       all_goals omega), rfl⟩
  · by_cases h2 : b < a
    · go_enter Tryd.func36, Tryd.ntmps36
      go_wp2_with (go_at_call 58; refine (isnan_int _ _).mono ?_; rintro e w' ⟨rfl, rfl⟩)
      go_ret
      exact ⟨ret_int (by unfold ocmp; repeat' split
                         all_goals omega), rfl⟩
    · go_enter Tryd.func36, Tryd.ntmps36
      go_wp2_with (go_at_call 58; refine (isnan_int _ _).mono ?_; rintro e w' ⟨rfl, rfl⟩)
      go_ret
      exact ⟨ret_int (by unfold ocmp; repeat' split
                         all_goals omega), rfl⟩
set_option maxRecDepth 100000 in
theorem cmp_u64 (a b : Int) (w : World) : Calls Tryd.prog 37 #[.int .u64 a, .int .u64 b] w fun e w' => e = .returned (.int .i64 (ocmp a b)) ∧ w = w' := by
  by_cases h1 : a < b
  · go_enter Tryd.func37, Tryd.ntmps37
    go_wp2_with (go_at_call 59; refine (isnan_u64 _ _).mono ?_; rintro e w' ⟨rfl, rfl⟩)
    go_ret
    exact ⟨ret_int (by unfold ocmp; repeat' split
                       all_goals omega), rfl⟩
  · by_cases h2 : b < a
    · go_enter Tryd.func37, Tryd.ntmps37
      go_wp2_with (go_at_call 59; refine (isnan_u64 _ _).mono ?_; rintro e w' ⟨rfl, rfl⟩)
      go_ret
      exact ⟨ret_int (by unfold ocmp; repeat' split
                         all_goals omega), rfl⟩
    · go_enter Tryd.func37, Tryd.ntmps37
      go_wp2_with (go_at_call 59; refine (isnan_u64 _ _).mono ?_; rintro e w' ⟨rfl, rfl⟩)
      go_ret
      exact ⟨ret_int (by unfold ocmp; repeat' split
                         all_goals omega), rfl⟩
set_option maxRecDepth 100000 in
theorem cmp_str (a b : ByteArray) (w : World) : Calls Tryd.prog 38 #[.string a, .string b] w fun e w' => e = .returned (.int .i64 (scmp a b)) ∧ w = w' := by
  cases h1 : Op.bytesLess a.toList b.toList with
  | true =>
    have H1 := Lib.hid h1
    go_enter Tryd.func38, Tryd.ntmps38
    go_wp2_with (go_at_call 60; refine (isnan_str _ _).mono ?_; rintro e w' ⟨rfl, rfl⟩)
    go_ret
    exact ⟨ret_int (by simp [scmp, H1.out]), rfl⟩
  | false =>
    have H1 := Lib.hid h1
    cases h2 : (a.toList == b.toList) with
    | true =>
      have h3 : a.toList = b.toList := by simpa using h2
      have H3 := Lib.hid h3; clear h3
      go_enter Tryd.func38, Tryd.ntmps38
      go_wp2_with (go_at_call 60; refine (isnan_str _ _).mono ?_; rintro e w' ⟨rfl, rfl⟩)
      go_ret
      exact ⟨ret_int (by unfold scmp; rw [H1.out, if_neg (by simp), if_pos H3.out]), rfl⟩
    | false =>
      have h3 : ¬ a.toList = b.toList := by simpa using h2
      have H3 := Lib.hid h3; clear h3
      go_enter Tryd.func38, Tryd.ntmps38
      go_wp2_with (go_at_call 60; refine (isnan_str _ _).mono ?_; rintro e w' ⟨rfl, rfl⟩)
      go_ret
      exact ⟨ret_int (by simp [scmp, H1.out, H3.out]), rfl⟩

set_option maxRecDepth 100000 in
/-- cmp.Or of two numbers -/
theorem or_any (x y : Int) (w : World) (g : Nat) (hg : g < w.heap.size) (h0 : w.cell? ⟨g, 0, none⟩ = some (.int .i64 x)) (h1 : w.cell? ⟨g, 1, none⟩ = some (.int .i64 y)) :
    Calls Tryd.prog 39 #[.slice (some ⟨g, 0, none⟩) 2 2] w fun e w' => e = .returned (.int .i64 (orr x y)) ∧ w = w' := by
  cases hx : (x != 0) with
  | true =>
    have hx' : ¬ x = 0 := by simpa using hx
    have HX := Lib.hid hx'; clear hx'
    go_enter Tryd.func39, Tryd.ntmps39
    go_wp2
    refine wp_loop_rounds 1 ?_
    rw [rounds_succ]
    go_wp2
    go_ret
    exact ⟨ret_int (by simp [orr, HX.out]), rfl⟩
  | false =>
    have hx' : x = 0 := by simpa using hx
    have HX := Lib.hid hx'; clear hx'
    cases hy : (y != 0) with
    | true =>
      go_enter Tryd.func39, Tryd.ntmps39
      go_wp2
      refine wp_loop_rounds 2 ?_
      rw [rounds_succ]
      go_wp2
      rw [rounds_succ]
      go_wp2
      go_ret
      exact ⟨ret_int (by simp [orr, HX.out]), rfl⟩
    | false =>
      have hy' : y = 0 := by simpa using hy
      have HY := Lib.hid hy'; clear hy'
      go_enter Tryd.func39, Tryd.ntmps39
      go_wp2
      refine wp_loop_rounds 3 ?_
      rw [rounds_succ]
      go_wp2
      rw [rounds_succ]
      go_wp2
      rw [rounds_succ]
      go_wp2
      go_ret
      exact ⟨ret_int (by simp [orr, HX.out, HY.out]), rfl⟩

end Go.Proofs.YtkldcjlkeblggaaDoor
