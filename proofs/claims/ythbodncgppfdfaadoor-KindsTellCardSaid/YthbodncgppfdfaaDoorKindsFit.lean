/- kinds.Fit, Back, Right and the references', walked. -/
import Derived.Test.YthbodncgppfdfaaDoorKindsWalk
namespace Go.Proofs.YthbodncgppfdfaaDoor
open Go.RowKit
open Kinds (num zg zz sg u64 fitI backI rightI rightR)
set_option linter.unusedVariables false

theorem fit_3 {k n : Int} (h : k = 3 ∨ k = 11 ∨ k = 16) : fitI k n = sg n := by unfold fitI; rw [if_pos h]
theorem fit_2 {k n : Int} (h : k = 2 ∨ k = 5 ∨ k = 9) : fitI k n = n % 4294967296 := by unfold fitI; rw [if_neg (by omega), if_pos h]
theorem fit_7 {k n : Int} (h : k = 7) : fitI k n = u64 (zg (n % 4294967296)) := by unfold fitI; rw [if_neg (by omega), if_neg (by omega), if_pos h]
theorem fit_8 {k n : Int} (h : k = 8) : fitI k n = u64 (zg n) := by unfold fitI; rw [if_neg (by omega), if_neg (by omega), if_neg (by omega), if_pos h]
theorem fit_13 {k n : Int} (h : k = 13) : fitI k n = if 0 < n then 1 else 0 := by unfold fitI; rw [if_neg (by omega), if_neg (by omega), if_neg (by omega), if_neg (by omega), if_pos h]
theorem fit_n {k n : Int} (h : k ≠ 3 ∧ k ≠ 11 ∧ k ≠ 16 ∧ k ≠ 2 ∧ k ≠ 5 ∧ k ≠ 9 ∧ k ≠ 7 ∧ k ≠ 8 ∧ k ≠ 13) : fitI k n = if num k then n else 0 := by unfold fitI; rw [if_neg (by omega), if_neg (by omega), if_neg (by omega), if_neg (by omega), if_neg (by omega)]

set_option maxRecDepth 100000 in
set_option maxHeartbeats 2000000 in
theorem fit_any (k n : Int) (h0 : 0 ≤ n) (h1 : n ≤ 18446744073709551615) (w : World) : Calls Tryd.prog 17 #[.int .i64 k, .int .u64 n] w fun e w' => e = .returned (.int .u64 (fitI k n)) ∧ w = w' := by
  have H1 := Lib.hid (number_any k w)
  have H2 := Lib.hid (fsigned_any n h0 h1 w)
  have H3 := Lib.hid (fshort_any n h0 h1 w)
  have H4 := Lib.hid (fshortZag_any n h0 h1 w)
  have H5 := Lib.hid (fzag_any n h0 h1 w)
  have H6 := Lib.hid (ftruth_any n h0 h1 w)
  have H7 := Lib.hid (fnothing_any n h0 h1 w)
  have H8 := Lib.hid (fas_any n h0 h1 w)
  go_enter Tryd.func17, Tryd.ntmps17
  go_wp2_with (first
    | (go_at_call 11; refine H1.out.mono ?_; rintro e w' ⟨rfl, rfl⟩)
    | (go_at_call 28; refine H2.out.mono ?_; rintro e w' ⟨rfl, rfl⟩)
    | (go_at_call 29; refine H3.out.mono ?_; rintro e w' ⟨rfl, rfl⟩)
    | (go_at_call 30; refine H4.out.mono ?_; rintro e w' ⟨rfl, rfl⟩)
    | (go_at_call 31; refine H5.out.mono ?_; rintro e w' ⟨rfl, rfl⟩)
    | (go_at_call 32; refine H6.out.mono ?_; rintro e w' ⟨rfl, rfl⟩)
    | (go_at_call 33; refine H7.out.mono ?_; rintro e w' ⟨rfl, rfl⟩)
    | (go_at_call 34; refine H8.out.mono ?_; rintro e w' ⟨rfl, rfl⟩)
    | (go_at_call 24; go_in))
  all_goals
    go_ret
    refine ⟨ret_u64 ?_, rfl⟩
    go_tidy
    clear H1 H2 H3 H4 H5 H6 H7 H8
    (try simp only [beq_iff_eq, beq_eq_false_iff_ne, ne_eq, Bool.not_eq_true', Bool.not_eq_false'] at *)
    first
      | exact (fit_3 (by omega)).symm
      | exact (fit_2 (by omega)).symm
      | exact (fit_7 (by omega)).symm
      | exact (fit_8 (by omega)).symm
      | (rw [fit_13 (by omega)]; first | (rw [if_pos (by omega)]; done) | (rw [if_neg (by omega)]; done))
      | (rw [fit_n (by omega)]; simp [*]; done)

set_option maxRecDepth 100000 in
set_option maxHeartbeats 2000000 in
theorem rfit_any (k n : Int) (h0 : 0 ≤ n) (h1 : n ≤ 18446744073709551615) (w : World) : Calls Tryd.prog 18 #[.int .i64 k, .int .u64 n] w fun e w' => e = .returned (.int .u64 (fitI k n)) ∧ w = w' := by
  have H1 := Lib.hid (rnumber_any k w)
  have H2 := Lib.hid (rsigned_any n h0 h1 w)
  have H3 := Lib.hid (rzag_any (n % 4294967296) (by omega) (by omega) w)
  have H4 := Lib.hid (rzag_any n h0 h1 w)
  have H5 := True.intro; have H6 := True.intro; have H7 := True.intro; have H8 := True.intro
  go_enter Tryd.func18, Tryd.ntmps18
  go_wp2_with (first
    | (go_at_call 9; refine H1.out.mono ?_; rintro e w' ⟨rfl, rfl⟩)
    | (go_at_call 25; refine H2.out.mono ?_; rintro e w' ⟨rfl, rfl⟩)
    | (go_at_call 26; (with_reducible refine H3.out.mono ?_); rintro e w' ⟨rfl, rfl⟩)
    | (go_at_call 26; (with_reducible refine H4.out.mono ?_); rintro e w' ⟨rfl, rfl⟩))
  all_goals
    go_ret
    refine ⟨ret_u64 ?_, rfl⟩
    go_tidy
    clear H1 H2 H3 H4 H5 H6 H7 H8
    (try simp only [beq_iff_eq, beq_eq_false_iff_ne, ne_eq, Bool.not_eq_true', Bool.not_eq_false'] at *)
    first
      | exact (fit_3 (by omega)).symm
      | exact (fit_2 (by omega)).symm
      | (rw [fit_7 (by omega)]; exact IntKind.wrap_u64 _)
      | (rw [fit_8 (by omega)]; exact IntKind.wrap_u64 _)
      | (rw [fit_13 (by omega)]; first | (rw [if_pos (by omega)]; done) | (rw [if_neg (by omega)]; done))
      | (rw [fit_n (by omega)]; simp [*]; done)

end Go.Proofs.YthbodncgppfdfaaDoor
