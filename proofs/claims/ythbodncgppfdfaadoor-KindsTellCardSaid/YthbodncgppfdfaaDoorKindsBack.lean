/- kinds.Back, Right and the references', walked. -/
import Derived.Test.YthbodncgppfdfaaDoorKindsFit
namespace Go.Proofs.YthbodncgppfdfaaDoor
open Go.RowKit
open Kinds (num zg zz sg u64 fitI backI rightI rightR)
set_option linter.unusedVariables false

theorem back_0 {k n : Int} (h : num k = false) : backI k n = 0 := by unfold backI; rw [if_pos h]
theorem back_7 {k n : Int} (h : k = 7 ∨ k = 8) : backI k n = if n < 9223372036854775808 then 2 * n else (18446744073709551615 - n) * 2 + 1 := by unfold backI; rw [if_neg (by rw [Bool.not_eq_false, Kinds.num_iff]; omega), if_pos h]
theorem back_11 {k n : Int} (h : k = 11) : backI k n = n % 4294967296 := by unfold backI; rw [if_neg (by rw [Bool.not_eq_false, Kinds.num_iff]; omega), if_neg (by omega), if_pos h]
theorem back_n {k n : Int} (hn : num k = true) (h : k ≠ 7 ∧ k ≠ 8 ∧ k ≠ 11) : backI k n = n := by unfold backI; rw [if_neg (by rw [hn]; decide), if_neg (by omega), if_neg (by omega)]

set_option maxRecDepth 100000 in
set_option maxHeartbeats 2000000 in
theorem back_any (k n : Int) (h0 : 0 ≤ n) (h1 : n ≤ 18446744073709551615) (w : World) : Calls Tryd.prog 19 #[.int .i64 k, .int .u64 n] w fun e w' => e = .returned (.int .u64 (backI k n)) ∧ w = w' := by
  have H1 := Lib.hid (number_any k w)
  have H2 := Lib.hid (fzig_any n h0 h1 w)
  have H3 := Lib.hid (fshort_any n h0 h1 w)
  have H7 := Lib.hid (fnothing_any n h0 h1 w)
  have H8 := Lib.hid (fas_any n h0 h1 w)
  go_enter Tryd.func19, Tryd.ntmps19
  go_wp2_with (first
    | (go_at_call 11; refine H1.out.mono ?_; rintro e w' ⟨rfl, rfl⟩)
    | (go_at_call 35; refine H2.out.mono ?_; rintro e w' ⟨rfl, rfl⟩)
    | (go_at_call 29; refine H3.out.mono ?_; rintro e w' ⟨rfl, rfl⟩)
    | (go_at_call 33; refine H7.out.mono ?_; rintro e w' ⟨rfl, rfl⟩)
    | (go_at_call 34; refine H8.out.mono ?_; rintro e w' ⟨rfl, rfl⟩)
    | (go_at_call 27; go_in))
  all_goals
    go_ret
    refine ⟨ret_u64 ?_, rfl⟩
    go_tidy
    clear H1 H2 H3 H7 H8
    (try simp only [beq_iff_eq, beq_eq_false_iff_ne, ne_eq, Bool.not_eq_true', Bool.not_eq_false'] at *)
    first
      | (rw [back_7 (by omega)]; exact Kinds.back_zz h0 h1)
      | exact (back_11 (by omega)).symm
      | exact (back_0 (by assumption)).symm
      | exact (back_n (by assumption) (by omega)).symm

set_option maxRecDepth 100000 in
set_option maxHeartbeats 2000000 in
theorem rback_any (k n : Int) (h0 : 0 ≤ n) (h1 : n ≤ 18446744073709551615) (w : World) : Calls Tryd.prog 20 #[.int .i64 k, .int .u64 n] w fun e w' => e = .returned (.int .u64 (backI k n)) ∧ w = w' := by
  have H1 := Lib.hid (rnumber_any k w)
  go_enter Tryd.func20, Tryd.ntmps20
  go_wp2_with (first
    | (go_at_call 9; refine H1.out.mono ?_; rintro e w' ⟨rfl, rfl⟩))
  all_goals
    go_ret
    refine ⟨ret_u64 ?_, rfl⟩
    go_tidy
    clear H1
    (try simp only [beq_iff_eq, beq_eq_false_iff_ne, ne_eq, Bool.not_eq_true', Bool.not_eq_false'] at *)
    first
      | (rw [back_7 (by omega), if_pos (by omega)]; omega)
      | (rw [back_7 (by omega), if_neg (by omega)]; done)
      | exact (back_11 (by omega)).symm
      | exact (back_0 (by assumption)).symm
      | exact (back_n (by assumption) (by omega)).symm

set_option maxRecDepth 100000 in
set_option maxHeartbeats 1000000 in
theorem right_any (k n : Int) (h0 : 0 ≤ n) (h1 : n ≤ 18446744073709551615) (w : World) : Calls Tryd.prog 21 #[.int .i64 k, .int .u64 n] w fun e w' => e = .returned (.bool (rightI k n)) ∧ w = w' := by
  have hr : rightI k n = (num k && fitI k (backI k n) == n) := rfl
  have hb : 0 ≤ backI k n ∧ backI k n ≤ 18446744073709551615 := by
    unfold backI
    (repeat' split) <;> omega
  have H1 := Lib.hid (number_any k w)
  have H2 := Lib.hid (back_any k n h0 h1 w)
  have H3 := Lib.hid (fit_any k (backI k n) hb.1 hb.2 w)
  rw [hr]
  generalize fitI k (backI k n) = f at *
  generalize backI k n = b at *
  cases hn : num k
  · rw [hn] at H1
    clear hn hr hb
    go_enter Tryd.func21, Tryd.ntmps21
    go_wp2_with fail
    refine H1.out.mono ?_
    rintro e w' ⟨rfl, rfl⟩
    go_wp2_with fail
    go_ret
    exact ⟨rfl, rfl⟩
  · rw [hn] at H1
    clear hn hr hb
    go_enter Tryd.func21, Tryd.ntmps21
    go_wp2_with fail
    refine H1.out.mono ?_
    rintro e w' ⟨rfl, rfl⟩
    go_wp2_with fail
    refine H2.out.mono ?_
    rintro e w' ⟨rfl, rfl⟩
    go_wp2_with fail
    refine H3.out.mono ?_
    rintro e w' ⟨rfl, rfl⟩
    go_wp2_with fail
    go_ret
    exact ⟨rfl, rfl⟩

theorem rr_3 {k n : Int} (h : k = 3 ∨ k = 7 ∨ k = 11 ∨ k = 16) : rightR k n = (sg n == n) := by unfold rightR; rw [if_pos h]
theorem rr_2 {k n : Int} (h : k = 2 ∨ k = 5 ∨ k = 9) : rightR k n = decide (n < 4294967296) := by unfold rightR; rw [if_neg (by omega), if_pos h]
theorem rr_13 {k n : Int} (h : k = 13) : rightR k n = decide (n < 2) := by unfold rightR; rw [if_neg (by omega), if_neg (by omega), if_pos h]
theorem rr_n {k n : Int} (h : k ≠ 3 ∧ k ≠ 7 ∧ k ≠ 11 ∧ k ≠ 16 ∧ k ≠ 2 ∧ k ≠ 5 ∧ k ≠ 9 ∧ k ≠ 13) : rightR k n = num k := by unfold rightR; rw [if_neg (by omega), if_neg (by omega), if_neg (by omega)]

set_option maxRecDepth 100000 in
set_option maxHeartbeats 2000000 in
theorem rright_any (k n : Int) (h0 : 0 ≤ n) (h1 : n ≤ 18446744073709551615) (w : World) : Calls Tryd.prog 22 #[.int .i64 k, .int .u64 n] w fun e w' => e = .returned (.bool (rightI k n)) ∧ w = w' := by
  rw [Kinds.right_is k n h0 h1]
  have H1 := Lib.hid (rnumber_any k w)
  have H2 := Lib.hid (rsigned_any n h0 h1 w)
  go_enter Tryd.func22, Tryd.ntmps22
  go_wp2_with (first
    | (go_at_call 9; refine H1.out.mono ?_; rintro e w' ⟨rfl, rfl⟩)
    | (go_at_call 25; refine H2.out.mono ?_; rintro e w' ⟨rfl, rfl⟩))
  all_goals
    go_ret
    refine ⟨ret_bool ?_, rfl⟩
    go_tidy
    clear H1 H2
    (try simp only [beq_iff_eq, beq_eq_false_iff_ne, ne_eq] at *)
    first
      | exact (rr_3 (by omega)).symm
      | exact (rr_2 (by omega)).symm
      | exact (rr_13 (by omega)).symm
      | exact (rr_n (by omega)).symm

end Go.Proofs.YthbodncgppfdfaaDoor
