/- The functions of package kinds, of varint and of the references, walked. -/
import Derived.Test.YthbodncgppfdfaaDoorBase2
import Derived.Test.YthbodncgppfdfaaDoorKindsPlain
namespace Go.Proofs.YthbodncgppfdfaaDoor
open Go.RowKit
open Kinds (num zg zz sg u64 fitI backI rightI rightR)
set_option linter.unusedVariables false

theorem ret_u64 {a b : Int} (h : a = b) : Ending.returned (.int .u64 a) = .returned (.int .u64 b) := by rw [h]

set_option maxRecDepth 100000 in
theorem zag_any (n : Int) (h0 : 0 ≤ n) (h1 : n ≤ 18446744073709551615) (w : World) : Calls Tryd.prog 36 #[.int .u64 n] w fun e w' => e = .returned (.int .i64 (zg n)) ∧ w = w' := by
  go_enter Tryd.func36, Tryd.ntmps36
  go_wp2
  go_ret
  exact ⟨ret_int (Kinds.zag_form h0 h1), rfl⟩

set_option maxRecDepth 100000 in
theorem zig_any (n : Int) (h0 : -9223372036854775808 ≤ n) (h1 : n ≤ 9223372036854775807) (w : World) : Calls Tryd.prog 37 #[.int .i64 n] w fun e w' => e = .returned (.int .u64 (zz n)) ∧ w = w' := by
  go_enter Tryd.func37, Tryd.ntmps37
  go_wp2
  go_ret
  exact ⟨ret_int (Kinds.zig_form h0 h1), rfl⟩

set_option maxRecDepth 100000 in
theorem fsigned_any (n : Int) (h0 : 0 ≤ n) (h1 : n ≤ 18446744073709551615) (w : World) : Calls Tryd.prog 28 #[.int .u64 n] w fun e w' => e = .returned (.int .u64 (sg n)) ∧ w = w' := by
  go_enter Tryd.func28, Tryd.ntmps28
  go_wp2
  go_ret
  exact ⟨ret_int (Kinds.sg_form), rfl⟩

set_option maxRecDepth 100000 in
theorem fshort_any (n : Int) (h0 : 0 ≤ n) (h1 : n ≤ 18446744073709551615) (w : World) : Calls Tryd.prog 29 #[.int .u64 n] w fun e w' => e = .returned (.int .u64 (n % 4294967296)) ∧ w = w' := by
  go_enter Tryd.func29, Tryd.ntmps29
  go_wp2
  go_ret
  exact ⟨ret_int (rfl), rfl⟩

set_option maxRecDepth 100000 in
theorem ftruth_any (n : Int) (h0 : 0 ≤ n) (h1 : n ≤ 18446744073709551615) (w : World) : Calls Tryd.prog 32 #[.int .u64 n] w fun e w' => e = .returned (.int .u64 (if 0 < n then 1 else 0)) ∧ w = w' := by
  go_enter Tryd.func32, Tryd.ntmps32
  go_wp2
  all_goals
    go_ret
    exact ⟨ret_int (by first | (split <;> omega) | omega), rfl⟩

set_option maxRecDepth 100000 in
theorem fnothing_any (n : Int) (h0 : 0 ≤ n) (h1 : n ≤ 18446744073709551615) (w : World) : Calls Tryd.prog 33 #[.int .u64 n] w fun e w' => e = .returned (.int .u64 (0)) ∧ w = w' := by
  go_enter Tryd.func33, Tryd.ntmps33
  go_wp2
  go_ret
  exact ⟨ret_int (rfl), rfl⟩

set_option maxRecDepth 100000 in
theorem fas_any (n : Int) (h0 : 0 ≤ n) (h1 : n ≤ 18446744073709551615) (w : World) : Calls Tryd.prog 34 #[.int .u64 n] w fun e w' => e = .returned (.int .u64 (n)) ∧ w = w' := by
  go_enter Tryd.func34, Tryd.ntmps34
  go_wp2
  go_ret
  exact ⟨ret_int (rfl), rfl⟩

set_option maxRecDepth 100000 in
theorem rsigned_any (n : Int) (h0 : 0 ≤ n) (h1 : n ≤ 18446744073709551615) (w : World) : Calls Tryd.prog 25 #[.int .u64 n] w fun e w' => e = .returned (.int .u64 (sg n)) ∧ w = w' := by
  go_enter Tryd.func25, Tryd.ntmps25
  go_wp2
  all_goals
    go_ret
    exact ⟨ret_int (by unfold sg; first | (split <;> omega) | omega), rfl⟩

set_option maxRecDepth 100000 in
theorem rzag_any (n : Int) (h0 : 0 ≤ n) (h1 : n ≤ 18446744073709551615) (w : World) : Calls Tryd.prog 26 #[.int .u64 n] w fun e w' => e = .returned (.int .i64 (zg n)) ∧ w = w' := by
  have hp := Kinds.zg_bounds h0 h1
  rcases (by omega : n % 2 = 0 ∨ n % 2 = 1) with h | h
  · have hz : zg n = n / 2 := by unfold zg; rw [if_pos h]
    have hb : (n % 2 == 0) = true := beq_iff_eq.2 h
    rw [hz]; clear hz h hp
    go_enter Tryd.func26, Tryd.ntmps26
    go_wp2
    go_ret
    exact ⟨rfl, rfl⟩
  · have hz : zg n = -1 - n / 2 := by unfold zg; rw [if_neg (by omega)]
    have hb : (n % 2 == 0) = false := beq_eq_false_iff_ne.2 (by omega)
    rw [hz]; clear hz h hp
    go_enter Tryd.func26, Tryd.ntmps26
    go_wp2
    go_ret
    exact ⟨rfl, rfl⟩

set_option maxRecDepth 100000 in
theorem fzag_any (n : Int) (h0 : 0 ≤ n) (h1 : n ≤ 18446744073709551615) (w : World) : Calls Tryd.prog 31 #[.int .u64 n] w fun e w' => e = .returned (.int .u64 (u64 (zg n))) ∧ w = w' := by
  have hp := Kinds.zg_bounds h0 h1
  have H := Lib.hid (zag_any n h0 h1 w)
  go_enter Tryd.func31, Tryd.ntmps31
  go_wp2_with fail
  refine H.out.mono ?_
  rintro e w' ⟨rfl, rfl⟩
  go_wp2_with fail
  go_ret
  exact ⟨ret_int (IntKind.wrap_u64 _), rfl⟩

set_option maxRecDepth 100000 in
theorem fshortZag_any (n : Int) (h0 : 0 ≤ n) (h1 : n ≤ 18446744073709551615) (w : World) : Calls Tryd.prog 30 #[.int .u64 n] w fun e w' => e = .returned (.int .u64 (u64 (zg (n % 4294967296)))) ∧ w = w' := by
  have hp := Kinds.zg_bounds (n := n % 4294967296) (by omega) (by omega)
  have H := Lib.hid (zag_any (n % 4294967296) (by omega) (by omega) w)
  have H2 := Lib.hid (fshort_any n h0 h1 w)
  go_enter Tryd.func30, Tryd.ntmps30
  go_wp2_with fail
  refine H2.out.mono ?_
  rintro e w' ⟨rfl, rfl⟩
  go_wp2_with fail
  refine H.out.mono ?_
  rintro e w' ⟨rfl, rfl⟩
  go_wp2_with fail
  go_ret
  exact ⟨ret_int (IntKind.wrap_u64 _), rfl⟩

set_option maxRecDepth 100000 in
theorem fzig_any (n : Int) (h0 : 0 ≤ n) (h1 : n ≤ 18446744073709551615) (w : World) : Calls Tryd.prog 35 #[.int .u64 n] w fun e w' => e = .returned (.int .u64 (zz (wrap64 n))) ∧ w = w' := by
  have hb : -9223372036854775808 ≤ wrap64 n ∧ wrap64 n ≤ 9223372036854775807 := by unfold wrap64; omega
  have H := Lib.hid (zig_any (wrap64 n) hb.1 hb.2 w)
  clear hb
  go_enter Tryd.func35, Tryd.ntmps35
  go_wp2_with fail
  refine H.out.mono ?_
  rintro e w' ⟨rfl, rfl⟩
  go_wp2_with fail
  go_ret
  exact ⟨rfl, rfl⟩

set_option maxRecDepth 100000 in
theorem number_any (k : Int) (w : World) : Calls Tryd.prog 11 #[.int .i64 k] w fun e w' => e = .returned (.bool (num k)) ∧ w = w' := by
  rcases (by omega : k < 1 ∨ (1 ≤ k ∧ k ≤ 13) ∨ k = 16 ∨ (13 < k ∧ k ≠ 16)) with h | ⟨h, h'⟩ | h | ⟨h, h'⟩
  · have hn : num k = false := by rw [Bool.eq_false_iff, ne_eq, Kinds.num_iff]; omega
    rw [hn]; clear hn
    have hb : (k == 16) = false := beq_eq_false_iff_ne.2 (by omega)
    go_enter Tryd.func11, Tryd.ntmps11
    go_wp2
    go_ret
    exact ⟨ret_bool (by first | rfl | (simp; omega)), rfl⟩
  · have hn : num k = true := by rw [Kinds.num_iff]; omega
    rw [hn]; clear hn
    go_enter Tryd.func11, Tryd.ntmps11
    go_wp2
    go_ret
    exact ⟨ret_bool (by first | rfl | (simp; omega)), rfl⟩
  · subst h
    go_enter Tryd.func11, Tryd.ntmps11
    go_wp2
    go_ret
    exact ⟨ret_bool (by first | rfl | (simp; omega)), rfl⟩
  · have hn : num k = false := by rw [Bool.eq_false_iff, ne_eq, Kinds.num_iff]; omega
    rw [hn]; clear hn
    have hb : (k == 16) = false := beq_eq_false_iff_ne.2 (by omega)
    go_enter Tryd.func11, Tryd.ntmps11
    go_wp2
    go_ret
    exact ⟨ret_bool (by first | rfl | (simp; omega)), rfl⟩

set_option maxRecDepth 100000 in
theorem rnumber_any (k : Int) (w : World) : Calls Tryd.prog 9 #[.int .i64 k] w fun e w' => e = .returned (.bool (num k)) ∧ w = w' := by
  rcases (by omega : k < 1 ∨ (1 ≤ k ∧ k ≤ 13) ∨ k = 16 ∨ (13 < k ∧ k ≠ 16)) with h | ⟨h, h'⟩ | h | ⟨h, h'⟩
  · have hn : num k = false := by rw [Bool.eq_false_iff, ne_eq, Kinds.num_iff]; omega
    rw [hn]; clear hn
    have hb : (k == 16) = false := beq_eq_false_iff_ne.2 (by omega)
    go_enter Tryd.func9, Tryd.ntmps9
    go_wp2
    go_ret
    exact ⟨ret_bool (by first | rfl | (simp; omega)), rfl⟩
  · have hn : num k = true := by rw [Kinds.num_iff]; omega
    rw [hn]; clear hn
    go_enter Tryd.func9, Tryd.ntmps9
    go_wp2
    go_ret
    exact ⟨ret_bool (by first | rfl | (simp; omega)), rfl⟩
  · subst h
    go_enter Tryd.func9, Tryd.ntmps9
    go_wp2
    go_ret
    exact ⟨ret_bool (by first | rfl | (simp; omega)), rfl⟩
  · have hn : num k = false := by rw [Bool.eq_false_iff, ne_eq, Kinds.num_iff]; omega
    rw [hn]; clear hn
    have hb : (k == 16) = false := beq_eq_false_iff_ne.2 (by omega)
    go_enter Tryd.func9, Tryd.ntmps9
    go_wp2
    go_ret
    exact ⟨ret_bool (by first | rfl | (simp; omega)), rfl⟩

set_option maxRecDepth 100000 in
theorem packs_any (k : Int) (w : World) : Calls Tryd.prog 12 #[.int .i64 k] w fun e w' => e = .returned (.bool (num k)) ∧ w = w' := by
  rcases (by omega : k < 1 ∨ (1 ≤ k ∧ k ≤ 13) ∨ k = 16 ∨ (13 < k ∧ k ≠ 16)) with h | ⟨h, h'⟩ | h | ⟨h, h'⟩
  · have hn : num k = false := by rw [Bool.eq_false_iff, ne_eq, Kinds.num_iff]; omega
    rw [hn]; clear hn
    have hb : (k == 16) = false := beq_eq_false_iff_ne.2 (by omega)
    go_enter Tryd.func12, Tryd.ntmps12
    go_wp2
    go_ret
    exact ⟨ret_bool (by first | rfl | (simp; omega)), rfl⟩
  · have hn : num k = true := by rw [Kinds.num_iff]; omega
    rw [hn]; clear hn
    go_enter Tryd.func12, Tryd.ntmps12
    go_wp2
    go_ret
    exact ⟨ret_bool (by first | rfl | (simp; omega)), rfl⟩
  · subst h
    go_enter Tryd.func12, Tryd.ntmps12
    go_wp2
    go_ret
    exact ⟨ret_bool (by first | rfl | (simp; omega)), rfl⟩
  · have hn : num k = false := by rw [Bool.eq_false_iff, ne_eq, Kinds.num_iff]; omega
    rw [hn]; clear hn
    have hb : (k == 16) = false := beq_eq_false_iff_ne.2 (by omega)
    go_enter Tryd.func12, Tryd.ntmps12
    go_wp2
    go_ret
    exact ⟨ret_bool (by first | rfl | (simp; omega)), rfl⟩

end Go.Proofs.YthbodncgppfdfaaDoor
