/- The laws of kinds, walked: their example, and KindsFit. -/
import Derived.Test.YthbodncgppfdfaaDoorKindsOf
namespace Go.Proofs.YthbodncgppfdfaaDoor
open Go.RowKit
open Kinds (num zg zz sg u64 fitI backI rightI rightR)
set_option linter.unusedVariables false

theorem fitI_bounds {k n : Int} (h0 : 0 ≤ n) (h1 : n ≤ 18446744073709551615) : 0 ≤ fitI k n ∧ fitI k n ≤ 18446744073709551615 := by
  unfold fitI sg u64
  (repeat' split) <;> omega
theorem backI_bounds {k n : Int} (h0 : 0 ≤ n) (h1 : n ≤ 18446744073709551615) : 0 ≤ backI k n ∧ backI k n ≤ 18446744073709551615 := by
  unfold backI
  (repeat' split) <;> omega
theorem fit_alive : fitI 7 3 = 18446744073709551614 := by decide
theorem wk_alive : wk ⟨#[115, 105, 110, 116, 51, 50]⟩ 15 = 7 := by decide +kernel
theorem kname_alive : kname 7 = ⟨#[115, 105, 110, 116, 51, 50]⟩ := by decide +kernel

set_option maxRecDepth 100000 in
set_option maxHeartbeats 1000000 in
theorem alive10 (w : World) (hL : Laid w) : Calls Tryd.prog 6 #[] w fun e w' => e = .returned (.bool true) ∧ w = w' := by
  have h1 := of_any ⟨#[115, 105, 110, 116, 51, 50]⟩ w hL
  have h2 := fit_any 7 3 (by omega) (by omega) w
  have h3 := name_any 7 w hL
  rw [wk_alive] at h1
  rw [fit_alive] at h2
  rw [kname_alive] at h3
  have H1 := Lib.hid h1; have H2 := Lib.hid h2; have H3 := Lib.hid h3
  clear h1 h2 h3 hL
  have hw2 : (wrap64 18446744073709551614 == -2) = true := by unfold wrap64; decide
  go_enter Tryd.func6, Tryd.ntmps6
  go_wp2_with fail
  refine H1.out.mono ?_
  rintro e w' ⟨rfl, rfl⟩
  go_wp2_with fail
  refine H2.out.mono ?_
  rintro e w' ⟨rfl, rfl⟩
  go_wp2_with fail
  refine H3.out.mono ?_
  rintro e w' ⟨rfl, rfl⟩
  go_wp2_with fail
  go_ret
  exact ⟨rfl, rfl⟩

theorem wf_u64 {n : Int} (h : (Lit.int .u64 n).wf = true) : 0 ≤ n ∧ n ≤ 18446744073709551615 := by
  simpa [Lit.wf, IntKind.min, IntKind.max, IntKind.signed, IntKind.bits] using h
theorem wf_i64 {n : Int} (h : (Lit.int .i64 n).wf = true) : -9223372036854775808 ≤ n ∧ n ≤ 9223372036854775807 := by
  simpa [Lit.wf, IntKind.min, IntKind.max, IntKind.signed, IntKind.bits] using h

set_option maxRecDepth 100000 in
set_option maxHeartbeats 1000000 in
theorem kindsFit_walk (w : World) (hL : Laid w) (k : Int) (hk : (Lit.int .i64 k).wf = true) (n : Int) (hn : (Lit.int .u64 n).wf = true) :
    Calls Tryd.prog 4 #[.int .i64 k, .int .u64 n] w fun e w' => e = .returned (.bool true) ∧ Below w.heap.size w w' := by
  obtain ⟨h0, h1⟩ := wf_u64 hn
  have H0 := Lib.hid (alive10 w hL)
  have H1 := Lib.hid (fit_any k n h0 h1 w)
  have H2 := Lib.hid (rfit_any k n h0 h1 w)
  have H3 := Lib.hid (back_any k n h0 h1 w)
  have H4 := Lib.hid (rback_any k n h0 h1 w)
  have H5 := Lib.hid (right_any k n h0 h1 w)
  have H6 := Lib.hid (rright_any k n h0 h1 w)
  generalize fitI k n = f at *
  generalize backI k n = b at *
  generalize rightI k n = r at *
  clear hn hk hL h1
  go_enter Tryd.func4, Tryd.ntmps4
  go_wp2_with fail
  refine H0.out.mono ?_
  rintro e w' ⟨rfl, rfl⟩
  go_wp2_with fail
  refine H1.out.mono ?_
  rintro e w' ⟨rfl, rfl⟩
  go_wp2_with fail
  refine H2.out.mono ?_
  rintro e w' ⟨rfl, rfl⟩
  go_wp2_with fail
  refine H3.out.mono ?_
  rintro e w' ⟨rfl, rfl⟩
  go_wp2_with fail
  refine H4.out.mono ?_
  rintro e w' ⟨rfl, rfl⟩
  go_wp2_with fail
  refine H5.out.mono ?_
  rintro e w' ⟨rfl, rfl⟩
  go_wp2_with fail
  refine H6.out.mono ?_
  rintro e w' ⟨rfl, rfl⟩
  go_wp2_with fail
  go_ret
  exact ⟨ret_bool (by simp), Below.refl _ _⟩

end Go.Proofs.YthbodncgppfdfaaDoor
