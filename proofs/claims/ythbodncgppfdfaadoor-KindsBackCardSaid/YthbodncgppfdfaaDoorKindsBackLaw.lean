/- The law KindsBack, walked. -/
import Derived.Test.YthbodncgppfdfaaDoorKindsFitLaw
namespace Go.Proofs.YthbodncgppfdfaaDoor
open Go.RowKit
open Kinds (num zg zz sg u64 fitI backI rightI rightR)
set_option linter.unusedVariables false

theorem right_of_fit {k n : Int} (hn : num k = true) (h0 : 0 ≤ n) (h1 : n ≤ 18446744073709551615) : rightI k (fitI k n) = true := by
  have hb := fitI_bounds (k := k) h0 h1
  rw [Kinds.right_is _ _ hb.1 hb.2]
  rw [Kinds.num_iff] at hn
  have hk : k = 1 ∨ k = 2 ∨ k = 3 ∨ k = 4 ∨ k = 5 ∨ k = 6 ∨ k = 7 ∨ k = 8 ∨ k = 9 ∨ k = 10 ∨ k = 11 ∨ k = 12 ∨ k = 13 ∨ k = 16 := by omega
  clear hb
  unfold rightR fitI
  rcases hk with rfl | rfl | rfl | rfl | rfl | rfl | rfl | rfl | rfl | rfl | rfl | rfl | rfl | rfl
  all_goals simp [num, sg, zg, u64]
  all_goals ((repeat' split) <;> omega)

theorem not_num {k n : Int} (hn : num k = false) : rightI k n = false ∧ fitI k n = 0 ∧ backI k n = 0 := by
  have h : ¬ ((1 ≤ k ∧ k ≤ 13) ∨ k = 16) := by rw [← Kinds.num_iff, hn]; decide
  refine ⟨by unfold rightI; rw [hn]; rfl, ?_, by unfold backI; rw [if_pos hn]⟩
  rw [fit_n (by omega), hn]; rfl

theorem back_short {k n : Int} (hw : wireI k = 5) (hr : rightI k n = true) (h0 : 0 ≤ n) (h1 : n ≤ 18446744073709551615) : backI k n < 4294967296 := by
  have hk : k = 2 ∨ k = 9 ∨ k = 11 := by
    unfold wireI at hw
    (repeat' split at hw) <;> omega
  rw [Kinds.right_is _ _ h0 h1] at hr
  unfold rightR at hr
  unfold backI
  rcases hk with rfl | rfl | rfl
  all_goals simp [num] at hr ⊢
  all_goals omega

set_option maxRecDepth 100000 in
set_option maxHeartbeats 2000000 in
theorem kindsBack_walk (w : World) (hL : Laid w) (k : Int) (hk : (Lit.int .i64 k).wf = true) (n : Int) (hn : (Lit.int .u64 n).wf = true) :
    Calls Tryd.prog 5 #[.int .i64 k, .int .u64 n] w fun e w' => e = .returned (.bool true) ∧ Below w.heap.size w w' := by
  obtain ⟨h0, h1⟩ := wf_u64 hn
  have H0 := Lib.hid (alive10 w hL)
  have h2 := number_any k w
  have h3 := right_any k n h0 h1 w
  have h4 := fit_any k n h0 h1 w
  have h5 := back_any k n h0 h1 w
  cases hnk : num k with
  | false =>
    obtain ⟨e1, e2, e3⟩ := not_num (n := n) hnk
    rw [hnk] at h2
    rw [e1] at h3
    rw [e2] at h4
    rw [e3] at h5
    have H2 := Lib.hid h2; have H3 := Lib.hid h3; have H4 := Lib.hid h4; have H5 := Lib.hid h5
    clear h2 h3 h4 h5 e1 e2 e3 hnk hn hk hL h1
    go_enter Tryd.func5, Tryd.ntmps5
    go_wp2_with fail
    refine H0.out.mono ?_
    rintro e w' ⟨rfl, rfl⟩
    go_wp2_with fail
    refine H2.out.mono ?_
    rintro e w' ⟨rfl, rfl⟩
    go_wp2_with fail
    refine H3.out.mono ?_
    rintro e w' ⟨rfl, rfl⟩
    go_wp2_with fail
    refine H4.out.mono ?_
    rintro e w' ⟨rfl, rfl⟩
    go_wp2_with fail
    refine H5.out.mono ?_
    rintro e w' ⟨rfl, rfl⟩
    go_wp2_with fail
    go_ret
    exact ⟨rfl, Below.refl _ _⟩
  | true =>
    have hb := fitI_bounds (k := k) h0 h1
    have hb2 := backI_bounds (k := k) (n := fitI k n) hb.1 hb.2
    have hr := right_of_fit hnk h0 h1
    have h6 := right_any k (fitI k n) hb.1 hb.2 w
    have h7 := back_any k (fitI k n) hb.1 hb.2 w
    have h8 := fit_any k (backI k (fitI k n)) hb2.1 hb2.2 w
    have hx : fitI k (backI k (fitI k n)) = fitI k n := by
      have := hr
      unfold rightI at this
      rw [hnk] at this
      simpa using this
    rw [hr] at h6
    rw [hx] at h8
    rw [hnk] at h2
    generalize backI k (fitI k n) = b1 at *
    generalize fitI k n = f1 at *
    cases hri : rightI k n with
    | false =>
      rw [hri] at h3
      have H2 := Lib.hid h2; have H3 := Lib.hid h3; have H4 := Lib.hid h4; have H6 := Lib.hid h6; have H7 := Lib.hid h7; have H8 := Lib.hid h8
      clear h2 h3 h4 h5 h6 h7 h8 hnk hn hk hL h1 hb hb2 hr hx hri
      go_enter Tryd.func5, Tryd.ntmps5
      go_wp2_with fail
      refine H0.out.mono ?_
      rintro e w' ⟨rfl, rfl⟩
      go_wp2_with fail
      refine H2.out.mono ?_
      rintro e w' ⟨rfl, rfl⟩
      go_wp2_with fail
      refine H4.out.mono ?_
      rintro e w' ⟨rfl, rfl⟩
      go_wp2_with fail
      refine H6.out.mono ?_
      rintro e w' ⟨rfl, rfl⟩
      go_wp2_with fail
      refine H7.out.mono ?_
      rintro e w' ⟨rfl, rfl⟩
      go_wp2_with fail
      refine H8.out.mono ?_
      rintro e w' ⟨rfl, rfl⟩
      have hne : (f1 != f1) = false := by simp
      go_wp2_with fail
      refine H3.out.mono ?_
      rintro e w' ⟨rfl, rfl⟩
      go_wp2_with fail
      go_ret
      exact ⟨rfl, Below.refl _ _⟩
    | true =>
      have hb3 := backI_bounds (k := k) (n := n) h0 h1
      have h9 := fit_any k (backI k n) hb3.1 hb3.2 w
      have hy : fitI k (backI k n) = n := by
        have := hri
        unfold rightI at this
        rw [hnk] at this
        simpa using this
      have hsh := fun hw => back_short (k := k) (n := n) hw hri h0 h1
      have h10 := wire_any k w
      rw [hy] at h9
      rw [hri] at h3
      generalize backI k n = b2 at *
      generalize wireI k = wi at *
      have H2 := Lib.hid h2; have H3 := Lib.hid h3; have H4 := Lib.hid h4; have H5 := Lib.hid h5; have H6 := Lib.hid h6; have H7 := Lib.hid h7; have H8 := Lib.hid h8; have H9 := Lib.hid h9; have H10 := Lib.hid h10
      clear h2 h3 h4 h5 h6 h7 h8 h9 h10 hnk hn hk hL h1 hb hb2 hb3 hr hx hri hy
      have hcase : (wi ≠ 5) ∨ (wi = 5 ∧ b2 < 4294967296) := by
        by_cases e : wi = 5
        · exact .inr ⟨e, hsh e⟩
        · exact .inl e
      clear hsh
      rcases hcase with hw | ⟨hw, hlt⟩
      · have hwb : (wi != 5) = true := by simpa using hw
        clear hw
        go_enter Tryd.func5, Tryd.ntmps5
        go_wp2_with fail
        refine H0.out.mono ?_
        rintro e w' ⟨rfl, rfl⟩
        go_wp2_with fail
        refine H2.out.mono ?_
        rintro e w' ⟨rfl, rfl⟩
        go_wp2_with fail
        refine H4.out.mono ?_
        rintro e w' ⟨rfl, rfl⟩
        go_wp2_with fail
        refine H6.out.mono ?_
        rintro e w' ⟨rfl, rfl⟩
        go_wp2_with fail
        refine H7.out.mono ?_
        rintro e w' ⟨rfl, rfl⟩
        go_wp2_with fail
        refine H8.out.mono ?_
        rintro e w' ⟨rfl, rfl⟩
        have hne : (f1 != f1) = false := by simp
        go_wp2_with fail
        refine H3.out.mono ?_
        rintro e w' ⟨rfl, rfl⟩
        go_wp2_with fail
        refine H5.out.mono ?_
        rintro e w' ⟨rfl, rfl⟩
        go_wp2_with fail
        refine H9.out.mono ?_
        rintro e w' ⟨rfl, rfl⟩
        go_wp2_with fail
        refine H10.out.mono ?_
        rintro e w' ⟨rfl, rfl⟩
        go_wp2_with fail
        go_ret
        exact ⟨ret_bool (by simp), Below.refl _ _⟩
      · subst hw
        go_enter Tryd.func5, Tryd.ntmps5
        go_wp2_with fail
        refine H0.out.mono ?_
        rintro e w' ⟨rfl, rfl⟩
        go_wp2_with fail
        refine H2.out.mono ?_
        rintro e w' ⟨rfl, rfl⟩
        go_wp2_with fail
        refine H4.out.mono ?_
        rintro e w' ⟨rfl, rfl⟩
        go_wp2_with fail
        refine H6.out.mono ?_
        rintro e w' ⟨rfl, rfl⟩
        go_wp2_with fail
        refine H7.out.mono ?_
        rintro e w' ⟨rfl, rfl⟩
        go_wp2_with fail
        refine H8.out.mono ?_
        rintro e w' ⟨rfl, rfl⟩
        have hne : (f1 != f1) = false := by simp
        go_wp2_with fail
        refine H3.out.mono ?_
        rintro e w' ⟨rfl, rfl⟩
        go_wp2_with fail
        refine H5.out.mono ?_
        rintro e w' ⟨rfl, rfl⟩
        go_wp2_with fail
        refine H9.out.mono ?_
        rintro e w' ⟨rfl, rfl⟩
        go_wp2_with fail
        refine H10.out.mono ?_
        rintro e w' ⟨rfl, rfl⟩
        go_wp2_with fail
        refine H5.out.mono ?_
        rintro e w' ⟨rfl, rfl⟩
        go_wp2_with fail
        go_ret
        exact ⟨ret_bool (by simp), Below.refl _ _⟩

end Go.Proofs.YthbodncgppfdfaaDoor
