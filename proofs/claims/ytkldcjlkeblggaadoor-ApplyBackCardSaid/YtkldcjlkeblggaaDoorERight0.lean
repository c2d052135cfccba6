/- edit.none, part, walked. -/
import Derived.Test.YtkldcjlkeblggaaDoorERep
namespace Go.Proofs.YtkldcjlkeblggaaDoor
open Go.RowKit
open Val (V E cmp right noneV partB bareE eright)
set_option linter.unusedVariables false

set_option maxRecDepth 100000 in
set_option maxHeartbeats 4000000 in
theorem enone_any (x : V) (xc : List Value) (w : World) (hx : VR (frag w) x xc) :
    Calls Tryd.prog 49 #[.agg xc.toArray] w fun e w' => e = .returned (.bool (noneV x)) ∧ Below w.heap.size w w' := by
  have HI := Lib.hid (fun (wx : World) (hb : Below w.heap.size w wx) => right_any x xc wx (hx.mono (below_le hb)))
  have hP : noneV x = (decide (x.kind = 0) && right x) := rfl
  rw [hP]
  obtain ⟨xn, xt, xr, xa1, xn1, xc1, xa2, xn2, xc2, xa3, xn3, xc3, rfl⟩ := hx.shapeK
  clear hx hP
  generalize x.kind = k at *
  have hb0 := Lib.hid ((Below.refl w.heap.size w).alloc (Nat.le_refl _) (.cells #[.int .i64 k, .int .u64 xn, .string xt, .slice xa1 xn1 xc1, .string xr, .slice xa2 xn2 xc2, .slice xa3 xn3 xc3] 27))
  by_cases h1 : k = 0
  · subst h1
    go_enter Tryd.func49, Tryd.ntmps49
    go_wp2_with fail
    refine (HI.out _ hb0.out).mono ?_
    rintro e w' ⟨rfl, hb⟩
    go_wp2_with fail
    go_ret
    exact ⟨ret_bool (by simp), hb0.out.trans (hb.mono hb0.out.size)⟩
  · have h1' : (k == 0) = false := by simpa using h1
    have H1 := Lib.hid h1; clear h1
    go_enter Tryd.func49, Tryd.ntmps49
    go_wp2_with fail
    go_ret
    exact ⟨ret_bool (by first | rfl | simp [H1.out]), hb0.out⟩

set_option maxRecDepth 100000 in
set_option maxHeartbeats 4000000 in
theorem epart_any (x : V) (xc : List Value) (w : World) (hx : VR (frag w) x xc) :
    Calls Tryd.prog 63 #[.agg xc.toArray] w fun e w' => e = .returned (.bool (partB x)) ∧ Below w.heap.size w w' := by
  have HI := Lib.hid (fun (wx : World) (hb : Below w.heap.size w wx) => right_any x xc wx (hx.mono (below_le hb)))
  have hP : partB x = (decide (1 ≤ x.kind ∧ x.kind ≤ 3) && right x) := rfl
  rw [hP]
  obtain ⟨xn, xt, xr, xa1, xn1, xc1, xa2, xn2, xc2, xa3, xn3, xc3, rfl⟩ := hx.shapeK
  clear hx hP
  generalize x.kind = k at *
  have hb0 := Lib.hid ((Below.refl w.heap.size w).alloc (Nat.le_refl _) (.cells #[.int .i64 k, .int .u64 xn, .string xt, .slice xa1 xn1 xc1, .string xr, .slice xa2 xn2 xc2, .slice xa3 xn3 xc3] 27))
  by_cases h1 : 1 ≤ k
  · by_cases h3 : k ≤ 3
    · go_enter Tryd.func63, Tryd.ntmps63
      go_wp2_with fail
      refine (HI.out _ hb0.out).mono ?_
      rintro e w' ⟨rfl, hb⟩
      go_wp2_with fail
      go_ret
      exact ⟨ret_bool (by rw [decide_eq_true (show 1 ≤ k ∧ k ≤ 3 from ⟨by omega, by omega⟩)]; simp), hb0.out.trans (hb.mono hb0.out.size)⟩
    · have h3' : decide (k ≤ 3) = false := by simpa using h3
      go_enter Tryd.func63, Tryd.ntmps63
      go_wp2_with fail
      go_ret
      exact ⟨ret_bool (by first | rfl | (rw [decide_eq_false (by omega)]; simp)), hb0.out⟩
  · have h1' : decide (1 ≤ k) = false := by simpa using h1
    go_enter Tryd.func63, Tryd.ntmps63
    go_wp2_with fail
    go_ret
    exact ⟨ret_bool (by first | rfl | (rw [decide_eq_false (by omega)]; simp)), hb0.out⟩

end Go.Proofs.YtkldcjlkeblggaaDoor
