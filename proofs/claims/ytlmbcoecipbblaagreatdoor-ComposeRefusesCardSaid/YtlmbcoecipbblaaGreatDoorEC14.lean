/- edit.Equal on what is told beside an error, by the engine. -/
import Derived.Test.YtlmbcoecipbblaaGreatDoorEC13
set_option maxRecDepth 100000
set_option maxHeartbeats 4000000
set_option linter.unusedVariables false
set_option linter.unusedSimpArgs false
namespace Go.Proofs.YtlmbcoecipbblaaGreatDoor
open Go.RowKit
open Val (V E right cmp eright ado Res avalue esm esmF esmS esmK vmx esz eszF eszS eszK e0 swapE swapF PairP inv)
theorem ef1 {G : List (Nat × List DV)} {x y : DV} (hx : x = .sl []) (hy : y = .sl []) (fr : List Nat) : PRun Tryz.prog G 26 [.d fun _ => x, .d fun _ => y, .fn (.func 27) [] []] [] fr (.d fun _ => .lit (.bool true)) [] := by
 refine PRun.pure (xs := [.d fun _ => x, .d fun _ => y, .fn (.func 27) [] []]) (r1 := .d fun _ => .lit (.bool true)) tI_ok (by kernel_rfl) Tryz.func26 rfl rfl (by kernel_rfl) ?_
 repeat with_reducible refine jR (J3 (cellQ hx) (cellQ hy) lenN) ?_
 refine hLoop (loop_okC (ι := Unit) tI_ok (by kernel_rfl) (fun _ => ⟨[(17, .d fun _ => .lit (.int .i64 0)), (16, .d fun _ => .lit (.int .i64 0))], [], 0, 0⟩) (fun _ => 0) () ?_ (fun x => ?_))
 ·with_reducible refine jR (J2 (cellQ hx) lenN) ?_
  and_intros <;> exact LeD.of rfl
 repeat with_reducible refine jR trivial ?_
 with_reducible refine Exists.intro ⟨[], [], 0, 0⟩ (And.intro ?_ ?_)
 ·with_reducible refine jR trivial ?_
  trivial
 repeat with_reducible refine jR trivial ?_
 with_reducible refine jE trivial ?_
 trivial
theorem ef2 {G : List (Nat × List DV)} {x y : DV} (hx : x = .sl []) (hy : y = .sl []) (fr : List Nat) : PRun Tryz.prog G 28 [.d fun _ => x, .d fun _ => y, .fn (.func 29) [] []] [] fr (.d fun _ => .lit (.bool true)) [] := by
 refine PRun.pure (xs := [.d fun _ => x, .d fun _ => y, .fn (.func 29) [] []]) (r1 := .d fun _ => .lit (.bool true)) tI_ok (by kernel_rfl) Tryz.func28 rfl rfl (by kernel_rfl) ?_
 repeat with_reducible refine jR (J3 (cellQ hx) (cellQ hy) lenN) ?_
 refine hLoop (loop_okC (ι := Unit) tI_ok (by kernel_rfl) (fun _ => ⟨[(17, .d fun _ => .lit (.int .i64 0)), (16, .d fun _ => .lit (.int .i64 0))], [], 0, 0⟩) (fun _ => 0) () ?_ (fun x => ?_))
 ·with_reducible refine jR (J2 (cellQ hx) lenN) ?_
  and_intros <;> exact LeD.of rfl
 repeat with_reducible refine jR trivial ?_
 with_reducible refine Exists.intro ⟨[], [], 0, 0⟩ (And.intro ?_ ?_)
 ·with_reducible refine jR trivial ?_
  trivial
 repeat with_reducible refine jR trivial ?_
 with_reducible refine jE trivial ?_
 trivial
theorem ef3 {G : List (Nat × List DV)} {x y : DV} (hx : x = .sl []) (hy : y = .sl []) (fr : List Nat) : PRun Tryz.prog G 30 [.d fun _ => x, .d fun _ => y, .fn (.func 31) [] []] [] fr (.d fun _ => .lit (.bool true)) [] := by
 refine PRun.pure (xs := [.d fun _ => x, .d fun _ => y, .fn (.func 31) [] []]) (r1 := .d fun _ => .lit (.bool true)) tI_ok (by kernel_rfl) Tryz.func30 rfl rfl (by kernel_rfl) ?_
 repeat with_reducible refine jR (J3 (cellQ hx) (cellQ hy) lenN) ?_
 refine hLoop (loop_okC (ι := Unit) tI_ok (by kernel_rfl) (fun _ => ⟨[(17, .d fun _ => .lit (.int .i64 0)), (16, .d fun _ => .lit (.int .i64 0))], [], 0, 0⟩) (fun _ => 0) () ?_ (fun x => ?_))
 ·with_reducible refine jR (J2 (cellQ hx) lenN) ?_
  and_intros <;> exact LeD.of rfl
 repeat with_reducible refine jR trivial ?_
 with_reducible refine Exists.intro ⟨[], [], 0, 0⟩ (And.intro ?_ ?_)
 ·with_reducible refine jR trivial ?_
  trivial
 repeat with_reducible refine jR trivial ?_
 with_reducible refine jE trivial ?_
 trivial
theorem equal0_run {G : List (Nat × List DV)} {a b : List DV} (ha : a = encE e0) (hb : b = encE e0) (fr : List Nat) : PRun Tryz.prog G 11 [.agg (cellsP 21 a), .agg (cellsP 21 b)] [] fr (.d fun _ => .lit (.bool true)) [] := by
 obtain rfl : a = b := ha.trans hb.symm
 have A := cE21 e0; rw [← ha] at A
 obtain ⟨a0, a1, a2, a3, a4, a5, a6, a7, a8, a9, a10, a11, a12, a13, a14, a15, a16, a17, a18, a19, a20⟩ := A
 have a0 : cellAt a 0 = .lit (.int .i64 0) := a0
 have a15 : cellAt a 15 = .sl [] := a15.trans (by show DV.sl (encEF []) = _; rw [encEF])
 have a16 : cellAt a 16 = .lit (.bool false) := a16
 have a17 : cellAt a 17 = .lit (.string ByteArray.empty) := a17
 have a18 : cellAt a 18 = .lit (.string ByteArray.empty) := a18
 have a19 : cellAt a 19 = .sl [] := a19.trans (by show DV.sl (encES []) = _; rw [encES])
 have a20 : cellAt a 20 = .sl [] := a20.trans (by show DV.sl (encEK []) = _; rw [encEK])
 have z : decide (cmp e0.old e0.old = 0) = true := by rw [Val.cmp_refl]; rfl
 have H1 := fun fr => same_run (G := G) (rfl : encV e0.old = _) (rfl : encV e0.old = _) fr
 have H2 := fun fr => same_run (G := G) (rfl : encV e0.new = _) (rfl : encV e0.new = _) fr
 rw [z, ← old_cells ha] at H1
 rw [show decide (cmp e0.new e0.new = 0) = true from z, ← new_cells ha] at H2
 refine PRun.pure (xs := [.agg (cellsP 21 a), .agg (cellsP 21 a)]) (r1 := .d fun _ => .lit (.bool true)) tI_ok (by kernel_rfl) Tryz.func11 rfl rfl (by kernel_rfl) ?_
 repeat with_reducible refine jR trivial ?_
 (with_reducible apply hCall); exact H1 _; with_reducible refine jR trivial ?_
 repeat with_reducible refine jR trivial ?_
 (with_reducible apply hCall); exact H2 _; with_reducible refine jR (J4 (cellQ a16) (cellQ a17) (cellQ a18) (eq_self ByteArray.empty)) ?_
 repeat with_reducible refine jR (J4 (cellQ a16) (cellQ a17) (cellQ a18) (eq_self ByteArray.empty)) ?_
 (with_reducible apply hCall); exact ef1 a15 a15 _; with_reducible refine jR trivial ?_
 repeat with_reducible refine jR trivial ?_
 (with_reducible apply hCall); exact ef2 a19 a19 _; with_reducible refine jR trivial ?_
 repeat with_reducible refine jR trivial ?_
 (with_reducible apply hCall); exact ef3 a20 a20 _; with_reducible refine jR (cellQ a0) ?_
 repeat with_reducible refine jR (cellQ a0) ?_
 with_reducible refine jE trivial ?_
 trivial
end Go.Proofs.YtlmbcoecipbblaaGreatDoor
