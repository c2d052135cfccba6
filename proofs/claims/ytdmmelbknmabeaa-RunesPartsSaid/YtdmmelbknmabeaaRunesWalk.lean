/- The functions of package runes and of its reference, walked: what each returns. -/
import Derived.Test.YtdmmelbknmabeaaBase
import Derived.Test.YtdmmelbknmabeaaRunesPlain
namespace Go.Proofs.Ytdmmelbknmabeaa
open Go.RowKit
open Runes (shp us okAt inb pos goes IsEnd)

set_option maxHeartbeats 1000000 in
theorem shape_any (b : Int) (w : World) :
    Calls Try.prog 15 #[.int .u8 b] w fun e w' => e = .returned (.tuple #[.int .i64 (shp b).1, .agg #[.int .u8 (shp b).2.1, .int .u8 (shp b).2.2]]) ∧ Below w.heap.size w w' := by
  go_enter Try.func15, Try.ntmps15
  go_wp2
  all_goals (try go_region)
  all_goals (try go_wp2)
  all_goals
    refine bodyPost_ret (by simp [results, Try.results15, go_sem]; rfl) rfl ⟨?_, ?_⟩
  all_goals first
    | ((repeat (first | exact Below.refl _ _ | refine Below.drew ?_ | refine Below.alloc ?_ (by simp) _)); done)
    | ((try simp only [beq_iff_eq, beq_eq_false_iff_ne] at *)
       unfold shp
       (repeat' split) <;> first | (exfalso; omega) | rfl)

theorem shape_at (b n lo hi : Int) (h : shp b = (n, lo, hi)) (w : World) :
    Calls Try.prog 15 #[.int .u8 b] w fun e w' => e = .returned (.tuple #[.int .i64 n, .agg #[.int .u8 lo, .int .u8 hi]]) ∧ Below w.heap.size w w' :=
  (shape_any b w).mono fun e w' hh => by rw [h] at hh; exact hh

set_option maxHeartbeats 400000 in
theorem has_any (lo hi b : Int) (w : World) :
    Calls Try.prog 16 #[.agg #[.int .u8 lo, .int .u8 hi], .int .u8 b] w fun e w' => e = .returned (.bool (Runes.inI lo hi b)) ∧ Below w.heap.size w w' := by
  go_enter Try.func16, Try.ntmps16
  by_cases h1 : lo ≤ b
  all_goals
    go_wp2
    go_ret
    exact ⟨ret_bool (by simp [Runes.inI] <;> omega), (Below.refl _ _).alloc (Nat.le_refl _) _⟩


end Go.Proofs.Ytdmmelbknmabeaa
