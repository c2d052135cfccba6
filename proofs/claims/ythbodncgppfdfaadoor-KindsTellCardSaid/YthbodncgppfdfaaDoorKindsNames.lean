/- kinds.Name, Of, Keys, Wire and the references', walked. -/
import Derived.Test.YthbodncgppfdfaaDoorKindsBack
import Derived.Test.YthbodncgppfdfaaDoorLaid
namespace Go.Proofs.YthbodncgppfdfaaDoor
open Go.RowKit
open Kinds (num zg zz sg u64 fitI backI rightI rightR)
set_option linter.unusedVariables false

/-- a kind's name -/
def kname (k : Int) : ByteArray := if 1 ≤ k ∧ k ≤ 17 then nameOf k.toNat else ⟨#[]⟩
def keysI (k : Int) : Bool := decide (3 ≤ k) && decide (k ≤ 14)
def wireI (k : Int) : Int := if k = 1 ∨ k = 10 ∨ k = 12 then 1 else if k = 2 ∨ k = 9 ∨ k = 11 then 5 else if k = 14 ∨ k = 15 ∨ k = 17 then 2 else if num k then 0 else -1

theorem ret_str {a b : ByteArray} (h : a = b) : Ending.returned (.string a) = .returned (.string b) := by rw [h]

theorem kind_17 (k : Int) : k < 1 ∨ 17 < k ∨ k = 1 ∨ k = 2 ∨ k = 3 ∨ k = 4 ∨ k = 5 ∨ k = 6 ∨ k = 7 ∨ k = 8 ∨ k = 9 ∨ k = 10 ∨ k = 11 ∨ k = 12 ∨ k = 13 ∨ k = 14 ∨ k = 15 ∨ k = 16 ∨ k = 17 := by omega

set_option maxRecDepth 100000 in
set_option maxHeartbeats 2000000 in
theorem name_any (k : Int) (w : World) (hL : Laid w) : Calls Tryd.prog 10 #[.int .i64 k] w fun e w' => e = .returned (.string (kname k)) ∧ w = w' := by
  rcases (by omega : k < 1 ∨ 17 < k ∨ (1 ≤ k ∧ k ≤ 17)) with h | h | ⟨h, h'⟩
  · have hk : kname k = ⟨#[]⟩ := by unfold kname; rw [if_neg (by omega)]
    rw [hk]; clear hk hL
    go_enter Tryd.func10, Tryd.ntmps10
    go_wp2
    go_ret
    exact ⟨rfl, rfl⟩
  · have hk : kname k = ⟨#[]⟩ := by unfold kname; rw [if_neg (by omega)]
    rw [hk]; clear hk hL
    go_enter Tryd.func10, Tryd.ntmps10
    go_wp2
    go_ret
    exact ⟨rfl, rfl⟩
  · have hk : kname k = nameOf k.toNat := by unfold kname; rw [if_pos ⟨h, h'⟩]
    rw [hk]; clear hk
    have hc := hL.2 k.toNat (by omega)
    clear hL
    obtain ⟨n, rfl⟩ := Int.eq_ofNat_of_zero_le (show 0 ≤ k by omega)
    rw [Int.toNat_natCast] at hc ⊢
    go_enter Tryd.func10, Tryd.ntmps10
    go_wp2
    go_ret
    exact ⟨rfl, rfl⟩

set_option maxRecDepth 100000 in
set_option maxHeartbeats 4000000 in
theorem rname_any (k : Int) (w : World) : Calls Tryd.prog 8 #[.int .i64 k] w fun e w' => e = .returned (.string (kname k)) ∧ Below w.heap.size w w' := by
  rcases kind_17 k with h | h | h
  · have hk : kname k = ⟨#[]⟩ := by unfold kname; rw [if_neg (by omega)]
    rw [hk]; clear hk
    go_enter Tryd.func8, Tryd.ntmps8
    go_wp2
    go_ret
    exact ⟨rfl, Below.refl _ _⟩
  · have hk : kname k = ⟨#[]⟩ := by unfold kname; rw [if_neg (by omega)]
    rw [hk]; clear hk
    go_enter Tryd.func8, Tryd.ntmps8
    go_wp2
    go_ret
    exact ⟨rfl, Below.refl _ _⟩
  · rcases h with rfl | rfl | rfl | rfl | rfl | rfl | rfl | rfl | rfl | rfl | rfl | rfl | rfl | rfl | rfl | rfl | rfl
    all_goals
      go_enter Tryd.func8, Tryd.ntmps8
      go_wp2
      go_ret
      exact ⟨rfl, (Below.refl _ _).alloc (Nat.le_refl _) _⟩

set_option maxRecDepth 100000 in
theorem keys_any (k : Int) (w : World) : Calls Tryd.prog 13 #[.int .i64 k] w fun e w' => e = .returned (.bool (keysI k)) ∧ w = w' := by
  by_cases h : 3 ≤ k
  all_goals
    go_enter Tryd.func13, Tryd.ntmps13
    go_wp2
    go_ret
    exact ⟨ret_bool (by unfold keysI; simp <;> omega), rfl⟩

set_option maxRecDepth 100000 in
theorem rkeys_any (k : Int) (w : World) : Calls Tryd.prog 14 #[.int .i64 k] w fun e w' => e = .returned (.bool (keysI k)) ∧ w = w' := by
  by_cases h : 3 ≤ k
  all_goals
    go_enter Tryd.func14, Tryd.ntmps14
    go_wp2
    go_ret
    exact ⟨ret_bool (by unfold keysI; simp <;> omega), rfl⟩

theorem wire_out {k : Int} (h : k < 1 ∨ 17 < k) : wireI k = -1 := by
  unfold wireI
  rw [if_neg (by omega), if_neg (by omega), if_neg (by omega), if_neg (by rw [Kinds.num_iff]; omega)]

set_option maxRecDepth 100000 in
set_option maxHeartbeats 4000000 in
theorem wire_any (k : Int) (w : World) : Calls Tryd.prog 15 #[.int .i64 k] w fun e w' => e = .returned (.int .i64 (wireI k)) ∧ w = w' := by
  rcases kind_17 k with h | h | h
  · rw [wire_out (.inl h)]
    have hb : ∀ j : Int, 1 ≤ j → (k == j) = false := fun j hj => beq_eq_false_iff_ne.2 (by omega)
    go_enter Tryd.func15, Tryd.ntmps15
    go_wp2
    all_goals go_ret
    all_goals exact ⟨rfl, rfl⟩
  · rw [wire_out (.inr h)]
    have hb : ∀ j : Int, j ≤ 17 → (k == j) = false := fun j hj => beq_eq_false_iff_ne.2 (by omega)
    have hn : num k = false := by rw [Bool.eq_false_iff, ne_eq, Kinds.num_iff]; omega
    have h1 := number_any k w
    rw [hn] at h1
    have H1 := Lib.hid h1
    clear h1 hn
    go_enter Tryd.func15, Tryd.ntmps15
    go_wp2_with (go_at_call 11; refine H1.out.mono ?_; rintro e w' ⟨rfl, rfl⟩)
    all_goals go_ret
    all_goals exact ⟨rfl, rfl⟩
  · rcases h with rfl | rfl | rfl | rfl | rfl | rfl | rfl | rfl | rfl | rfl | rfl | rfl | rfl | rfl | rfl | rfl | rfl
    all_goals
      go_enter Tryd.func15, Tryd.ntmps15
      go_wp2
      go_ret
      exact ⟨rfl, rfl⟩

set_option maxRecDepth 100000 in
set_option maxHeartbeats 4000000 in
theorem rwire_any (k : Int) (w : World) : Calls Tryd.prog 16 #[.int .i64 k] w fun e w' => e = .returned (.int .i64 (wireI k)) ∧ w = w' := by
  rcases kind_17 k with h | h | h
  · rw [wire_out (.inl h)]
    go_enter Tryd.func16, Tryd.ntmps16
    go_wp2
    all_goals go_ret
    all_goals exact ⟨rfl, rfl⟩
  · rw [wire_out (.inr h)]
    go_enter Tryd.func16, Tryd.ntmps16
    go_wp2
    all_goals go_ret
    all_goals exact ⟨rfl, rfl⟩
  · rcases h with rfl | rfl | rfl | rfl | rfl | rfl | rfl | rfl | rfl | rfl | rfl | rfl | rfl | rfl | rfl | rfl | rfl
    all_goals
      go_enter Tryd.func16, Tryd.ntmps16
      go_wp2
      go_ret
      exact ⟨rfl, rfl⟩

end Go.Proofs.YthbodncgppfdfaaDoor
