/- Package lexer, walked: digits; a number's digits are parsed. -/
import Derived.Test.YtiofhfcohhfihaaGreatDoorGroupC
namespace Go.Proofs.YtiofhfcohhfihaaGreatDoor
open Go.RowKit
set_option linter.unusedVariables false
set_option linter.unusedSimpArgs false

theorem all256 (P : UInt8 → Bool) (h : (List.range 256).all (fun n => P n.toUInt8) = true) (b : UInt8) : P b = true := by
  have hb := b.toNat_lt
  have := List.all_eq_true.1 h b.toNat (List.mem_range.2 hb)
  simpa using this
def smallL : Lx.Bs := [48, 49, 50, 51, 52, 53, 54, 55, 56, 57, 97, 98, 99, 100, 101, 102]
def largeL : Lx.Bs := [65, 66, 67, 68, 69, 70]
theorem digit_i (b : UInt8) : (if 0 ≤ Lib.indexByte smallL b then Lib.indexByte smallL b else if 0 ≤ Lib.indexByte largeL b then 10 + Lib.indexByte largeL b else 16) = (Lx.digit b : Nat) := by
  have := all256 (fun b => decide ((if 0 ≤ Lib.indexByte smallL b then Lib.indexByte smallL b else if 0 ≤ Lib.indexByte largeL b then 10 + Lib.indexByte largeL b else 16) = (Lx.digit b : Nat))) (by decide +kernel) b
  simpa using this
theorem idx_le (b : UInt8) : ∀ (l : Lx.Bs), Lib.indexByte l b < l.length + 1
  | [] => by simp [Lib.indexByte]
  | c :: r => by
    have := idx_le b r
    rw [Lib.indexByte]
    split
    · simp; omega
    · split
      · simp; omega
      · simp; omega

set_option maxHeartbeats 1000000 in
theorem digit_any (b : UInt8) (w : World) : Calls Tryz.prog 129 #[.int .u8 b.toNat] w fun e w' => e = .returned (.int .i64 (Lx.digit b : Nat)) ∧ w = w' := by
  have hs := fun w0 => idxbyte_any ⟨#[48, 49, 50, 51, 52, 53, 54, 55, 56, 57, 97, 98, 99, 100, 101, 102]⟩ b w0
  have hl := fun w0 => idxbyte_any ⟨#[65, 66, 67, 68, 69, 70]⟩ b w0
  have e1 : (⟨#[48, 49, 50, 51, 52, 53, 54, 55, 56, 57, 97, 98, 99, 100, 101, 102]⟩ : ByteArray).data.toList = smallL := rfl
  have e2 : (⟨#[65, 66, 67, 68, 69, 70]⟩ : ByteArray).data.toList = largeL := rfl
  rw [e1] at hs
  rw [e2] at hl
  have hd := digit_i b
  have h6 := idx_le b largeL
  have h7 : (largeL.length : Int) = 6 := rfl
  rw [h7] at h6
  rw [← hd]
  generalize Lib.indexByte smallL b = x at *
  generalize Lib.indexByte largeL b = y at *
  have HS := Lib.hid hs
  have HL := Lib.hid hl
  clear hs hl e1 e2 hd h7
  by_cases h1 : 0 ≤ x
  · rw [if_pos h1]
    go_enter Tryz.func129, Tryz.ntmps129
    go_wp2_with fail
    refine (HS.out _).mono ?_
    rintro e w' ⟨rfl, rfl⟩
    go_wp2_with fail
    go_ret
    exact ⟨rfl, rfl⟩
  · rw [if_neg h1]
    by_cases h2 : 0 ≤ y
    · rw [if_pos h2]
      go_enter Tryz.func129, Tryz.ntmps129
      go_wp2_with fail
      refine (HS.out _).mono ?_
      rintro e w' ⟨rfl, rfl⟩
      go_wp2_with fail
      refine (HL.out _).mono ?_
      rintro e w' ⟨rfl, rfl⟩
      go_wp2_with fail
      go_ret
      exact ⟨rfl, rfl⟩
    · rw [if_neg h2]
      go_enter Tryz.func129, Tryz.ntmps129
      go_wp2_with fail
      refine (HS.out _).mono ?_
      rintro e w' ⟨rfl, rfl⟩
      go_wp2_with fail
      refine (HL.out _).mono ?_
      rintro e w' ⟨rfl, rfl⟩
      go_wp2_with fail
      go_ret
      exact ⟨rfl, rfl⟩

/-- is a byte a digit in a base? -/
def inBase (base : Nat) (b : UInt8) : Bool := decide (Lx.digit b < base)
set_option maxHeartbeats 1000000 in
theorem digf_any (base g : Nat) (b : UInt8) (w : World) (hc : w.cell? ⟨g, 0, none⟩ = some (.int .i64 base)) : Calls Tryz.prog 128 #[.int .u8 b.toNat, .pointer (some ⟨g, 0, none⟩)] w fun e w' => e = .returned (.bool (inBase base b)) ∧ Below w.heap.size w w' := by
  have HD := Lib.hid (fun w0 => digit_any b w0)
  unfold inBase
  generalize Lx.digit b = d at *
  go_enter Tryz.func128, Tryz.ntmps128
  go_wp2
  go_quiet ((go_at_call 129; exact Calls.quiet_of_same ((HD.out _).mono fun e w1 h => ⟨h.1, h.2.symm⟩)))
  all_goals
    go_wp2
    go_ret
    exact ⟨ret_bool (decide_eq_decide.2 (by omega)), by first | exact Below.refl _ _ | exact (Below.refl _ _).drew | exact Below.drewN (Below.refl _ _) _⟩

end Go.Proofs.YtiofhfcohhfihaaGreatDoor
