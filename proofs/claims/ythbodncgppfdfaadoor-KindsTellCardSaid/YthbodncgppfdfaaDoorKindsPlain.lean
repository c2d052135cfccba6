/- Plain facts on kinds: what bits say, and what numbers are right. -/
import Derived.WalkKit
namespace Go.Proofs.YthbodncgppfdfaaDoor.Kinds
open Go.RowKit

def num (k : Int) : Bool := (decide (1 ≤ k) && decide (k ≤ 13)) || k == 16
def zg (n : Int) : Int := if n % 2 = 0 then n / 2 else -1 - n / 2
def zz (n : Int) : Int := if 0 ≤ n then 2 * n else -2 * n - 1
def sg (n : Int) : Int := if n % 4294967296 < 2147483648 then n % 4294967296 else n % 4294967296 + 18446744069414584320
def u64 (n : Int) : Int := n % 18446744073709551616
def fitI (k n : Int) : Int :=
  if k = 3 ∨ k = 11 ∨ k = 16 then sg n else if k = 2 ∨ k = 5 ∨ k = 9 then n % 4294967296 else if k = 7 then u64 (zg (n % 4294967296)) else if k = 8 then u64 (zg n)
  else if k = 13 then (if 0 < n then 1 else 0) else if num k then n else 0
def backI (k n : Int) : Int :=
  if num k = false then 0 else if k = 7 ∨ k = 8 then (if n < 9223372036854775808 then 2 * n else (18446744073709551615 - n) * 2 + 1) else if k = 11 then n % 4294967296 else n
def rightI (k n : Int) : Bool := num k && fitI k (backI k n) == n

theorem num_iff (k : Int) : num k = true ↔ (1 ≤ k ∧ k ≤ 13) ∨ k = 16 := by simp [num]

theorem and_one {n : Int} (h0 : 0 ≤ n) (h1 : n ≤ 18446744073709551615) : bits .and .u64 n 1 = n % 2 := by
  rw [u64_and n 1 h0 (by omega) (by omega) (by omega)]
  obtain ⟨m, rfl⟩ := Int.eq_ofNat_of_zero_le h0
  simp [Nat.and_one_is_mod]
theorem xor_zero {x : Int} (h0 : -9223372036854775808 ≤ x) (h1 : x ≤ 9223372036854775807) : bits .xor .i64 x 0 = x := by
  show IntKind.i64.wrap ((BitVec.ofInt 64 x ^^^ BitVec.ofInt 64 0).toNat : Int) = x
  have e : BitVec.ofInt 64 0 = 0#64 := rfl
  rw [e, BitVec.xor_zero, IntKind.wrap_i64, BitVec.toNat_ofInt]
  omega
theorem xor_ones {x : Int} (h0 : -9223372036854775808 ≤ x) (h1 : x ≤ 9223372036854775807) : bits .xor .i64 x (-1) = -1 - x := by
  show IntKind.i64.wrap ((BitVec.ofInt 64 x ^^^ BitVec.ofInt 64 (-1)).toNat : Int) = _
  have e : BitVec.ofInt 64 (-1) = BitVec.allOnes 64 := rfl
  rw [e, BitVec.xor_allOnes, IntKind.wrap_i64, BitVec.toNat_not, BitVec.toNat_ofInt]
  omega
theorem uxor_zero {x : Int} (h0 : 0 ≤ x) (h1 : x ≤ 18446744073709551615) : bits .xor .u64 x 0 = x := by
  rw [u64_xor x 0 h0 (by omega) (by omega) (by omega)]
  obtain ⟨m, rfl⟩ := Int.eq_ofNat_of_zero_le h0
  simp
theorem uxor_ones {x : Int} (h0 : 0 ≤ x) (h1 : x ≤ 18446744073709551615) : bits .xor .u64 x 18446744073709551615 = 18446744073709551615 - x := by
  show IntKind.u64.wrap ((BitVec.ofInt 64 x ^^^ BitVec.ofInt 64 18446744073709551615).toNat : Int) = _
  have e : BitVec.ofInt 64 18446744073709551615 = BitVec.allOnes 64 := rfl
  rw [e, BitVec.xor_allOnes, IntKind.wrap_u64, BitVec.toNat_not, BitVec.toNat_ofInt]
  omega

/-- what the program's Zag comes to -/
theorem zag_form {n : Int} (h0 : 0 ≤ n) (h1 : n ≤ 18446744073709551615) : bits .xor .i64 (n / 2) (wrap64 (-wrap64 (bits .and .u64 n 1))) = zg n := by
  rw [and_one h0 h1]
  unfold zg
  rcases (by omega : n % 2 = 0 ∨ n % 2 = 1) with h | h
  · rw [h, if_pos rfl, show wrap64 (-wrap64 0) = 0 by unfold wrap64; omega, xor_zero (by omega) (by omega)]
  · rw [h, if_neg (by omega), show wrap64 (-wrap64 1) = -1 by unfold wrap64; omega, xor_ones (by omega) (by omega)]
/-- what the program's Zig comes to -/
theorem zig_form {n : Int} (h0 : -9223372036854775808 ≤ n) (h1 : n ≤ 9223372036854775807) :
    bits .xor .u64 (IntKind.u64.wrap (IntKind.u64.wrap n * 2)) (IntKind.u64.wrap (n / 9223372036854775808)) = zz n := by
  simp only [IntKind.wrap_u64]
  unfold zz
  split
  · rw [show n / 9223372036854775808 % 18446744073709551616 = 0 by omega, uxor_zero (by omega) (by omega)]; omega
  · rw [show n / 9223372036854775808 % 18446744073709551616 = 18446744073709551615 by omega, uxor_ones (by omega) (by omega)]; omega
theorem zg_bounds {n : Int} (h0 : 0 ≤ n) (h1 : n ≤ 18446744073709551615) : -9223372036854775808 ≤ zg n ∧ zg n ≤ 9223372036854775807 := by
  unfold zg; split <;> omega
theorem zz_bounds {n : Int} (h0 : -9223372036854775808 ≤ n) (h1 : n ≤ 9223372036854775807) : 0 ≤ zz n ∧ zz n ≤ 18446744073709551615 := by
  unfold zz; split <;> omega
theorem sg_form {n : Int} : IntKind.u64.wrap (wrap64 (wrap32 n)) = sg n := by
  rw [IntKind.wrap_u64]
  unfold sg wrap64 wrap32
  split <;> omega
theorem back_zz {n : Int} (h0 : 0 ≤ n) (h1 : n ≤ 18446744073709551615) : zz (wrap64 n) = if n < 9223372036854775808 then 2 * n else (18446744073709551615 - n) * 2 + 1 := by
  unfold zz wrap64
  split <;> split <;> omega

/-- the numbers that are right, by ranges -/
def rightR (k n : Int) : Bool :=
  if k = 3 ∨ k = 7 ∨ k = 11 ∨ k = 16 then sg n == n else if k = 2 ∨ k = 5 ∨ k = 9 then decide (n < 4294967296) else if k = 13 then decide (n < 2) else num k

theorem kind_cases (k : Int) : k < 1 ∨ k = 1 ∨ k = 2 ∨ k = 3 ∨ k = 4 ∨ k = 5 ∨ k = 6 ∨ k = 7 ∨ k = 8 ∨ k = 9 ∨ k = 10 ∨ k = 11 ∨ k = 12 ∨ k = 13 ∨ k = 14 ∨ k = 15 ∨ k = 16 ∨ 16 < k := by omega

theorem right_is (k n : Int) (h0 : 0 ≤ n) (h1 : n ≤ 18446744073709551615) : rightI k n = rightR k n := by
  unfold rightI rightR fitI backI
  rcases kind_cases k with h | rfl | rfl | rfl | rfl | rfl | rfl | rfl | rfl | rfl | rfl | rfl | rfl | rfl | rfl | rfl | rfl | h
  case inl =>
    have hn : num k = false := by rw [Bool.eq_false_iff, ne_eq, num_iff]; omega
    simp only [hn]
    repeat (first | (rw [if_neg (by omega)]) )
    simp
    rw [if_neg (by omega), if_neg (by omega)]; omega
  case inr.inr.inr.inr.inr.inr.inr.inr.inr.inr.inr.inr.inr.inr.inr.inr.inr =>
    have hn : num k = false := by rw [Bool.eq_false_iff, ne_eq, num_iff]; omega
    simp only [hn]
    repeat (first | (rw [if_neg (by omega)]) )
    simp
    rw [if_neg (by omega), if_neg (by omega)]; omega
  all_goals simp [num, sg, zg, u64]
  all_goals first | ((repeat' split) <;> omega) | (rw [Bool.eq_iff_iff]; simp; (repeat' split) <;> omega)

end Go.Proofs.YthbodncgppfdfaaDoor.Kinds
