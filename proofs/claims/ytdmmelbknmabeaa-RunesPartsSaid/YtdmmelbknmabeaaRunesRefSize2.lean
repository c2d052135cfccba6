/- The reference's Size, all cases. -/
import Derived.Test.YtdmmelbknmabeaaRunesRefSize
namespace Go.Proofs.Ytdmmelbknmabeaa
open Go.RowKit
open Runes (us rn rv rv0)

set_option maxRecDepth 100000 in
set_option maxHeartbeats 2000000 in
theorem refsize_any (s : ByteArray) (w : World) (hs : s.size ≤ maxLen) :
    Calls Try.prog 12 #[.string s] w fun e w' => e = .returned (.int .i64 (us s.data.toList)) ∧ Below w.heap.size w w' := by
  by_cases h0 : s.size = 0
  · have hu : us s.data.toList = 0 := by
      have : s.data.toList = [] := List.length_eq_zero_iff.1 (by simpa using h0)
      rw [this]; rfl
    rw [hu]
    have h0' : ((s.size : Int) == 0) = true := beq_iff_eq.2 (by omega)
    clear hu
    go_enter Try.func12, Try.ntmps12
    go_wp2
    go_ret
    exact ⟨rfl, Below.refl _ _⟩
  have hp : 0 < s.size := by omega
  have hl0 : ((s.size : Int) == 0) = false := beq_eq_false_iff_ne.2 (by omega)
  have h256 := u8_lt s[0]
  by_cases h128 : (s[0].toNat : Int) < 128
  · have hu : us s.data.toList = 1 := Runes.us_one (by simpa using hp) (by rw [← byte_at s 0 hp]; exact h128)
    rw [hu]
    clear hu
    unfold maxLen at hs
    go_enter Try.func12, Try.ntmps12
    go_wp2
    go_ret
    exact ⟨rfl, Below.refl _ _⟩
  have h128' : 128 ≤ (s[0].toNat : Int) := by omega
  by_cases hn : 2 ≤ rn (s[0].toNat : Int) ∧ rn (s[0].toNat : Int) ≤ s.size
  · have h4 : rn (s[0].toNat : Int) ≤ 4 := by unfold rn; (repeat' split) <;> omega
    exact refsize_multi s w hs hp _ _ ⟨hn.1, h4⟩ rfl rfl hn.2 h128'
  have hu : us s.data.toList = 0 := by
    refine Runes.us_none (by rw [← byte_at s 0 hp]; exact h128') ?_
    rw [← byte_at s 0 hp, len_data]
    have : rn (s[0].toNat : Int) = 0 ∨ 2 ≤ rn (s[0].toNat : Int) := by unfold rn; (repeat' split) <;> omega
    omega
  rw [hu]
  clear hu h128
  have hcase : (s[0].toNat : Int) < 192 ∨ (192 ≤ (s[0].toNat : Int) ∧ (s[0].toNat : Int) < 224 ∧ (s.size : Int) < 2) ∨ (224 ≤ (s[0].toNat : Int) ∧ (s[0].toNat : Int) < 240 ∧ (s.size : Int) < 3) ∨ (240 ≤ (s[0].toNat : Int) ∧ (s[0].toNat : Int) < 248 ∧ (s.size : Int) < 4) ∨ 248 ≤ (s[0].toNat : Int) := by
    unfold rn at hn; (repeat' split at hn) <;> omega
  clear hn
  unfold maxLen at hs
  rcases hcase with h | ⟨h, h', h''⟩ | ⟨h, h', h''⟩ | ⟨h, h', h''⟩ | h
  all_goals
    go_enter Try.func12, Try.ntmps12
    go_wp2
    go_ret
    exact ⟨rfl, Below.refl _ _⟩

end Go.Proofs.Ytdmmelbknmabeaa
