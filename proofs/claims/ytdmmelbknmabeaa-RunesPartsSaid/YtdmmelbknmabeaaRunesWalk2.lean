/- runes.walk and what is told by it, walked. -/
import Derived.Test.YtdmmelbknmabeaaRunesSize
namespace Go.Proofs.Ytdmmelbknmabeaa
open Go.RowKit
open Runes (us pos goes IsEnd)

/-- the loop of walk at its head -/
def WalkRel (s : ByteArray) (most : Int) (w : World) (at_ many : Value) (wr : World) : Prop :=
  ∃ k : Nat, at_ = .int .i64 (pos s.data.toList k : Nat) ∧ many = .int .i64 k ∧ (∀ j, j < k → goes s.data.toList most j) ∧ Below w.heap.size w wr

set_option maxRecDepth 100000 in
set_option maxHeartbeats 1000000 in
theorem walk_any (s : ByteArray) (most : Int) (w : World) (hs : s.size ≤ maxLen) (h0 : 0 ≤ most) (hm : most ≤ 9223372036854775807) :
    Calls Try.prog 14 #[.string s, .int .i64 most] w fun e w' => ∃ k, IsEnd s.data.toList most k ∧ e = .returned (.tuple #[.int .i64 (pos s.data.toList k : Nat), .int .i64 k]) ∧ Below w.heap.size w w' := by
  unfold maxLen at hs
  go_enter Try.func14, Try.ntmps14
  go_wp2
  go_loopw [4, 5] (WalkRel s most w) (fun a _ _ => s.size - (intOf a).toNat)
  case atStart => exact ⟨0, rfl, rfl, by omega, Below.refl _ _⟩
  case round =>
    obtain ⟨k, rfl, rfl, hgo, hbel⟩ := hrel
    have Hgo := Lib.hid hgo; clear hgo
    have hple := Runes.pos_le s.data.toList k
    have hkp := Runes.pos_ge k Hgo.out
    rw [len_data] at hple
    have hext := Lib.extract_to_end s (pos s.data.toList k)
    have Hext := Lib.hid hext; clear hext
    have Hsz : Hid ((s.extract (pos s.data.toList k) s.size).size = s.size - pos s.data.toList k) := by
      show _ = _
      rw [← len_data, Hext.out, List.length_drop, len_data]
    have hule := Runes.us_le (s.data.toList.drop (pos s.data.toList k))
    rw [List.length_drop, len_data] at hule
    have Hpos := Lib.hid (Runes.pos_succ s.data.toList k)
    generalize hp : pos s.data.toList k = p at *
    have Hp := Lib.hid hp; clear hp
    go_wp2_with fail
    refine (size_any _ _ (by rw [Hsz.out]; unfold maxLen; omega)).mono ?_
    rintro e w1 ⟨rfl, hb1⟩
    rw [Hext.out]
    have Hg : Hid (goes s.data.toList most k ↔ us (s.data.toList.drop p) ≠ 0 ∧ (us (s.data.toList.drop p) : Int) ≤ most - p) := by
      show _ ↔ _
      unfold Runes.goes
      rw [Hp.out]
    generalize hu : us (s.data.toList.drop p) = u at *
    have Hu := Lib.hid hu; clear hu
    have hk63 : (k : Int) < 9223372036854775807 ∨ u = 0 := by omega
    by_cases hz : u = 0
    · subst hz
      have hz' : (((0 : Nat) : Int) == 0) = true := rfl
      go_wp2
      go_ret2
      exact ⟨k, ⟨Hgo.out, fun h => (Hg.out.1 h).1 rfl⟩, by rw [Hp.out]; rfl, hbel.trans (hb1.mono hbel.size)⟩
    · have hz' : ((u : Int) == 0) = false := beq_eq_false_iff_ne.2 (by omega)
      by_cases hle : (u : Int) ≤ most - p
      · go_wp2
        go_roundw
        case rel =>
          refine ⟨k + 1, ?_, by go_num, ?_, hbel.trans (hb1.mono hbel.size)⟩
          · rw [Hpos.out]; go_num
          · intro j hj
            by_cases e : j = k
            · rw [e]; exact Hg.out.2 ⟨hz, hle⟩
            · exact Hgo.out j (by omega)
        case measure => simp [intOf]; omega
      · have hlt : most - p < (u : Int) := by omega
        go_wp2
        go_ret2
        exact ⟨k, ⟨Hgo.out, fun h => by have := (Hg.out.1 h).2; omega⟩, by rw [Hp.out]; rfl, hbel.trans (hb1.mono hbel.size)⟩

end Go.Proofs.Ytdmmelbknmabeaa
