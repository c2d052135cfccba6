/- The reference's Size, walked. -/
import Derived.Test.YtdmmelbknmabeaaBase
import Derived.Test.YtdmmelbknmabeaaRunesRef
namespace Go.Proofs.Ytdmmelbknmabeaa
open Go.RowKit
open Runes (us rn rv rv0)

/-- the loop of the reference's Size at its head -/
def RefRel (s : ByteArray) (n : Int) (v i : Value) : Prop :=
  ∃ (k : Nat) (x : Int), 1 ≤ k ∧ (k : Int) ≤ n ∧ v = .int .i64 x ∧ i = .int .i64 k ∧ Hid (x = rv s.data.toList k) ∧ 0 ≤ x ∧ (k = 1 → x < 32) ∧ (k = 2 → x < 2048) ∧ (k = 3 → x < 131072) ∧ (k = 4 → x < 8388608) ∧
    (∀ j, 1 ≤ j → j < k → 128 ≤ ((s.data.toList.getD j 0).toNat : Int) ∧ ((s.data.toList.getD j 0).toNat : Int) ≤ 191)

theorem u8_lt (b : UInt8) : (b.toNat : Int) < 256 := by have := b.toNat_lt; omega

set_option maxRecDepth 100000 in
set_option maxHeartbeats 2000000 in
theorem refsize_multi (s : ByteArray) (w : World) (hs : s.size ≤ maxLen) (hp : 0 < s.size) (n x : Int) (hn : 2 ≤ n ∧ n ≤ 4) (hrn : rn (s[0].toNat : Int) = n) (hx : rv0 (s[0].toNat : Int) = x) (hsz : n ≤ s.size) (h0 : 128 ≤ (s[0].toNat : Int)) :
    Calls Try.prog 12 #[.string s] w fun e w' => e = .returned (.int .i64 (us s.data.toList)) ∧ Below w.heap.size w w' := by
  unfold maxLen at hs
  have h256 := u8_lt s[0]
  have hl0 : ¬ ((s.size : Int) = 0) := by omega
  have Hrn := Lib.hid hrn
  have Hx := Lib.hid hx
  have hrange : (n = 2 ∧ 192 ≤ (s[0].toNat : Int) ∧ (s[0].toNat : Int) < 224 ∧ x = (s[0].toNat : Int) - 192) ∨ (n = 3 ∧ 224 ≤ (s[0].toNat : Int) ∧ (s[0].toNat : Int) < 240 ∧ x = (s[0].toNat : Int) - 224) ∨ (n = 4 ∧ 240 ≤ (s[0].toNat : Int) ∧ (s[0].toNat : Int) < 248 ∧ x = (s[0].toNat : Int) - 240) := by
    have hrn' := hrn
    have hx' := hx
    unfold rn at hrn'; unfold rv0 at hx'
    (repeat' split at hrn') <;> (repeat' split at hx') <;> omega
  clear hrn hx
  rcases hrange with ⟨rfl, h1, h2, rfl⟩ | ⟨rfl, h1, h2, rfl⟩ | ⟨rfl, h1, h2, rfl⟩
  · go_enter Try.func12, Try.ntmps12
    go_wp2
    go_loop [5, 6] (RefRel s 2) (fun _ i => 5 - (intOf i).toNat)
    case atStart => exact ⟨1, _, by omega, by omega, rfl, rfl, by rw [← Hx.out, byte_at s 0 hp]; rfl, by omega, by omega, by omega, by omega, by omega, by omega⟩
    case round =>
      obtain ⟨k, x, hk1, hkn, rfl, rfl, Hxv, hx0, hx1, hx2, hx3, hx4, hall⟩ := hrel
      have Hall := Lib.hid hall; clear hall
      by_cases hlt : (k : Int) < 2
      · have hks : k < s.size := by omega
        have hk256 := u8_lt s[k]
        have hb : x < 131072 := by omega
        by_cases hc : 128 ≤ (s[k].toNat : Int) ∧ (s[k].toNat : Int) ≤ 191
        · obtain ⟨hc1, hc2⟩ := hc
          go_wp2
          go_round
          case rel =>
            refine ⟨k + 1, _, by omega, by omega, rfl, by go_num, ?_, by omega, by omega, by omega, by omega, by omega, ?_⟩
            · show _ = _
              rw [Runes.rv_next _ hk1, ← Hxv.out, ← byte_at s k hks]
            · intro j h3 h4
              by_cases e : j = k
              · subst e; rw [← byte_at s _ hks]; exact ⟨hc1, hc2⟩
              · exact Hall.out j h3 (by omega)
          case measure => simp [intOf]; omega
        · have hbad : (s[k].toNat : Int) < 128 ∨ 191 < (s[k].toNat : Int) := by omega
          clear hc
          rcases hbad with hb1 | hb1
          all_goals
            go_wp2
            go_ret
            refine ⟨ret_int ?_, Below.refl _ _⟩
            rw [Runes.us_bad' (j := k) (by rw [← byte_at s 0 hp]; exact h0) hk1 (by rw [← byte_at s 0 hp, Hrn.out]; exact hlt) (by rw [← byte_at s k hks]; omega)]
            rfl
      · obtain rfl : k = 2 := by omega
        go_wp2
        all_goals
          go_ret
          refine ⟨ret_int ?_, ?_⟩
          · have hu := Runes.us2 (l := s.data.toList) (by rw [← byte_at s 0 hp, Hrn.out]) (by rw [len_data]; omega) (Hall.out 1 (by omega) (by omega))
            rw [← Hxv.out] at hu
            rw [hu]
            first | (rw [if_pos (by omega)]; rfl) | (rw [if_neg (by omega)]; rfl)
          · repeat (first | exact Below.refl _ _ | refine Below.drew ?_ | refine Below.alloc ?_ (by simp) _)
  · go_enter Try.func12, Try.ntmps12
    go_wp2
    go_loop [5, 6] (RefRel s 3) (fun _ i => 5 - (intOf i).toNat)
    case atStart => exact ⟨1, _, by omega, by omega, rfl, rfl, by rw [← Hx.out, byte_at s 0 hp]; rfl, by omega, by omega, by omega, by omega, by omega, by omega⟩
    case round =>
      obtain ⟨k, x, hk1, hkn, rfl, rfl, Hxv, hx0, hx1, hx2, hx3, hx4, hall⟩ := hrel
      have Hall := Lib.hid hall; clear hall
      by_cases hlt : (k : Int) < 3
      · have hks : k < s.size := by omega
        have hk256 := u8_lt s[k]
        have hb : x < 131072 := by omega
        by_cases hc : 128 ≤ (s[k].toNat : Int) ∧ (s[k].toNat : Int) ≤ 191
        · obtain ⟨hc1, hc2⟩ := hc
          go_wp2
          go_round
          case rel =>
            refine ⟨k + 1, _, by omega, by omega, rfl, by go_num, ?_, by omega, by omega, by omega, by omega, by omega, ?_⟩
            · show _ = _
              rw [Runes.rv_next _ hk1, ← Hxv.out, ← byte_at s k hks]
            · intro j h3 h4
              by_cases e : j = k
              · subst e; rw [← byte_at s _ hks]; exact ⟨hc1, hc2⟩
              · exact Hall.out j h3 (by omega)
          case measure => simp [intOf]; omega
        · have hbad : (s[k].toNat : Int) < 128 ∨ 191 < (s[k].toNat : Int) := by omega
          clear hc
          rcases hbad with hb1 | hb1
          all_goals
            go_wp2
            go_ret
            refine ⟨ret_int ?_, Below.refl _ _⟩
            rw [Runes.us_bad' (j := k) (by rw [← byte_at s 0 hp]; exact h0) hk1 (by rw [← byte_at s 0 hp, Hrn.out]; exact hlt) (by rw [← byte_at s k hks]; omega)]
            rfl
      · obtain rfl : k = 3 := by omega
        go_wp2
        all_goals
          go_ret
          refine ⟨ret_int ?_, ?_⟩
          · have hu := Runes.us3 (l := s.data.toList) (by rw [← byte_at s 0 hp, Hrn.out]) (by rw [len_data]; omega) (Hall.out 1 (by omega) (by omega)) (Hall.out 2 (by omega) (by omega))
            rw [← Hxv.out] at hu
            rw [hu]
            first | (rw [if_pos (by omega)]; rfl) | (rw [if_neg (by omega)]; rfl)
          · repeat (first | exact Below.refl _ _ | refine Below.drew ?_ | refine Below.alloc ?_ (by simp) _)
  · go_enter Try.func12, Try.ntmps12
    go_wp2
    go_loop [5, 6] (RefRel s 4) (fun _ i => 5 - (intOf i).toNat)
    case atStart => exact ⟨1, _, by omega, by omega, rfl, rfl, by rw [← Hx.out, byte_at s 0 hp]; rfl, by omega, by omega, by omega, by omega, by omega, by omega⟩
    case round =>
      obtain ⟨k, x, hk1, hkn, rfl, rfl, Hxv, hx0, hx1, hx2, hx3, hx4, hall⟩ := hrel
      have Hall := Lib.hid hall; clear hall
      by_cases hlt : (k : Int) < 4
      · have hks : k < s.size := by omega
        have hk256 := u8_lt s[k]
        have hb : x < 131072 := by omega
        by_cases hc : 128 ≤ (s[k].toNat : Int) ∧ (s[k].toNat : Int) ≤ 191
        · obtain ⟨hc1, hc2⟩ := hc
          go_wp2
          go_round
          case rel =>
            refine ⟨k + 1, _, by omega, by omega, rfl, by go_num, ?_, by omega, by omega, by omega, by omega, by omega, ?_⟩
            · show _ = _
              rw [Runes.rv_next _ hk1, ← Hxv.out, ← byte_at s k hks]
            · intro j h3 h4
              by_cases e : j = k
              · subst e; rw [← byte_at s _ hks]; exact ⟨hc1, hc2⟩
              · exact Hall.out j h3 (by omega)
          case measure => simp [intOf]; omega
        · have hbad : (s[k].toNat : Int) < 128 ∨ 191 < (s[k].toNat : Int) := by omega
          clear hc
          rcases hbad with hb1 | hb1
          all_goals
            go_wp2
            go_ret
            refine ⟨ret_int ?_, Below.refl _ _⟩
            rw [Runes.us_bad' (j := k) (by rw [← byte_at s 0 hp]; exact h0) hk1 (by rw [← byte_at s 0 hp, Hrn.out]; exact hlt) (by rw [← byte_at s k hks]; omega)]
            rfl
      · obtain rfl : k = 4 := by omega
        go_wp2
        all_goals
          go_ret
          refine ⟨ret_int ?_, ?_⟩
          · have hu := Runes.us4 (l := s.data.toList) (by rw [← byte_at s 0 hp, Hrn.out]) (by rw [len_data]; omega) (Hall.out 1 (by omega) (by omega)) (Hall.out 2 (by omega) (by omega)) (Hall.out 3 (by omega) (by omega))
            rw [← Hxv.out] at hu
            rw [hu]
            first | (rw [if_pos (by omega)]; rfl) | (rw [if_neg (by omega)]; rfl)
          · repeat (first | exact Below.refl _ _ | refine Below.drew ?_ | refine Below.alloc ?_ (by simp) _)

end Go.Proofs.Ytdmmelbknmabeaa
