/- runes.Size, walked. -/
import Derived.Test.YtdmmelbknmabeaaRunesWalk
namespace Go.Proofs.Ytdmmelbknmabeaa
open Go.RowKit
open Runes (shp us okAt inb pos goes IsEnd)

/-- the loop of Size at its head -/
def SizeRel (s : ByteArray) (n lo hi : Int) (w w1 : World) (i : Value) (wr : World) : Prop :=
  ∃ (k : Nat) (a b : Int), 1 ≤ k ∧ ((k : Int) ≤ n ∨ k = 1) ∧ i = .int .i64 k ∧ Hid ((a, b) = if k = 1 then (lo, hi) else (128, 191)) ∧ (∀ j, 1 ≤ j → j < k → okAt s.data.toList j = true) ∧ Below w.heap.size w wr ∧
    w1.heap.size + 1 < wr.heap.size ∧ wr.cell? ⟨w1.heap.size + 1, 0, none⟩ = some (.int .u8 a) ∧ wr.cell? ⟨w1.heap.size + 1, 1, none⟩ = some (.int .u8 b) ∧
    wr.frozen? ⟨w1.heap.size + 1, 0, none⟩ = false ∧ wr.frozen? ⟨w1.heap.size + 1, 1, none⟩ = false

set_option maxRecDepth 100000 in
set_option maxHeartbeats 1000000 in
theorem size_any (s : ByteArray) (w : World) (hs : s.size ≤ maxLen) :
    Calls Try.prog 11 #[.string s] w fun e w' => e = .returned (.int .i64 (us s.data.toList)) ∧ Below w.heap.size w w' := by
  unfold maxLen at hs
  go_enter Try.func11, Try.ntmps11
  by_cases h0 : s.size = 0
  · have he := isEmpty_yes h0
    go_wp2_with fail
    go_ret
    refine ⟨ret_int ?_, Below.refl _ _⟩
    have : s.data.toList = [] := List.length_eq_zero_iff.1 (by simpa using h0)
    rw [this]; rfl
  · have he := isEmpty_no h0
    have hp : 0 < s.size := by omega
    obtain ⟨n, lo, hi, hsh, hn1, hn2, _, _⟩ := Runes.shp_ex (s[0].toNat : Int)
    have Hsh := Lib.hid hsh; clear hsh
    go_wp2_with fail
    refine (shape_at _ _ _ _ Hsh.out _).mono ?_
    rintro e w1 ⟨rfl, hb1⟩
    go_wp2_with fail
    · have hlt : (s.size : Int) < n := by assumption
      go_ret
      refine ⟨ret_int ?_, hb1.alloc (by have := hb1.size; omega) _⟩
      rw [Runes.us_short]
      · rfl
      · rw [← byte_at s 0 hp, Hsh.out, len_data]; exact hlt
    · have hge : n ≤ (s.size : Int) := by assumption
      go_loopw [6] (SizeRel s n lo hi w w1) (fun i _ => 5 - (intOf i).toNat)
      case atStart =>
        refine ⟨1, lo, hi, by omega, .inr rfl, rfl, rfl, by omega, (hb1.alloc (by have := hb1.size; omega) _).alloc (by have := hb1.size; simp; omega) _, by simp, ?_, ?_, ?_, ?_⟩
        all_goals simp [go_sem]
      case round =>
        obtain ⟨k, a, b, hk1, hkn, rfl, Hab, hok, hbel, hsz, c0, c1, f0, f1⟩ := hrel
        have Hok := Lib.hid hok; clear hok
        by_cases hlt : (k : Int) < n
        · have hks : k < s.size := by omega
          go_wp2_with fail
          go_region_with (go_at_call 16; refine (has_any _ _ _ _).mono ?_; rintro e w2 ⟨rfl, hb2⟩)
          all_goals
            obtain ⟨hc2, hf2⟩ := bcell hb2
            have hsz2 : w1.heap.size + 1 < w2.heap.size := Nat.lt_of_lt_of_le hsz hb2.size
            have d0 := (hc2 _ 0 hsz).trans c0
            have d1 := (hc2 _ 1 hsz).trans c1
            have g0 := (hf2 _ 0 hsz).trans f0
            have g1 := (hf2 _ 1 hsz).trans f1
            clear c0 c1 f0 f1 hc2 hf2
            have hkey : okAt s.data.toList k = Runes.inI a b s[k].toNat := by
              unfold okAt
              rw [← byte_at s 0 hp, Hsh.out, ← byte_at s k hks]
              have : (if k = 1 then (lo, hi) else (128, 191)) = (a, b) := Hab.out.symm
              simp only [this]
              rfl
            have Hkey := Lib.hid hkey; clear hkey
            have Hsz2 := Lib.hid hsz2; clear hsz2
            go_wp2
            · have hin' : Runes.inI a b s[k].toNat = false := by
                have : (!Runes.inI a b s[k].toNat) = true := by assumption
                simpa using this
              go_ret
              refine ⟨ret_int ?_, hbel.drew.trans (hb2.mono (hbel.size))⟩
              rw [Runes.us_no hk1 (by rw [← byte_at s 0 hp, Hsh.out]; exact hlt) (by rw [Hkey.out]; exact hin')]
              rfl
            · have hin : Runes.inI a b s[k].toNat = true := by
                have : (!Runes.inI a b s[k].toNat) = false := by assumption
                simpa using this
              go_roundw
              case measure => simp [intOf]; omega
              case rel =>
                have hsz2 := Hsz2.out
                refine ⟨k + 1, 128, 191, by omega, .inl (by omega), by go_num, (if_neg (by omega)).symm, ?_, ?_, ?_, ?_, ?_, ?_, ?_⟩
                · intro j h1 h2
                  by_cases e : j = k
                  · rw [e, Hkey.out]; exact hin
                  · exact Hok.out j h1 (by omega)
                · exact (((hbel.drew.trans (hb2.mono (hbel.size))).setCell (by have := hb1.size; simp; omega) _).setCell (by have := hb1.size; simp; omega) _)
                all_goals simp [go_sem, *]
        · go_wp2
          go_ret
          refine ⟨ret_int ?_, hbel⟩
          rw [Runes.us_yes (by simpa using hp) (by rw [← byte_at s 0 hp, Hsh.out, len_data]; exact hge) (by rw [← byte_at s 0 hp, Hsh.out]; intro j h1 h2; exact Hok.out j h1 (by simp only at h2; omega)), ← byte_at s 0 hp, Hsh.out]
          simp only
          omega

end Go.Proofs.Ytdmmelbknmabeaa
