/- runes.Fault, Right, Count, Clip and the reference's Walk, walked. -/
import Derived.Test.YtdmmelbknmabeaaBase2
import Derived.Test.YtdmmelbknmabeaaRunesWalk2
import Derived.Test.YtdmmelbknmabeaaRunesRefSize2
namespace Go.Proofs.Ytdmmelbknmabeaa
open Go.RowKit
open Runes (us pos goes IsEnd ek cnt fault right)

theorem walk_at (s : ByteArray) (most : Int) (w : World) (hs : s.size ≤ maxLen) (h0 : 0 ≤ most) (hm : most ≤ 9223372036854775807) :
    Calls Try.prog 14 #[.string s, .int .i64 most] w fun e w' => e = .returned (.tuple #[.int .i64 (pos s.data.toList (ek s.data.toList most) : Nat), .int .i64 (ek s.data.toList most : Nat)]) ∧ Below w.heap.size w w' :=
  (walk_any s most w hs h0 hm).mono fun e w' ⟨k, hk, he, hb⟩ => by
    obtain rfl := hk.unique (Runes.ek_spec _ _)
    exact ⟨he, hb⟩

theorem ek_len (s : ByteArray) : ek s.data.toList (s.size : Int) = cnt s.data.toList := by unfold Runes.cnt; rw [len_data]

theorem fault_cases (l : List UInt8) : ∃ p k : Nat, pos l (cnt l) = p ∧ cnt l = k ∧ p ≤ l.length ∧ fault l = if p = l.length then -1 else (p : Int) :=
  ⟨_, _, rfl, rfl, Runes.pos_le _ _, rfl⟩

set_option maxRecDepth 100000 in
set_option maxHeartbeats 1000000 in
theorem fault_any (s : ByteArray) (w : World) (hs : s.size ≤ maxLen) :
    Calls Try.prog 9 #[.string s] w fun e w' => e = .returned (.int .i64 (fault s.data.toList)) ∧ Below w.heap.size w w' := by
  have Hw := fun w0 => (walk_at s s.size w0 hs (by omega) (by unfold maxLen at hs; omega))
  rw [ek_len] at Hw
  obtain ⟨p, k, hpk, hk, hle, hf⟩ := fault_cases s.data.toList
  rw [hpk, hk] at Hw
  rw [len_data] at hle hf
  have HW := Lib.hid Hw; clear Hw
  have Hf := Lib.hid hf; clear hf hpk hk
  unfold maxLen at hs
  by_cases h : p = s.size
  · have hb : ((p : Int) == (s.size : Int)) = true := beq_iff_eq.2 (by omega)
    go_enter Try.func9, Try.ntmps9
    go_wp2_with fail
    refine (HW.out _).mono ?_
    rintro e w1 ⟨rfl, hb1⟩
    go_wp2_with fail
    go_ret
    exact ⟨ret_int (by rw [Hf.out, if_pos h]), hb1⟩
  · have hb : ((p : Int) == (s.size : Int)) = false := beq_eq_false_iff_ne.2 (by omega)
    go_enter Try.func9, Try.ntmps9
    go_wp2_with fail
    refine (HW.out _).mono ?_
    rintro e w1 ⟨rfl, hb1⟩
    go_wp2_with fail
    go_ret
    exact ⟨ret_int (by rw [Hf.out, if_neg h]), hb1⟩

set_option maxHeartbeats 400000 in
theorem right_any (s : ByteArray) (w : World) (hs : s.size ≤ maxLen) :
    Calls Try.prog 8 #[.string s] w fun e w' => e = .returned (.bool (right s.data.toList)) ∧ Below w.heap.size w w' := by
  go_enter Try.func8, Try.ntmps8
  go_wp2_with fail
  refine (fault_any _ _ hs).mono ?_
  rintro e w1 ⟨rfl, hb1⟩
  go_wp2_with fail
  go_ret
  exact ⟨rfl, hb1⟩

set_option maxHeartbeats 400000 in
theorem count_any (s : ByteArray) (w : World) (hs : s.size ≤ maxLen) :
    Calls Try.prog 10 #[.string s] w fun e w' => e = .returned (.int .i64 (cnt s.data.toList : Nat)) ∧ Below w.heap.size w w' := by
  have Hw := fun w0 => (walk_at s s.size w0 hs (by omega) (by unfold maxLen at hs; omega))
  rw [ek_len] at Hw
  have HW := Lib.hid Hw; clear Hw
  go_enter Try.func10, Try.ntmps10
  go_wp2_with fail
  refine (HW.out _).mono ?_
  rintro e w1 ⟨rfl, hb1⟩
  go_wp2_with fail
  go_ret
  exact ⟨rfl, hb1⟩

set_option maxHeartbeats 400000 in
theorem clip_any (s : ByteArray) (most : Int) (w : World) (hs : s.size ≤ maxLen) (hm : most ≤ 9223372036854775807) :
    Calls Try.prog 13 #[.string s, .int .i64 most] w fun e w' => e = .returned (.string (s.extract 0 (pos s.data.toList (ek s.data.toList (max most 0))))) ∧ Below w.heap.size w w' := by
  have Hw := (fun w0 => (walk_at s (max most 0) w0 hs (by omega) (by omega)))
  have hle := Runes.pos_le s.data.toList (ek s.data.toList (max most 0))
  rw [len_data] at hle
  rcases Int.lt_or_le most 0 with h | h
  · have hx : max most 0 = 0 := by omega
    rw [hx] at Hw hle ⊢
    clear hx
    have HW := Lib.hid Hw; clear Hw
    go_enter Try.func13, Try.ntmps13
    go_wp2_with fail
    refine (HW.out _).mono ?_
    rintro e w1 ⟨rfl, hb1⟩
    go_wp2_with fail
    go_ret
    exact ⟨rfl, hb1⟩
  · have hx : max most 0 = most := by omega
    rw [hx] at Hw hle ⊢
    clear hx
    have HW := Lib.hid Hw; clear Hw
    go_enter Try.func13, Try.ntmps13
    go_wp2_with fail
    refine (HW.out _).mono ?_
    rintro e w1 ⟨rfl, hb1⟩
    go_wp2_with fail
    go_ret
    exact ⟨rfl, hb1⟩

/-- the ends of all runes up to the first fault -/
def RefWalkRel (s : ByteArray) (w : World) (out at_ : Value) (wr : World) : Prop :=
  ∃ k : Nat, at_ = .int .i64 (pos s.data.toList k : Nat) ∧ (∀ j, j < k → goes s.data.toList s.data.toList.length j) ∧ Below w.heap.size w wr ∧ wr.ownsRow w.heap.size 3 1 out (k + 1) ((List.range (k + 1)).map fun j => .int .i64 (pos s.data.toList j : Nat))

theorem T_ints : SliceT Try.prog 23 3 (.int .i64 0) 1 8 := ⟨Try.underlying23, by kernel_rfl, rfl, by decide, by decide⟩

set_option maxRecDepth 100000 in
set_option maxHeartbeats 1000000 in
theorem refwalk_any (s : ByteArray) (w : World) (hs : s.size ≤ 1000) :
    Calls Try.prog 7 #[.string s] w fun e w' => ∃ a cap, e = .returned (.slice a (cnt s.data.toList + 1) cap) ∧ Row w' a ((List.range (cnt s.data.toList + 1)).map fun j => .int .i64 (pos s.data.toList j : Nat)) ∧ Below w.heap.size w w' := by
  have hs' : s.size ≤ maxLen := by unfold maxLen; omega
  go_enter Try.func7, Try.ntmps7
  go_wp2
  go_loopw [3, 4] (RefWalkRel s w) (fun _ a _ => s.size - (intOf a).toNat)
  case atStart =>
    refine ⟨0, rfl, by omega, (Below.refl _ _).alloc (Nat.le_refl _) _, ?_⟩
    have := World.ownsRow_lit (base := w.heap.size) (e := 3) (size := 1) w #[.int .i64 0] 1 (Nat.le_refl _) (by decide) rfl
    exact this
  case round =>
    obtain ⟨k, rfl, hgo, hbel, hown⟩ := hrel
    have Hgo := Lib.hid hgo; clear hgo
    have hple := Runes.pos_le s.data.toList k
    have hkp := Runes.pos_ge k Hgo.out
    rw [len_data] at hple
    have Hext := Lib.hid (Lib.extract_to_end s (pos s.data.toList k))
    have Hsz : Hid ((s.extract (pos s.data.toList k) s.size).size = s.size - pos s.data.toList k) := by
      show _ = _
      rw [← len_data, Hext.out, List.length_drop, len_data]
    have hule := Runes.us_le (s.data.toList.drop (pos s.data.toList k))
    rw [List.length_drop, len_data] at hule
    have Hpos := Lib.hid (Runes.pos_succ s.data.toList k)
    have Hall := Lib.hid (Runes.goes_all s.data.toList k)
    have Hlast : Hid ((List.range (k + 1 + 1)).map (fun j => Value.int .i64 (pos s.data.toList j : Nat)) = (List.range (k + 1)).map (fun j => Value.int .i64 (pos s.data.toList j : Nat)) ++ [Value.int .i64 (pos s.data.toList (k + 1) : Nat)]) := by
      show _ = _
      rw [List.range_succ (n := k + 1)]; simp
    rw [Hpos.out] at Hlast
    generalize hvs : (List.range (k + 1)).map (fun j => Value.int .i64 (pos s.data.toList j : Nat)) = vs at hown Hlast
    have Hvs := Lib.hid hvs; clear hvs
    generalize hp : pos s.data.toList k = p at *
    have Hp := Lib.hid hp; clear hp
    generalize hu : us (s.data.toList.drop p) = u at *
    have Hu := Lib.hid hu; clear hu
    have hc : ∀ w0, Calls Try.prog 12 #[.string (s.extract p s.size)] w0 fun e w' => e = .returned (.int .i64 u) ∧ Below w0.heap.size w0 w' := by
      intro w0
      have := refsize_any (s.extract p s.size) w0 (by rw [Hsz.out]; unfold maxLen; omega)
      rw [Hext.out, Hu.out] at this
      exact this
    have Hc := Lib.hid hc; clear hc
    by_cases hz : 0 < (u : Int)
    · go_wp2_with fail
      refine (Hc.out _).mono ?_
      rintro e w1 ⟨rfl, hb1⟩
      go_wp2_with fail
      refine (Hc.out _).mono ?_
      rintro e w2 ⟨rfl, hb2⟩
      have hown2 := owns_below (owns_below hown hb1) hb2
      have hbel2 := (hbel.trans (hb1.mono hbel.size)).trans (hb2.mono (Nat.le_trans hbel.size hb1.size))
      have hsz2 := hbel2.size
      clear hown
      go_wp2_with (at_builtin; refine wpList_append_el T_ints rfl _ _ rfl #[_] rfl hown2 rfl rfl ?_ ?_ ?_ ?_)
      · simp [Value.oneCell']
      · omega
      · exact hsz2
      · intro v' w3 hown3 hg3
        go_wp2
        go_roundw
        case rel =>
          refine ⟨k + 1, by rw [Hpos.out]; go_num, ?_, ?_, ?_⟩
          · intro j hj
            by_cases e : j = k
            · rw [e, Hall.out]; omega
            · exact Hgo.out j (by omega)
          · exact Below.of_grown hbel2 hown2 hg3 hsz2 (Nat.le_refl _)
          · rw [Hlast.out]; exact hown3
        case measure => simp [intOf]; omega
    · have hz0 : u = 0 := by omega
      go_wp2_with fail
      refine (Hc.out _).mono ?_
      rintro e w1 ⟨rfl, hb1⟩
      go_wp2_with fail
      go_ret
      have hk : k = cnt s.data.toList := Runes.IsEnd.unique ⟨Hgo.out, by rw [Hall.out]; omega⟩ (Runes.ek_spec _ _)
      obtain ⟨a, cap, rfl, hrow, _⟩ := Row.of_owns (owns_below hown hb1)
      rw [← hk]
      refine ⟨a, cap, rfl, by rw [Hvs.out]; exact hrow, hbel.trans (hb1.mono hbel.size)⟩

end Go.Proofs.Ytdmmelbknmabeaa
