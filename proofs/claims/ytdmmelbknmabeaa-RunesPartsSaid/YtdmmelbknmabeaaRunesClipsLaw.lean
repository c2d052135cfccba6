/- The law RunesClips, walked: it returns true. -/
import Derived.Test.YtdmmelbknmabeaaRunesRightLaw
namespace Go.Proofs.Ytdmmelbknmabeaa
open Go.RowKit
open Runes (us pos ek cnt fault right)

/-- where the longest beginning ends that the first i ends give -/
noncomputable def wn (l : List UInt8) (most : Int) (i : Nat) : Nat := if most < 0 then 0 else pos l (min (i - 1) (ek l most))

theorem wn_zero (l : List UInt8) (most : Int) : wn l most 0 = 0 := by unfold wn; simp [pos]
theorem wn_yes {l : List UInt8} {most : Int} {i : Nat} (hi : i ≤ cnt l) (h : (pos l i : Int) ≤ most) : wn l most (i + 1) = pos l i := by
  unfold wn
  rw [if_neg (by omega), Nat.add_sub_cancel, show min i (ek l most) = i by have := (Runes.pos_ek (l := l) (most := most) (by omega) hi).1 h; omega]
theorem wn_no {l : List UInt8} {most : Int} {i : Nat} (hi : i ≤ cnt l) (h : ¬ (pos l i : Int) ≤ most) : wn l most (i + 1) = wn l most i := by
  unfold wn
  split
  · rfl
  · rename_i h0
    have h1 := (Runes.pos_ek (l := l) (most := most) (by omega) hi)
    have h2 : ¬ i ≤ ek l most := fun e => h (h1.2 e)
    rw [show min (i + 1 - 1) (ek l most) = min (i - 1) (ek l most) by omega]
theorem wn_end (l : List UInt8) (most : Int) : wn l most (cnt l + 1) = pos l (ek l (max most 0)) := by
  unfold wn
  split
  · rw [show max most 0 = 0 by omega, Runes.pos_ek_zero]
  · rw [show max most 0 = most by omega, show min (cnt l + 1 - 1) (ek l most) = ek l most by have := Runes.ek_le l most; omega]
theorem extract_zero (s : ByteArray) : s.extract 0 0 = ⟨#[]⟩ := by
  apply ByteArray.ext; simp

theorem wf_i64 {n : Int} (h : (Lit.int .i64 n).wf = true) : -9223372036854775808 ≤ n ∧ n ≤ 9223372036854775807 := by
  simpa [Lit.wf, IntKind.min, IntKind.max, IntKind.signed, IntKind.bits] using h

/-- the loop of the law at its head -/
def ClipsRel (s : ByteArray) (most : Int) (want i : Value) : Prop :=
  ∃ k : Nat, k ≤ cnt s.data.toList + 1 ∧ i = .int .i64 k ∧ want = .string (s.extract 0 (wn s.data.toList most k))

set_option maxRecDepth 100000 in
set_option maxHeartbeats 1000000 in
theorem runesClips_walk (w : World) (s : ByteArray) (hs : s.size ≤ maxLen) (most : Int) (hm : (Lit.int .i64 most).wf = true) : Calls Try.prog 4 #[.string s, .int .i64 most] w fun e w' => e = .returned (.bool true) ∧ Below w.heap.size w w' := by
  have hm2 : most ≤ 9223372036854775807 := (wf_i64 hm).2
  have HA := Lib.hid alive06
  by_cases hbig : (s.size : Int) > 300
  · unfold maxLen at hs
    go_enter Try.func4, Try.ntmps4
    go_wp2_with fail
    refine (HA.out _).mono ?_
    rintro e w1 ⟨rfl, hb1⟩
    go_wp2_with fail
    go_ret
    exact ⟨rfl, hb1⟩
  have hW := fun w0 => refwalk_any s w0 (by omega)
  have hC := fun w0 => clip_any s most w0 hs hm2
  have hkp : cnt s.data.toList ≤ s.size := by
    have h1 := Runes.pos_ge (most := s.data.toList.length) _ (Runes.cnt_end s.data.toList).1
    have h2 := Runes.pos_le s.data.toList (cnt s.data.toList)
    rw [len_data] at h2; omega
  rw [← wn_end] at hC
  generalize hk : cnt s.data.toList = K at hW hC hkp
  have HK := Lib.hid hk; have HW := Lib.hid hW; have HC := Lib.hid hC
  clear hW hC hm hk
  unfold maxLen at hs
  go_enter Try.func4, Try.ntmps4
  go_wp2_with fail
  refine (HA.out _).mono ?_
  rintro e w1 ⟨rfl, hb1⟩
  go_wp2_with fail
  refine (HW.out _).mono ?_
  rintro e w2 ⟨a, cap, rfl, hrow, hb2⟩
  have Hrow := Lib.hid hrow; clear hrow
  go_wp2_with fail
  go_loop [5, 16] (ClipsRel s most) (fun _ i => K + 1 - (intOf i).toNat)
  case atStart => exact ⟨0, by omega, rfl, by rw [wn_zero, extract_zero]⟩
  case round =>
    obtain ⟨k, hk, rfl, rfl⟩ := hrel
    rw [HK.out] at hk
    by_cases hlt : k < K + 1
    · obtain ⟨b0, o0, hb0, hidx, hcell⟩ := idx (P := Try.prog) (t := 23) (cap := cap) (i := k) (n := K + 1) Hrow.out hlt (by simp) Try.underlying23 (fun _ => by kernel_rfl)
      rw [List.getElem_map, List.getElem_range] at hcell
      have hpl := Runes.pos_le s.data.toList k
      rw [len_data] at hpl
      by_cases hyes : (pos s.data.toList k : Int) ≤ most
      · have Hw := Lib.hid (wn_yes (by rw [HK.out]; omega) hyes)
        generalize hp : pos s.data.toList k = p at *
        have Hp := Lib.hid hp; clear hp
        go_wp2_with fail
        go_round
        case rel => exact ⟨k + 1, by rw [HK.out]; omega, by go_num, by rw [Hw.out]⟩
        case measure => simp [intOf]; omega
      · have Hw := Lib.hid (wn_no (by rw [HK.out]; omega) hyes)
        generalize hp : pos s.data.toList k = p at *
        have Hp := Lib.hid hp; clear hp
        go_wp2_with fail
        go_round
        case rel => exact ⟨k + 1, by rw [HK.out]; omega, by go_num, by rw [Hw.out]⟩
        case measure => simp [intOf]; omega
    · obtain rfl : k = K + 1 := by omega
      go_wp2_with fail
      refine (HC.out _).mono ?_
      rintro e w3 ⟨rfl, hb3⟩
      go_wp2_with fail
      go_ret
      have h2 := hb1.trans (hb2.mono hb1.size)
      exact ⟨by simp, h2.trans (hb3.mono h2.size)⟩

end Go.Proofs.Ytdmmelbknmabeaa
