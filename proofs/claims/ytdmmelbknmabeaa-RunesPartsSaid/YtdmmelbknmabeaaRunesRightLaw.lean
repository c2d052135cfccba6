/- The law RunesRight, walked: it returns true. -/
import Derived.Test.YtdmmelbknmabeaaRunesTold
import Derived.Test.YtdmmelbknmabeaaRunesParts
namespace Go.Proofs.Ytdmmelbknmabeaa
open Go.RowKit
open Runes (us pos ek cnt fault right)

set_option maxRecDepth 100000 in
set_option maxHeartbeats 1000000 in
theorem alive06 (w : World) : Calls Try.prog 6 #[] w fun e w' => e = .returned (.bool true) ∧ Below w.heap.size w w' := by
  have h1 : ∀ w0, Calls Try.prog 8 #[.string ⟨#[195, 164]⟩] w0 fun e w' => e = .returned (.bool true) ∧ Below w0.heap.size w0 w' := fun w0 => by
    have := right_any ⟨#[195, 164]⟩ w0 (by decide); rw [Runes.alive1.1] at this; exact this
  have h2 : ∀ w0, Calls Try.prog 10 #[.string ⟨#[195, 164]⟩] w0 fun e w' => e = .returned (.int .i64 1) ∧ Below w0.heap.size w0 w' := fun w0 => by
    have := count_any ⟨#[195, 164]⟩ w0 (by decide); rw [Runes.alive1.2] at this; exact this
  have h3 : ∀ w0, Calls Try.prog 8 #[.string ⟨#[195]⟩] w0 fun e w' => e = .returned (.bool false) ∧ Below w0.heap.size w0 w' := fun w0 => by
    have := right_any ⟨#[195]⟩ w0 (by decide); rw [Runes.alive2] at this; exact this
  have h4 : ∀ w0, Calls Try.prog 9 #[.string ⟨#[97, 255]⟩] w0 fun e w' => e = .returned (.int .i64 1) ∧ Below w0.heap.size w0 w' := fun w0 => by
    have := fault_any ⟨#[97, 255]⟩ w0 (by decide); rw [Runes.alive3] at this; exact this
  have H1 := Lib.hid h1; have H2 := Lib.hid h2; have H3 := Lib.hid h3; have H4 := Lib.hid h4
  clear h1 h2 h3 h4
  go_enter Try.func6, Try.ntmps6
  go_wp2_with fail
  refine (H1.out _).mono ?_
  rintro e w1 ⟨rfl, hb1⟩
  go_wp2_with fail
  refine (H2.out _).mono ?_
  rintro e w2 ⟨rfl, hb2⟩
  go_wp2_with fail
  refine (H3.out _).mono ?_
  rintro e w3 ⟨rfl, hb3⟩
  go_wp2_with fail
  refine (H4.out _).mono ?_
  rintro e w4 ⟨rfl, hb4⟩
  go_wp2_with fail
  go_ret
  have h12 := hb1.trans (hb2.mono hb1.size)
  have h13 := h12.trans (hb3.mono h12.size)
  exact ⟨rfl, h13.trans (hb4.mono h13.size)⟩

set_option maxRecDepth 100000 in
set_option maxHeartbeats 1000000 in
theorem runesRight_walk (w : World) (s : ByteArray) (hs : s.size ≤ maxLen) : Calls Try.prog 3 #[.string s] w fun e w' => e = .returned (.bool true) ∧ Below w.heap.size w w' := by
  have HA := Lib.hid alive06
  by_cases hbig : (s.size : Int) > 300
  · unfold maxLen at hs
    go_enter Try.func3, Try.ntmps3
    go_wp2_with fail
    refine (HA.out _).mono ?_
    rintro e w1 ⟨rfl, hb1⟩
    go_wp2_with fail
    go_ret
    exact ⟨rfl, hb1⟩
  have hW := fun w0 => refwalk_any s w0 (by omega)
  have hR := fun w0 => right_any s w0 hs
  have hF := fun w0 => fault_any s w0 hs
  have hC := fun w0 => count_any s w0 hs
  have hS := fun w0 => size_any s w0 hs
  have hT := fun w0 => refsize_any s w0 hs
  obtain ⟨p, k, hpk, hk, hle, hf⟩ := fault_cases s.data.toList
  have hr : right s.data.toList = decide (fault s.data.toList < 0) := rfl
  have hlast : ((List.range (k + 1)).map fun j => Value.int .i64 (pos s.data.toList j : Nat))[k]? = some (.int .i64 p) := by simp [← hpk, hk]
  rw [hk] at hW hC
  rw [len_data] at hle
  have hkp : k ≤ p := by rw [← hpk, ← hk]; exact Runes.pos_ge (most := s.data.toList.length) _ (Runes.cnt_end _).1
  have hrr : ∃ (r : Bool) (f : Int), right s.data.toList = r ∧ fault s.data.toList = f ∧ ((p = s.size ∧ r = true ∧ f = -1) ∨ (p < s.size ∧ r = false ∧ f = p)) := by
    refine ⟨_, _, rfl, rfl, ?_⟩
    rw [hr, hf, len_data]
    by_cases e : p = s.size
    · left; rw [if_pos e]; exact ⟨e, rfl, rfl⟩
    · right; rw [if_neg e]; exact ⟨by omega, by simp, rfl⟩
  obtain ⟨r, f, hr1, hf1, hcase⟩ := hrr
  rw [hr1] at hR
  rw [hf1] at hF
  have HW := Lib.hid hW; have HR := Lib.hid hR; have HF := Lib.hid hF; have HC := Lib.hid hC; have HS := Lib.hid hS; have HT := Lib.hid hT; have Hlast := Lib.hid hlast
  clear hW hR hF hC hS hT hlast hpk hk hf hr hr1 hf1
  unfold maxLen at hs
  rcases hcase with ⟨hp, rfl, rfl⟩ | ⟨hp, rfl, rfl⟩
  · have hpn : s.size ≤ p := by omega
    clear hp
    go_enter Try.func3, Try.ntmps3
    go_wp2_with fail
    refine (HA.out _).mono ?_
    rintro e w1 ⟨rfl, hb1⟩
    go_wp2_with fail
    refine (HW.out _).mono ?_
    rintro e w2 ⟨a, cap, rfl, hrow, hb2⟩
    obtain ⟨b0, o0, hb0, hidx, hcell⟩ := idx (P := Try.prog) (t := 23) (cap := cap) (i := k) (n := k + 1) hrow (by omega) (by simp) Try.underlying23 (fun _ => by kernel_rfl)
    have hcell' : w2.cell? ⟨b0, o0, none⟩ = some (.int .i64 p) := by
      rw [hcell, ← List.getElem?_eq_getElem, Hlast.out]
    clear hcell
    go_wp2_with fail
    refine (HR.out _).mono ?_
    rintro e w3 ⟨rfl, hb3⟩
    go_wp2_with fail
    refine (HF.out _).mono ?_
    rintro e w4 ⟨rfl, hb4⟩
    go_wp2_with fail
    refine (HC.out _).mono ?_
    rintro e w5 ⟨rfl, hb5⟩
    go_wp2_with fail
    refine (HS.out _).mono ?_
    rintro e w6 ⟨rfl, hb6⟩
    go_wp2_with fail
    refine (HT.out _).mono ?_
    rintro e w7 ⟨rfl, hb7⟩
    go_wp2_with fail
    go_ret
    have h2 := hb1.trans (hb2.mono hb1.size)
    have h3 := h2.trans (hb3.mono h2.size)
    have h4 := h3.trans (hb4.mono h3.size)
    have h5 := h4.trans (hb5.mono h4.size)
    have h6 := h5.trans (hb6.mono h5.size)
    exact ⟨by simp, h6.trans (hb7.mono h6.size)⟩
  · have hpn : p < s.size := by omega
    clear hp
    go_enter Try.func3, Try.ntmps3
    go_wp2_with fail
    refine (HA.out _).mono ?_
    rintro e w1 ⟨rfl, hb1⟩
    go_wp2_with fail
    refine (HW.out _).mono ?_
    rintro e w2 ⟨a, cap, rfl, hrow, hb2⟩
    obtain ⟨b0, o0, hb0, hidx, hcell⟩ := idx (P := Try.prog) (t := 23) (cap := cap) (i := k) (n := k + 1) hrow (by omega) (by simp) Try.underlying23 (fun _ => by kernel_rfl)
    have hcell' : w2.cell? ⟨b0, o0, none⟩ = some (.int .i64 p) := by
      rw [hcell, ← List.getElem?_eq_getElem, Hlast.out]
    clear hcell
    go_wp2_with fail
    refine (HR.out _).mono ?_
    rintro e w3 ⟨rfl, hb3⟩
    go_wp2_with fail
    refine (HF.out _).mono ?_
    rintro e w4 ⟨rfl, hb4⟩
    go_wp2_with fail
    refine (HC.out _).mono ?_
    rintro e w5 ⟨rfl, hb5⟩
    go_wp2_with fail
    refine (HS.out _).mono ?_
    rintro e w6 ⟨rfl, hb6⟩
    go_wp2_with fail
    refine (HT.out _).mono ?_
    rintro e w7 ⟨rfl, hb7⟩
    go_wp2_with fail
    go_ret
    have h2 := hb1.trans (hb2.mono hb1.size)
    have h3 := h2.trans (hb3.mono h2.size)
    have h4 := h3.trans (hb4.mono h3.size)
    have h5 := h4.trans (hb5.mono h4.size)
    have h6 := h5.trans (hb6.mono h5.size)
    exact ⟨by simp, h6.trans (hb7.mono h6.size)⟩

end Go.Proofs.Ytdmmelbknmabeaa
