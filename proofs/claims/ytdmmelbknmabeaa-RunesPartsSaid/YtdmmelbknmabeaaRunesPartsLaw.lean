/- The law RunesParts, walked: it returns true. -/
import Derived.Test.YtdmmelbknmabeaaRunesClipsLaw
namespace Go.Proofs.Ytdmmelbknmabeaa
open Go.RowKit
open Runes (us pos ek cnt fault right)

theorem append_data (s t : ByteArray) : (s ++ t).data.toList = s.data.toList ++ t.data.toList := by simp

theorem extract_front (s : ByteArray) (p : Nat) : (s.extract 0 p).data.toList = s.data.toList.take p := by
  rw [Lib.extract_data]; simp

theorem extract_front_size (s : ByteArray) {p : Nat} (h : p ≤ s.size) : (s.extract 0 p).size = p := by
  rw [← len_data, extract_front, List.length_take, len_data]; omega

set_option maxRecDepth 100000 in
set_option maxHeartbeats 2000000 in
theorem runesParts_walk (w : World) (s : ByteArray) (hs : s.size ≤ maxLen) (t : ByteArray) (ht : t.size ≤ maxLen) (most : Int) (hm : (Lit.int .i64 most).wf = true) :
    Calls Try.prog 5 #[.string s, .string t, .int .i64 most] w fun e w' => e = .returned (.bool true) ∧ Below w.heap.size w w' := by
  have hm2 : most ≤ 9223372036854775807 := (wf_i64 hm).2
  have HA := Lib.hid alive06
  by_cases hbig : (s.size : Int) > 200
  · unfold maxLen at hs ht
    clear hm
    go_enter Try.func5, Try.ntmps5
    go_wp2_with fail
    refine (HA.out _).mono ?_
    rintro e w1 ⟨rfl, hb1⟩
    go_wp2_with fail
    go_ret
    exact ⟨rfl, hb1⟩
  by_cases hbig2 : (t.size : Int) > 200
  · unfold maxLen at hs ht
    clear hm
    go_enter Try.func5, Try.ntmps5
    go_wp2_with fail
    refine (HA.out _).mono ?_
    rintro e w1 ⟨rfl, hb1⟩
    go_wp2_with fail
    go_ret
    exact ⟨rfl, hb1⟩
  have hs2 : s.size ≤ 200 := by omega
  have ht2 : t.size ≤ 200 := by omega
  have hek := Runes.ek_le s.data.toList (max most 0)
  have hC := fun w0 => clip_any s most w0 hs hm2
  generalize ek s.data.toList (max most 0) = k at *
  have hpl := Runes.pos_le s.data.toList k
  rw [len_data] at hpl
  have hcs := extract_front_size s hpl
  have hcd := extract_front s (pos s.data.toList k)
  -- the clipped text
  have hR1 : ∀ w0, Calls Try.prog 8 #[.string (s.extract 0 (pos s.data.toList k))] w0 fun e w' => e = .returned (.bool true) ∧ Below w0.heap.size w0 w' := fun w0 => by
    have := right_any (s.extract 0 (pos s.data.toList k)) w0 (by rw [hcs]; unfold maxLen; omega)
    rw [hcd, (Runes.cnt_take hek).2] at this; exact this
  have hR2 := fun w0 => right_any s w0 hs
  have hN := fun w0 => count_any s w0 hs
  have hF := fun w0 => fault_any s w0 hs
  obtain ⟨c, hc⟩ : ∃ c, c = s.extract 0 (pos s.data.toList k) := ⟨_, rfl⟩
  rw [← hc] at hC hR1 hcs
  have hcle : c.size ≤ s.size := by omega
  have hcmp : ((s.extract 0 c.size).toList == c.toList) = true := by rw [hcs, ← hc]; simp
  cases hr : right s.data.toList with
  | false =>
    obtain ⟨hf, hcf⟩ := Runes.fault_take hr
    have hfl := Runes.pos_le s.data.toList (cnt s.data.toList)
    rw [len_data] at hfl
    have hN2 : ∀ w0, Calls Try.prog 10 #[.string (s.extract 0 (pos s.data.toList (cnt s.data.toList)))] w0 fun e w' => e = .returned (.int .i64 (cnt s.data.toList : Nat)) ∧ Below w0.heap.size w0 w' := fun w0 => by
      have := count_any (s.extract 0 (pos s.data.toList (cnt s.data.toList))) w0 (by rw [extract_front_size s hfl]; unfold maxLen; omega)
      rw [extract_front, hcf] at this; exact this
    rw [hr] at hR2
    rw [hf] at hF
    generalize pos s.data.toList (cnt s.data.toList) = f at *
    generalize cnt s.data.toList = n at *
    have HC := Lib.hid hC; have HR1 := Lib.hid hR1; have HR2 := Lib.hid hR2; have HN := Lib.hid hN; have HF := Lib.hid hF; have HN2 := Lib.hid hN2
    clear hC hR1 hR2 hN hF hN2 hcs hcd hm hr hf hcf hek hpl hc
    go_enter Try.func5, Try.ntmps5
    go_wp2_with fail
    refine (HA.out _).mono ?_
    rintro e w1 ⟨rfl, hb1⟩
    go_wp2_with fail
    refine (HC.out _).mono ?_
    rintro e w2 ⟨rfl, hb2⟩
    go_wp2_with fail
    refine (HR1.out _).mono ?_
    rintro e w3 ⟨rfl, hb3⟩
    go_wp2_with fail
    refine (HR2.out _).mono ?_
    rintro e w4 ⟨rfl, hb4⟩
    go_wp2_with fail
    refine (HN.out _).mono ?_
    rintro e w5 ⟨rfl, hb5⟩
    go_wp2_with fail
    refine (HF.out _).mono ?_
    rintro e w6 ⟨rfl, hb6⟩
    go_wp2_with fail
    refine (HN2.out _).mono ?_
    rintro e w7 ⟨rfl, hb7⟩
    go_wp2_with fail
    go_ret
    have h2 := hb1.trans (hb2.mono hb1.size)
    have h3 := h2.trans (hb3.mono h2.size)
    have h4 := h3.trans (hb4.mono h3.size)
    have h5 := h4.trans (hb5.mono h4.size)
    have h6 := h5.trans (hb6.mono h5.size)
    exact ⟨by simp, h6.trans (hb7.mono h6.size)⟩
  | true =>
    obtain ⟨hca, hra⟩ := Runes.append_facts (t := t.data.toList) hr
    have hsz : (s ++ t).size ≤ maxLen := by rw [← len_data, append_data, List.length_append, len_data, len_data]; unfold maxLen; omega
    have hR3 : ∀ w0, Calls Try.prog 8 #[.string (s.extract c.size s.size)] w0 fun e w' => e = .returned (.bool true) ∧ Below w0.heap.size w0 w' := fun w0 => by
      have := right_any (s.extract c.size s.size) w0 (by rw [← len_data, Lib.extract_to_end, List.length_drop, len_data]; unfold maxLen; omega)
      rw [Lib.extract_to_end, show right (s.data.toList.drop c.size) = true by rw [hcs]; exact Runes.right_drop hek hr] at this; exact this
    have hR4 : ∀ w0, Calls Try.prog 8 #[.string (s ++ t)] w0 fun e w' => e = .returned (.bool (right t.data.toList)) ∧ Below w0.heap.size w0 w' := fun w0 => by
      have := right_any (s ++ t) w0 hsz
      rw [append_data, hra] at this; exact this
    have hR5 := fun w0 => right_any t w0 ht
    have hN4 : ∀ w0, Calls Try.prog 10 #[.string (s ++ t)] w0 fun e w' => e = .returned (.int .i64 (cnt s.data.toList + cnt t.data.toList : Nat)) ∧ Below w0.heap.size w0 w' := fun w0 => by
      have := count_any (s ++ t) w0 hsz
      rw [append_data, hca] at this; exact this
    have hN5 := fun w0 => count_any t w0 ht
    have hkn : cnt s.data.toList ≤ 200 := by
      have h1 := Runes.pos_ge (most := s.data.toList.length) _ (Runes.cnt_end s.data.toList).1
      have h2 := Runes.pos_le s.data.toList (cnt s.data.toList)
      rw [len_data] at h2; omega
    have hkm : cnt t.data.toList ≤ 200 := by
      have h1 := Runes.pos_ge (most := t.data.toList.length) _ (Runes.cnt_end t.data.toList).1
      have h2 := Runes.pos_le t.data.toList (cnt t.data.toList)
      rw [len_data] at h2; omega
    rw [hr] at hR2
    generalize cnt s.data.toList = n at *
    generalize cnt t.data.toList = m at *
    have HC := Lib.hid hC; have HR1 := Lib.hid hR1; have HR2 := Lib.hid hR2; have HN := Lib.hid hN; have HR3 := Lib.hid hR3; have HR4 := Lib.hid hR4; have HR5 := Lib.hid hR5; have HN4 := Lib.hid hN4; have HN5 := Lib.hid hN5
    clear hC hR1 hR2 hN hF hcs hcd hm hr hek hpl hc hca hra hR3 hR4 hR5 hN4 hN5 hsz
    cases hrt : right t.data.toList with
    | false =>
      rw [hrt] at HR4 HR5
      clear hrt
      go_enter Try.func5, Try.ntmps5
      go_wp2_with fail
      refine (HA.out _).mono ?_
      rintro e w1 ⟨rfl, hb1⟩
      go_wp2_with fail
      refine (HC.out _).mono ?_
      rintro e w2 ⟨rfl, hb2⟩
      go_wp2_with fail
      refine (HR1.out _).mono ?_
      rintro e w3 ⟨rfl, hb3⟩
      go_wp2_with fail
      refine (HR2.out _).mono ?_
      rintro e w4 ⟨rfl, hb4⟩
      go_wp2_with fail
      refine (HR3.out _).mono ?_
      rintro e w5 ⟨rfl, hb5⟩
      go_wp2_with fail
      refine (HR4.out _).mono ?_
      rintro e w6 ⟨rfl, hb6⟩
      go_wp2_with fail
      refine (HR5.out _).mono ?_
      rintro e w7 ⟨rfl, hb7⟩
      go_wp2_with fail
      refine (HR5.out _).mono ?_
      rintro e w8 ⟨rfl, hb8⟩
      go_wp2_with fail
      go_ret
      have h2 := hb1.trans (hb2.mono hb1.size)
      have h3 := h2.trans (hb3.mono h2.size)
      have h4 := h3.trans (hb4.mono h3.size)
      have h5 := h4.trans (hb5.mono h4.size)
      have h6 := h5.trans (hb6.mono h5.size)
      have h7 := h6.trans (hb7.mono h6.size)
      exact ⟨by simp, h7.trans (hb8.mono h7.size)⟩
    | true =>
      rw [hrt] at HR4 HR5
      clear hrt
      go_enter Try.func5, Try.ntmps5
      go_wp2_with fail
      refine (HA.out _).mono ?_
      rintro e w1 ⟨rfl, hb1⟩
      go_wp2_with fail
      refine (HC.out _).mono ?_
      rintro e w2 ⟨rfl, hb2⟩
      go_wp2_with fail
      refine (HR1.out _).mono ?_
      rintro e w3 ⟨rfl, hb3⟩
      go_wp2_with fail
      refine (HR2.out _).mono ?_
      rintro e w4 ⟨rfl, hb4⟩
      go_wp2_with fail
      refine (HR3.out _).mono ?_
      rintro e w5 ⟨rfl, hb5⟩
      go_wp2_with fail
      refine (HR4.out _).mono ?_
      rintro e w6 ⟨rfl, hb6⟩
      go_wp2_with fail
      refine (HR5.out _).mono ?_
      rintro e w7 ⟨rfl, hb7⟩
      go_wp2_with fail
      refine (HR5.out _).mono ?_
      rintro e w8 ⟨rfl, hb8⟩
      go_wp2_with fail
      refine (HN4.out _).mono ?_
      rintro e w9 ⟨rfl, hb9⟩
      go_wp2_with fail
      refine (HN.out _).mono ?_
      rintro e w10 ⟨rfl, hb10⟩
      go_wp2_with fail
      refine (HN5.out _).mono ?_
      rintro e w11 ⟨rfl, hb11⟩
      go_wp2_with fail
      go_ret
      have h2 := hb1.trans (hb2.mono hb1.size)
      have h3 := h2.trans (hb3.mono h2.size)
      have h4 := h3.trans (hb4.mono h3.size)
      have h5 := h4.trans (hb5.mono h4.size)
      have h6 := h5.trans (hb6.mono h5.size)
      have h7 := h6.trans (hb7.mono h6.size)
      have h8 := h7.trans (hb8.mono h7.size)
      have h9 := h8.trans (hb9.mono h8.size)
      have h10 := h9.trans (hb10.mono h9.size)
      exact ⟨by simp, h10.trans (hb11.mono h10.size)⟩

end Go.Proofs.Ytdmmelbknmabeaa
