/- Slices compared, walked: slices.Equal, redlinenum.SameTexts. -/
import Derived.Test.YtiofhfcohhfihaaGreatDoorSxNeq
namespace Go.Proofs.YtiofhfcohhfihaaGreatDoor
open Go.RowKit
set_option linter.unusedVariables false
set_option linter.unusedSimpArgs false

theorem fSxEqA9_26 {P : Program} {md : Region.Mode} {ops : Array Oper} {Q : Exit → Act → World → Prop} {P0 P1 : World → Prop} {fin fuel : Nat} {b0 b1 b2 b3 b4 b5 b6 b7 b8 : Bool} {x0 x1 x2 x3 x4 x5 x6 x7 x8 x9 x10 x11 x12 x13 x14 x15 x16 x17 x18 x19 x20 x21 x22 x23 x24 x25 : Value} {d} {w : World} (h : wpAnyG P md ops Q P0 P1 fin fuel #[b0, b1, b2, b3, b4, b5, b6, b7, b8] ⟨#[x0, x1, x2, x3, x4, x5, x6, x7, x8, x9, x10, x11, x12, x13, x14, x15, x16, x17, x18, x19, x20, x21, x22, x23, x24, x25], d⟩ w) : wpAnyG P md ops Q P0 P1 fin fuel #[b0, b1, b2, b3, b4, b5, b6, b7, b8] ⟨#[x0, x1, x2, x3, x4, x5, x6, x7, x8, x9, x10, x11, x12, x13, x14, x15, x16, x17, x18, x19, x20, x21, x22, x23, x24, x25], d⟩ w := h

theorem sizeSStr (w : World) : (Go.sizeOf (Tryz.prog.elem 44)).run Tryz.prog w = .ok 1 w := by kernel_rfl
theorem take_eq_all {α : Type} {xs ys : List α} {n : Nat} (h : xs.take n = ys.take n) (hx : xs.length = n) (hy : ys.length = n) : xs = ys := by
  rw [List.take_of_length_le (by omega), List.take_of_length_le (by omega)] at h; exact h
theorem take_ne {α : Type} {xs ys : List α} {k : Nat} (h1 : k < xs.length) (h2 : k < ys.length) (h : xs[k] ≠ ys[k]) : xs ≠ ys := fun e => by subst e; exact h rfl

set_option maxHeartbeats 4000000 in
set_option maxRecDepth 100000 in
theorem eqS_any (v1 v2 : Value) (xs ys : List Lx.Bs) (w : World) (h1 : FlatB sC (frag w) v1 xs) (h2 : FlatB sC (frag w) v2 ys) :
    Calls Tryz.prog 83 #[v1, v2] w fun e w' => e = .returned (.bool (decide (xs = ys))) ∧ Below w.heap.size w w' := by
  obtain ⟨a1, c1, rfl, _, _, _⟩ := h1.1.len
  obtain ⟨a2, c2, rfl, _, _, _⟩ := h2.1.len
  have HF1 := Lib.hid h1.1; have HF2 := Lib.hid h2.1
  have hn9 : xs.length ≤ 9223372036854775807 := by have := h1.2; omega
  clear h1 h2
  by_cases hl : xs.length = ys.length
  · obtain ⟨n, hn⟩ : ∃ z, z = xs.length := ⟨_, rfl⟩
    have Hn2 : Hid (ys.length = n) := Lib.hid (by rw [hn, hl])
    rw [← hl]
    rw [← hl] at HF2
    rw [← hn] at HF1 HF2 hn9 ⊢
    have Hn1 : Hid (xs.length = n) := Lib.hid hn.symm
    have hz : (((n : Nat) : Int) != ((n : Nat) : Int)) = false := by simp
    obtain ⟨D, hD⟩ : ∃ D, D = decide (xs = ys) := ⟨_, rfl⟩
    rw [← hD]
    have HD := Lib.hid hD
    clear hl hn hD
    go_enter Tryz.func83, Tryz.ntmps83
    go_wp2_with fail
    clear hz
    go_loopw [13] (fun iv wr => ∃ k : Nat, k ≤ n ∧ iv = .int .i64 k ∧ Hid (xs.take k = ys.take k) ∧ Hid (Below w.heap.size w wr)) (fun iv _ => n - (intOf iv).toNat)
    case atStart => exact ⟨0, Nat.zero_le _, rfl, Lib.hid rfl, Lib.hid (Below.refl _ _)⟩
    case round =>
      obtain ⟨k, hkn, rfl, HT, HW⟩ := hrel
      by_cases hlt : k < n
      · have hk1 : k < xs.length := by rw [Hn1.out]; exact hlt
        have hk2 : k < ys.length := by rw [Hn2.out]; exact hlt
        obtain ⟨b0, o0, hb0, hidx0, hcell0⟩ := FlatV.at (n := n) (cap := c1) (a := a1) (HF1.out.mono (below_le HW.out)) sC_len (by decide) (i := k) hk1 Tryz.underlying44 sizeSStr
        obtain ⟨b1, o1, hb1, hidx1, hcell1⟩ := FlatV.at (n := n) (cap := c2) (a := a2) (HF2.out.mono (below_le HW.out)) sC_len (by decide) (i := k) hk2 Tryz.underlying44 sizeSStr
        have hT1 := List.take_succ_eq_append_getElem hk1
        have hT2 := List.take_succ_eq_append_getElem hk2
        have HNx : Hid (xs[k] = ys[k] → xs.take (k + 1) = ys.take (k + 1)) := Lib.hid (fun e => by rw [hT1, hT2, HT.out, e])
        have HNo : Hid (xs[k] ≠ ys[k] → D = false) := Lib.hid (fun e => by rw [HD.out]; exact decide_eq_false (take_ne hk1 hk2 e))
        have hr0 : wr.rangeAt b0 o0 (sC xs[k]) := hcell0
        have hr1 : wr.rangeAt b1 o1 (sC ys[k]) := hcell1
        clear hcell0 hcell1 hT1 hT2
        generalize xs[k] = x at *
        generalize ys[k] = y at *
        have hP : wr.drew.rangeAt b0 o0 (sC x) ∧ wr.drew.rangeAt b1 o1 (sC y) := ⟨hr0, hr1⟩
        clear hr0 hr1 hk1 hk2
        go_wp2_with fail
        refine wp_region_G 99 (fun w' => w'.rangeAt b0 o0 (sC x) ∧ w'.rangeAt b1 o1 (sC y)) (fun _ => True) (by kernel_rfl) hP trivial (fun _ => ?_)
        refine wpAnyG_take0 (i := 0) (v := .slice a1 n c1) rfl (by kernel_rfl) (fun _ _ _ h => h) (.inl ⟨by rfl, fun w hw => by go_simp⟩) (InvG.mk hP trivial) ?_
        refine fSxEqA9_26 ?_
        refine wpAnyG_take0 (i := 1) (v := .int .i64 k) rfl (by kernel_rfl) (fun _ _ _ h => h) (.inl ⟨by rfl, fun w hw => by go_simp⟩) (InvG.mk hP trivial) ?_
        refine fSxEqA9_26 ?_
        refine wpAnyG_take0 (i := 2) (v := .pointer (some ⟨b0, o0, none⟩)) rfl (by kernel_rfl) (fun _ _ _ h => h) (.inl ⟨by rfl, fun w hw => by have hi := hidx0; clear hw; go_simp⟩) (InvG.mk hP trivial) ?_
        refine fSxEqA9_26 ?_
        refine wpAnyG_take0 (i := 3) (v := .string (toB x)) rfl (by kernel_rfl) (fun _ _ _ h => h) (.inl ⟨by rfl, fun w hw => by have hc := hw.1 0 (.string (toB x)) rfl; rw [Nat.add_zero] at hc; clear hw; go_simp⟩) (InvG.mk hP trivial) ?_
        refine fSxEqA9_26 ?_
        refine wpAnyG_take0 (i := 4) (v := .slice a2 n c2) rfl (by kernel_rfl) (fun _ _ _ h => h) (.inl ⟨by rfl, fun w hw => by go_simp⟩) (InvG.mk hP trivial) ?_
        refine fSxEqA9_26 ?_
        refine wpAnyG_take0 (i := 5) (v := .int .i64 k) rfl (by kernel_rfl) (fun _ _ _ h => h) (.inl ⟨by rfl, fun w hw => by go_simp⟩) (InvG.mk hP trivial) ?_
        refine fSxEqA9_26 ?_
        refine wpAnyG_take0 (i := 6) (v := .pointer (some ⟨b1, o1, none⟩)) rfl (by kernel_rfl) (fun _ _ _ h => h) (.inl ⟨by rfl, fun w hw => by have hi := hidx1; clear hw; go_simp⟩) (InvG.mk hP trivial) ?_
        refine fSxEqA9_26 ?_
        refine wpAnyG_take0 (i := 7) (v := .string (toB y)) rfl (by kernel_rfl) (fun _ _ _ h => h) (.inl ⟨by rfl, fun w hw => by have hc := hw.2 0 (.string (toB y)) rfl; rw [Nat.add_zero] at hc; clear hw; go_simp⟩) (InvG.mk hP trivial) ?_
        refine fSxEqA9_26 ?_
        refine wpAnyG_take0 (i := 8) (v := .bool (!decide (x = y))) rfl (by kernel_rfl) (fun _ _ _ h => h) (.inl ⟨by rfl, fun w hw => by have hq := toB_beq x y; clear hw; go_simp⟩) (InvG.mk hP trivial) ?_
        refine fSxEqA9_26 ?_
        refine wpAnyG_done (by kernel_rfl) ?_ _
        have HW2 : Hid (Below w.heap.size w wr.drew) := Lib.hid HW.out.drew
        clear hP hidx0 hidx1
        by_cases hxy : x = y
        · have HTn := Lib.hid (HNx.out hxy)
          rw [decide_eq_true hxy]
          clear hxy HNx HNo
          go_wp2_with fail
          go_roundw
          case rel => exact ⟨k + 1, by omega, by go_num, HTn, HW2⟩
          case measure => simp [intOf]; omega
        · have HDf := Lib.hid (HNo.out hxy)
          rw [decide_eq_false hxy]
          clear hxy HNx HNo
          go_wp2_with fail
          go_ret
          rw [HDf.out]
          exact ⟨rfl, HW2.out⟩
      · obtain rfl : n = k := by omega
        have HDt : Hid (D = true) := Lib.hid (by rw [HD.out]; exact decide_eq_true (take_eq_all HT.out Hn1.out Hn2.out))
        go_wp2_with fail
        go_ret
        rw [HDt.out]
        exact ⟨rfl, HW.out⟩
  · have hz : (((xs.length : Nat) : Int) != ((ys.length : Nat) : Int)) = true := by simp; omega
    have hz2 : ¬ ((xs.length : Nat) : Int) = ((ys.length : Nat) : Int) := by omega
    have hz3 : (((xs.length : Nat) : Int) == ((ys.length : Nat) : Int)) = false := beq_eq_false_iff_ne.2 hz2
    rw [decide_eq_false (fun e => hl (congrArg List.length e))]
    clear hl
    go_enter Tryz.func83, Tryz.ntmps83
    go_wp2_with fail
    go_ret
    exact ⟨rfl, Below.refl _ _⟩

set_option maxHeartbeats 4000000 in
set_option maxRecDepth 100000 in
theorem sameTexts_any (v1 v2 : Value) (xs ys : List Lx.Bs) (w : World) (h1 : FlatB sC (frag w) v1 xs) (h2 : FlatB sC (frag w) v2 ys) :
    Calls Tryz.prog 29 #[v1, v2] w fun e w' => e = .returned (.bool (decide (xs = ys))) ∧ Below w.heap.size w w' := by
  obtain ⟨a1, c1, rfl, _, _, _⟩ := h1.1.len
  obtain ⟨a2, c2, rfl, _, _, _⟩ := h2.1.len
  have HF1 := Lib.hid h1.1; have HF2 := Lib.hid h2.1
  have hn9 : xs.length ≤ 9223372036854775807 := by have := h1.2; omega
  clear h1 h2
  by_cases hl : xs.length = ys.length
  · obtain ⟨n, hn⟩ : ∃ z, z = xs.length := ⟨_, rfl⟩
    have Hn2 : Hid (ys.length = n) := Lib.hid (by rw [hn, hl])
    rw [← hl]
    rw [← hl] at HF2
    rw [← hn] at HF1 HF2 hn9 ⊢
    have Hn1 : Hid (xs.length = n) := Lib.hid hn.symm
    have hz : (((n : Nat) : Int) != ((n : Nat) : Int)) = false := by simp
    obtain ⟨D, hD⟩ : ∃ D, D = decide (xs = ys) := ⟨_, rfl⟩
    rw [← hD]
    have HD := Lib.hid hD
    clear hl hn hD
    go_enter Tryz.func29, Tryz.ntmps29
    go_wp2_with fail
    clear hz
    go_loopw [13] (fun iv wr => ∃ k : Nat, k ≤ n ∧ iv = .int .i64 k ∧ Hid (xs.take k = ys.take k) ∧ Hid (Below w.heap.size w wr)) (fun iv _ => n - (intOf iv).toNat)
    case atStart => exact ⟨0, Nat.zero_le _, rfl, Lib.hid rfl, Lib.hid (Below.refl _ _)⟩
    case round =>
      obtain ⟨k, hkn, rfl, HT, HW⟩ := hrel
      by_cases hlt : k < n
      · have hk1 : k < xs.length := by rw [Hn1.out]; exact hlt
        have hk2 : k < ys.length := by rw [Hn2.out]; exact hlt
        obtain ⟨b0, o0, hb0, hidx0, hcell0⟩ := FlatV.at (n := n) (cap := c1) (a := a1) (HF1.out.mono (below_le HW.out)) sC_len (by decide) (i := k) hk1 Tryz.underlying44 sizeSStr
        obtain ⟨b1, o1, hb1, hidx1, hcell1⟩ := FlatV.at (n := n) (cap := c2) (a := a2) (HF2.out.mono (below_le HW.out)) sC_len (by decide) (i := k) hk2 Tryz.underlying44 sizeSStr
        have hT1 := List.take_succ_eq_append_getElem hk1
        have hT2 := List.take_succ_eq_append_getElem hk2
        have HNx : Hid (xs[k] = ys[k] → xs.take (k + 1) = ys.take (k + 1)) := Lib.hid (fun e => by rw [hT1, hT2, HT.out, e])
        have HNo : Hid (xs[k] ≠ ys[k] → D = false) := Lib.hid (fun e => by rw [HD.out]; exact decide_eq_false (take_ne hk1 hk2 e))
        have hr0 : wr.rangeAt b0 o0 (sC xs[k]) := hcell0
        have hr1 : wr.rangeAt b1 o1 (sC ys[k]) := hcell1
        clear hcell0 hcell1 hT1 hT2
        generalize xs[k] = x at *
        generalize ys[k] = y at *
        have hP : wr.drew.rangeAt b0 o0 (sC x) ∧ wr.drew.rangeAt b1 o1 (sC y) := ⟨hr0, hr1⟩
        clear hr0 hr1 hk1 hk2
        go_wp2_with fail
        refine wp_region_G 99 (fun w' => w'.rangeAt b0 o0 (sC x) ∧ w'.rangeAt b1 o1 (sC y)) (fun _ => True) (by kernel_rfl) hP trivial (fun _ => ?_)
        refine wpAnyG_take0 (i := 0) (v := .slice a1 n c1) rfl (by kernel_rfl) (fun _ _ _ h => h) (.inl ⟨by rfl, fun w hw => by go_simp⟩) (InvG.mk hP trivial) ?_
        refine fSxEqA9_26 ?_
        refine wpAnyG_take0 (i := 1) (v := .int .i64 k) rfl (by kernel_rfl) (fun _ _ _ h => h) (.inl ⟨by rfl, fun w hw => by go_simp⟩) (InvG.mk hP trivial) ?_
        refine fSxEqA9_26 ?_
        refine wpAnyG_take0 (i := 2) (v := .pointer (some ⟨b0, o0, none⟩)) rfl (by kernel_rfl) (fun _ _ _ h => h) (.inl ⟨by rfl, fun w hw => by have hi := hidx0; clear hw; go_simp⟩) (InvG.mk hP trivial) ?_
        refine fSxEqA9_26 ?_
        refine wpAnyG_take0 (i := 3) (v := .string (toB x)) rfl (by kernel_rfl) (fun _ _ _ h => h) (.inl ⟨by rfl, fun w hw => by have hc := hw.1 0 (.string (toB x)) rfl; rw [Nat.add_zero] at hc; clear hw; go_simp⟩) (InvG.mk hP trivial) ?_
        refine fSxEqA9_26 ?_
        refine wpAnyG_take0 (i := 4) (v := .slice a2 n c2) rfl (by kernel_rfl) (fun _ _ _ h => h) (.inl ⟨by rfl, fun w hw => by go_simp⟩) (InvG.mk hP trivial) ?_
        refine fSxEqA9_26 ?_
        refine wpAnyG_take0 (i := 5) (v := .int .i64 k) rfl (by kernel_rfl) (fun _ _ _ h => h) (.inl ⟨by rfl, fun w hw => by go_simp⟩) (InvG.mk hP trivial) ?_
        refine fSxEqA9_26 ?_
        refine wpAnyG_take0 (i := 6) (v := .pointer (some ⟨b1, o1, none⟩)) rfl (by kernel_rfl) (fun _ _ _ h => h) (.inl ⟨by rfl, fun w hw => by have hi := hidx1; clear hw; go_simp⟩) (InvG.mk hP trivial) ?_
        refine fSxEqA9_26 ?_
        refine wpAnyG_take0 (i := 7) (v := .string (toB y)) rfl (by kernel_rfl) (fun _ _ _ h => h) (.inl ⟨by rfl, fun w hw => by have hc := hw.2 0 (.string (toB y)) rfl; rw [Nat.add_zero] at hc; clear hw; go_simp⟩) (InvG.mk hP trivial) ?_
        refine fSxEqA9_26 ?_
        refine wpAnyG_take0 (i := 8) (v := .bool (!decide (x = y))) rfl (by kernel_rfl) (fun _ _ _ h => h) (.inl ⟨by rfl, fun w hw => by have hq := toB_beq x y; clear hw; go_simp⟩) (InvG.mk hP trivial) ?_
        refine fSxEqA9_26 ?_
        refine wpAnyG_done (by kernel_rfl) ?_ _
        have HW2 : Hid (Below w.heap.size w wr.drew) := Lib.hid HW.out.drew
        clear hP hidx0 hidx1
        by_cases hxy : x = y
        · have HTn := Lib.hid (HNx.out hxy)
          rw [decide_eq_true hxy]
          clear hxy HNx HNo
          go_wp2_with fail
          go_roundw
          case rel => exact ⟨k + 1, by omega, by go_num, HTn, HW2⟩
          case measure => simp [intOf]; omega
        · have HDf := Lib.hid (HNo.out hxy)
          rw [decide_eq_false hxy]
          clear hxy HNx HNo
          go_wp2_with fail
          go_ret
          rw [HDf.out]
          exact ⟨rfl, HW2.out⟩
      · obtain rfl : n = k := by omega
        have HDt : Hid (D = true) := Lib.hid (by rw [HD.out]; exact decide_eq_true (take_eq_all HT.out Hn1.out Hn2.out))
        go_wp2_with fail
        go_ret
        rw [HDt.out]
        exact ⟨rfl, HW.out⟩
  · have hz : (((xs.length : Nat) : Int) != ((ys.length : Nat) : Int)) = true := by simp; omega
    have hz2 : ¬ ((xs.length : Nat) : Int) = ((ys.length : Nat) : Int) := by omega
    have hz3 : (((xs.length : Nat) : Int) == ((ys.length : Nat) : Int)) = false := beq_eq_false_iff_ne.2 hz2
    rw [decide_eq_false (fun e => hl (congrArg List.length e))]
    clear hl
    go_enter Tryz.func29, Tryz.ntmps29
    go_wp2_with fail
    go_ret
    exact ⟨rfl, Below.refl _ _⟩

set_option maxHeartbeats 4000000 in
set_option maxRecDepth 100000 in
theorem eqF_any (v1 v2 : Value) (xs ys : List Sx.Fld) (w : World) (h1 : FlatB fC (frag w) v1 xs) (h2 : FlatB fC (frag w) v2 ys) :
    Calls Tryz.prog 82 #[v1, v2] w fun e w' => e = .returned (.bool (decide (xs = ys))) ∧ Below w.heap.size w w' := by
  obtain ⟨a1, c1, rfl, _, _, _⟩ := h1.1.len
  obtain ⟨a2, c2, rfl, _, _, _⟩ := h2.1.len
  have HF1 := Lib.hid h1.1; have HF2 := Lib.hid h2.1
  have hn9 : xs.length ≤ 9223372036854775807 := by have := h1.2; omega
  clear h1 h2
  by_cases hl : xs.length = ys.length
  · obtain ⟨n, hn⟩ : ∃ z, z = xs.length := ⟨_, rfl⟩
    have Hn2 : Hid (ys.length = n) := Lib.hid (by rw [hn, hl])
    rw [← hl]
    rw [← hl] at HF2
    rw [← hn] at HF1 HF2 hn9 ⊢
    have Hn1 : Hid (xs.length = n) := Lib.hid hn.symm
    have hz : (((n : Nat) : Int) != ((n : Nat) : Int)) = false := by simp
    obtain ⟨D, hD⟩ : ∃ D, D = decide (xs = ys) := ⟨_, rfl⟩
    rw [← hD]
    have HD := Lib.hid hD
    clear hl hn hD
    go_enter Tryz.func82, Tryz.ntmps82
    go_wp2_with fail
    clear hz
    go_loopw [13] (fun iv wr => ∃ k : Nat, k ≤ n ∧ iv = .int .i64 k ∧ Hid (xs.take k = ys.take k) ∧ Hid (Below w.heap.size w wr)) (fun iv _ => n - (intOf iv).toNat)
    case atStart => exact ⟨0, Nat.zero_le _, rfl, Lib.hid rfl, Lib.hid (Below.refl _ _)⟩
    case round =>
      obtain ⟨k, hkn, rfl, HT, HW⟩ := hrel
      by_cases hlt : k < n
      · have hk1 : k < xs.length := by rw [Hn1.out]; exact hlt
        have hk2 : k < ys.length := by rw [Hn2.out]; exact hlt
        obtain ⟨b0, o0, hb0, hidx0, hcell0⟩ := FlatV.at (n := n) (cap := c1) (a := a1) (HF1.out.mono (below_le HW.out)) fC_len (by decide) (i := k) hk1 Tryz.underlying43 sizeSF
        obtain ⟨b1, o1, hb1, hidx1, hcell1⟩ := FlatV.at (n := n) (cap := c2) (a := a2) (HF2.out.mono (below_le HW.out)) fC_len (by decide) (i := k) hk2 Tryz.underlying43 sizeSF
        have hT1 := List.take_succ_eq_append_getElem hk1
        have hT2 := List.take_succ_eq_append_getElem hk2
        have HNx : Hid (xs[k] = ys[k] → xs.take (k + 1) = ys.take (k + 1)) := Lib.hid (fun e => by rw [hT1, hT2, HT.out, e])
        have HNo : Hid (xs[k] ≠ ys[k] → D = false) := Lib.hid (fun e => by rw [HD.out]; exact decide_eq_false (take_ne hk1 hk2 e))
        have hr0 : wr.rangeAt b0 o0 (fC xs[k]) := hcell0
        have hr1 : wr.rangeAt b1 o1 (fC ys[k]) := hcell1
        clear hcell0 hcell1 hT1 hT2
        generalize xs[k] = x at *
        generalize ys[k] = y at *
        have hP : wr.drew.rangeAt b0 o0 (fC x) ∧ wr.drew.rangeAt b1 o1 (fC y) := ⟨hr0, hr1⟩
        clear hr0 hr1 hk1 hk2
        go_wp2_with fail
        refine wp_region_G 99 (fun w' => w'.rangeAt b0 o0 (fC x) ∧ w'.rangeAt b1 o1 (fC y)) (fun _ => True) (by kernel_rfl) hP trivial (fun _ => ?_)
        refine wpAnyG_take0 (i := 0) (v := .slice a1 n c1) rfl (by kernel_rfl) (fun _ _ _ h => h) (.inl ⟨by rfl, fun w hw => by go_simp⟩) (InvG.mk hP trivial) ?_
        refine fSxEqA9_26 ?_
        refine wpAnyG_take0 (i := 1) (v := .int .i64 k) rfl (by kernel_rfl) (fun _ _ _ h => h) (.inl ⟨by rfl, fun w hw => by go_simp⟩) (InvG.mk hP trivial) ?_
        refine fSxEqA9_26 ?_
        refine wpAnyG_take0 (i := 2) (v := .pointer (some ⟨b0, o0, none⟩)) rfl (by kernel_rfl) (fun _ _ _ h => h) (.inl ⟨by rfl, fun w hw => by have hi := hidx0; clear hw; go_simp⟩) (InvG.mk hP trivial) ?_
        refine fSxEqA9_26 ?_
        refine wpAnyG_take0 (i := 3) (v := .agg (fC x).toArray) rfl (by kernel_rfl) (fun _ _ _ h => h) (yieldsIf_load_mid (by rfl) 79 _ rfl b0 o0 (by go_simp) (fC x) _ (fun w h => h.1) Tryz.underlying79 rfl infoF) (InvG.mk hP trivial) ?_
        refine fSxEqA9_26 ?_
        refine wpAnyG_take0 (i := 4) (v := .slice a2 n c2) rfl (by kernel_rfl) (fun _ _ _ h => h) (.inl ⟨by rfl, fun w hw => by go_simp⟩) (InvG.mk hP trivial) ?_
        refine fSxEqA9_26 ?_
        refine wpAnyG_take0 (i := 5) (v := .int .i64 k) rfl (by kernel_rfl) (fun _ _ _ h => h) (.inl ⟨by rfl, fun w hw => by go_simp⟩) (InvG.mk hP trivial) ?_
        refine fSxEqA9_26 ?_
        refine wpAnyG_take0 (i := 6) (v := .pointer (some ⟨b1, o1, none⟩)) rfl (by kernel_rfl) (fun _ _ _ h => h) (.inl ⟨by rfl, fun w hw => by have hi := hidx1; clear hw; go_simp⟩) (InvG.mk hP trivial) ?_
        refine fSxEqA9_26 ?_
        refine wpAnyG_take0 (i := 7) (v := .agg (fC y).toArray) rfl (by kernel_rfl) (fun _ _ _ h => h) (yieldsIf_load_mid (by rfl) 79 _ rfl b1 o1 (by go_simp) (fC y) _ (fun w h => h.2) Tryz.underlying79 rfl infoF) (InvG.mk hP trivial) ?_
        refine fSxEqA9_26 ?_
        refine wpAnyG_take0 (i := 8) (v := .bool (!decide (x = y))) rfl (by kernel_rfl) (fun _ _ _ h => h) (.inl ⟨by rfl, fun w hw => by have hq := neqSF x y; have hG : Tryz.prog.eqGuardType Tryz.prog.depth 79 = false := (by kernel_rfl); clear hw; go_simp⟩) (InvG.mk hP trivial) ?_
        refine fSxEqA9_26 ?_
        refine wpAnyG_done (by kernel_rfl) ?_ _
        have HW2 : Hid (Below w.heap.size w wr.drew) := Lib.hid HW.out.drew
        clear hP hidx0 hidx1
        by_cases hxy : x = y
        · have HTn := Lib.hid (HNx.out hxy)
          rw [decide_eq_true hxy]
          clear hxy HNx HNo
          go_wp2_with fail
          go_roundw
          case rel => exact ⟨k + 1, by omega, by go_num, HTn, HW2⟩
          case measure => simp [intOf]; omega
        · have HDf := Lib.hid (HNo.out hxy)
          rw [decide_eq_false hxy]
          clear hxy HNx HNo
          go_wp2_with fail
          go_ret
          rw [HDf.out]
          exact ⟨rfl, HW2.out⟩
      · obtain rfl : n = k := by omega
        have HDt : Hid (D = true) := Lib.hid (by rw [HD.out]; exact decide_eq_true (take_eq_all HT.out Hn1.out Hn2.out))
        go_wp2_with fail
        go_ret
        rw [HDt.out]
        exact ⟨rfl, HW.out⟩
  · have hz : (((xs.length : Nat) : Int) != ((ys.length : Nat) : Int)) = true := by simp; omega
    have hz2 : ¬ ((xs.length : Nat) : Int) = ((ys.length : Nat) : Int) := by omega
    have hz3 : (((xs.length : Nat) : Int) == ((ys.length : Nat) : Int)) = false := beq_eq_false_iff_ne.2 hz2
    rw [decide_eq_false (fun e => hl (congrArg List.length e))]
    clear hl
    go_enter Tryz.func82, Tryz.ntmps82
    go_wp2_with fail
    go_ret
    exact ⟨rfl, Below.refl _ _⟩

set_option maxHeartbeats 4000000 in
set_option maxRecDepth 100000 in
theorem eqR_any (v1 v2 : Value) (xs ys : List Sx.Rng) (w : World) (h1 : FlatB rC (frag w) v1 xs) (h2 : FlatB rC (frag w) v2 ys) :
    Calls Tryz.prog 84 #[v1, v2] w fun e w' => e = .returned (.bool (decide (xs = ys))) ∧ Below w.heap.size w w' := by
  obtain ⟨a1, c1, rfl, _, _, _⟩ := h1.1.len
  obtain ⟨a2, c2, rfl, _, _, _⟩ := h2.1.len
  have HF1 := Lib.hid h1.1; have HF2 := Lib.hid h2.1
  have hn9 : xs.length ≤ 9223372036854775807 := by have := h1.2; omega
  clear h1 h2
  by_cases hl : xs.length = ys.length
  · obtain ⟨n, hn⟩ : ∃ z, z = xs.length := ⟨_, rfl⟩
    have Hn2 : Hid (ys.length = n) := Lib.hid (by rw [hn, hl])
    rw [← hl]
    rw [← hl] at HF2
    rw [← hn] at HF1 HF2 hn9 ⊢
    have Hn1 : Hid (xs.length = n) := Lib.hid hn.symm
    have hz : (((n : Nat) : Int) != ((n : Nat) : Int)) = false := by simp
    obtain ⟨D, hD⟩ : ∃ D, D = decide (xs = ys) := ⟨_, rfl⟩
    rw [← hD]
    have HD := Lib.hid hD
    clear hl hn hD
    go_enter Tryz.func84, Tryz.ntmps84
    go_wp2_with fail
    clear hz
    go_loopw [13] (fun iv wr => ∃ k : Nat, k ≤ n ∧ iv = .int .i64 k ∧ Hid (xs.take k = ys.take k) ∧ Hid (Below w.heap.size w wr)) (fun iv _ => n - (intOf iv).toNat)
    case atStart => exact ⟨0, Nat.zero_le _, rfl, Lib.hid rfl, Lib.hid (Below.refl _ _)⟩
    case round =>
      obtain ⟨k, hkn, rfl, HT, HW⟩ := hrel
      by_cases hlt : k < n
      · have hk1 : k < xs.length := by rw [Hn1.out]; exact hlt
        have hk2 : k < ys.length := by rw [Hn2.out]; exact hlt
        obtain ⟨b0, o0, hb0, hidx0, hcell0⟩ := FlatV.at (n := n) (cap := c1) (a := a1) (HF1.out.mono (below_le HW.out)) rC_len (by decide) (i := k) hk1 Tryz.underlying45 sizeSR
        obtain ⟨b1, o1, hb1, hidx1, hcell1⟩ := FlatV.at (n := n) (cap := c2) (a := a2) (HF2.out.mono (below_le HW.out)) rC_len (by decide) (i := k) hk2 Tryz.underlying45 sizeSR
        have hT1 := List.take_succ_eq_append_getElem hk1
        have hT2 := List.take_succ_eq_append_getElem hk2
        have HNx : Hid (xs[k] = ys[k] → xs.take (k + 1) = ys.take (k + 1)) := Lib.hid (fun e => by rw [hT1, hT2, HT.out, e])
        have HNo : Hid (xs[k] ≠ ys[k] → D = false) := Lib.hid (fun e => by rw [HD.out]; exact decide_eq_false (take_ne hk1 hk2 e))
        have hr0 : wr.rangeAt b0 o0 (rC xs[k]) := hcell0
        have hr1 : wr.rangeAt b1 o1 (rC ys[k]) := hcell1
        clear hcell0 hcell1 hT1 hT2
        generalize xs[k] = x at *
        generalize ys[k] = y at *
        have hP : wr.drew.rangeAt b0 o0 (rC x) ∧ wr.drew.rangeAt b1 o1 (rC y) := ⟨hr0, hr1⟩
        clear hr0 hr1 hk1 hk2
        go_wp2_with fail
        refine wp_region_G 99 (fun w' => w'.rangeAt b0 o0 (rC x) ∧ w'.rangeAt b1 o1 (rC y)) (fun _ => True) (by kernel_rfl) hP trivial (fun _ => ?_)
        refine wpAnyG_take0 (i := 0) (v := .slice a1 n c1) rfl (by kernel_rfl) (fun _ _ _ h => h) (.inl ⟨by rfl, fun w hw => by go_simp⟩) (InvG.mk hP trivial) ?_
        refine fSxEqA9_26 ?_
        refine wpAnyG_take0 (i := 1) (v := .int .i64 k) rfl (by kernel_rfl) (fun _ _ _ h => h) (.inl ⟨by rfl, fun w hw => by go_simp⟩) (InvG.mk hP trivial) ?_
        refine fSxEqA9_26 ?_
        refine wpAnyG_take0 (i := 2) (v := .pointer (some ⟨b0, o0, none⟩)) rfl (by kernel_rfl) (fun _ _ _ h => h) (.inl ⟨by rfl, fun w hw => by have hi := hidx0; clear hw; go_simp⟩) (InvG.mk hP trivial) ?_
        refine fSxEqA9_26 ?_
        refine wpAnyG_take0 (i := 3) (v := .agg (rC x).toArray) rfl (by kernel_rfl) (fun _ _ _ h => h) (yieldsIf_load_mid (by rfl) 153 _ rfl b0 o0 (by go_simp) (rC x) _ (fun w h => h.1) Tryz.underlying153 rfl infoRg) (InvG.mk hP trivial) ?_
        refine fSxEqA9_26 ?_
        refine wpAnyG_take0 (i := 4) (v := .slice a2 n c2) rfl (by kernel_rfl) (fun _ _ _ h => h) (.inl ⟨by rfl, fun w hw => by go_simp⟩) (InvG.mk hP trivial) ?_
        refine fSxEqA9_26 ?_
        refine wpAnyG_take0 (i := 5) (v := .int .i64 k) rfl (by kernel_rfl) (fun _ _ _ h => h) (.inl ⟨by rfl, fun w hw => by go_simp⟩) (InvG.mk hP trivial) ?_
        refine fSxEqA9_26 ?_
        refine wpAnyG_take0 (i := 6) (v := .pointer (some ⟨b1, o1, none⟩)) rfl (by kernel_rfl) (fun _ _ _ h => h) (.inl ⟨by rfl, fun w hw => by have hi := hidx1; clear hw; go_simp⟩) (InvG.mk hP trivial) ?_
        refine fSxEqA9_26 ?_
        refine wpAnyG_take0 (i := 7) (v := .agg (rC y).toArray) rfl (by kernel_rfl) (fun _ _ _ h => h) (yieldsIf_load_mid (by rfl) 153 _ rfl b1 o1 (by go_simp) (rC y) _ (fun w h => h.2) Tryz.underlying153 rfl infoRg) (InvG.mk hP trivial) ?_
        refine fSxEqA9_26 ?_
        refine wpAnyG_take0 (i := 8) (v := .bool (!decide (x = y))) rfl (by kernel_rfl) (fun _ _ _ h => h) (.inl ⟨by rfl, fun w hw => by have hq := neqSR x y; have hG : Tryz.prog.eqGuardType Tryz.prog.depth 153 = false := (by kernel_rfl); clear hw; go_simp⟩) (InvG.mk hP trivial) ?_
        refine fSxEqA9_26 ?_
        refine wpAnyG_done (by kernel_rfl) ?_ _
        have HW2 : Hid (Below w.heap.size w wr.drew) := Lib.hid HW.out.drew
        clear hP hidx0 hidx1
        by_cases hxy : x = y
        · have HTn := Lib.hid (HNx.out hxy)
          rw [decide_eq_true hxy]
          clear hxy HNx HNo
          go_wp2_with fail
          go_roundw
          case rel => exact ⟨k + 1, by omega, by go_num, HTn, HW2⟩
          case measure => simp [intOf]; omega
        · have HDf := Lib.hid (HNo.out hxy)
          rw [decide_eq_false hxy]
          clear hxy HNx HNo
          go_wp2_with fail
          go_ret
          rw [HDf.out]
          exact ⟨rfl, HW2.out⟩
      · obtain rfl : n = k := by omega
        have HDt : Hid (D = true) := Lib.hid (by rw [HD.out]; exact decide_eq_true (take_eq_all HT.out Hn1.out Hn2.out))
        go_wp2_with fail
        go_ret
        rw [HDt.out]
        exact ⟨rfl, HW.out⟩
  · have hz : (((xs.length : Nat) : Int) != ((ys.length : Nat) : Int)) = true := by simp; omega
    have hz2 : ¬ ((xs.length : Nat) : Int) = ((ys.length : Nat) : Int) := by omega
    have hz3 : (((xs.length : Nat) : Int) == ((ys.length : Nat) : Int)) = false := beq_eq_false_iff_ne.2 hz2
    rw [decide_eq_false (fun e => hl (congrArg List.length e))]
    clear hl
    go_enter Tryz.func84, Tryz.ntmps84
    go_wp2_with fail
    go_ret
    exact ⟨rfl, Below.refl _ _⟩

set_option maxHeartbeats 4000000 in
set_option maxRecDepth 100000 in
theorem eqV_any (v1 v2 : Value) (xs ys : List Sx.Val) (w : World) (h1 : FlatB vC (frag w) v1 xs) (h2 : FlatB vC (frag w) v2 ys) :
    Calls Tryz.prog 85 #[v1, v2] w fun e w' => e = .returned (.bool (decide (xs = ys))) ∧ Below w.heap.size w w' := by
  obtain ⟨a1, c1, rfl, _, _, _⟩ := h1.1.len
  obtain ⟨a2, c2, rfl, _, _, _⟩ := h2.1.len
  have HF1 := Lib.hid h1.1; have HF2 := Lib.hid h2.1
  have hn9 : xs.length ≤ 9223372036854775807 := by have := h1.2; omega
  clear h1 h2
  by_cases hl : xs.length = ys.length
  · obtain ⟨n, hn⟩ : ∃ z, z = xs.length := ⟨_, rfl⟩
    have Hn2 : Hid (ys.length = n) := Lib.hid (by rw [hn, hl])
    rw [← hl]
    rw [← hl] at HF2
    rw [← hn] at HF1 HF2 hn9 ⊢
    have Hn1 : Hid (xs.length = n) := Lib.hid hn.symm
    have hz : (((n : Nat) : Int) != ((n : Nat) : Int)) = false := by simp
    obtain ⟨D, hD⟩ : ∃ D, D = decide (xs = ys) := ⟨_, rfl⟩
    rw [← hD]
    have HD := Lib.hid hD
    clear hl hn hD
    go_enter Tryz.func85, Tryz.ntmps85
    go_wp2_with fail
    clear hz
    go_loopw [13] (fun iv wr => ∃ k : Nat, k ≤ n ∧ iv = .int .i64 k ∧ Hid (xs.take k = ys.take k) ∧ Hid (Below w.heap.size w wr)) (fun iv _ => n - (intOf iv).toNat)
    case atStart => exact ⟨0, Nat.zero_le _, rfl, Lib.hid rfl, Lib.hid (Below.refl _ _)⟩
    case round =>
      obtain ⟨k, hkn, rfl, HT, HW⟩ := hrel
      by_cases hlt : k < n
      · have hk1 : k < xs.length := by rw [Hn1.out]; exact hlt
        have hk2 : k < ys.length := by rw [Hn2.out]; exact hlt
        obtain ⟨b0, o0, hb0, hidx0, hcell0⟩ := FlatV.at (n := n) (cap := c1) (a := a1) (HF1.out.mono (below_le HW.out)) vC_len (by decide) (i := k) hk1 Tryz.underlying95 sizeSV
        obtain ⟨b1, o1, hb1, hidx1, hcell1⟩ := FlatV.at (n := n) (cap := c2) (a := a2) (HF2.out.mono (below_le HW.out)) vC_len (by decide) (i := k) hk2 Tryz.underlying95 sizeSV
        have hT1 := List.take_succ_eq_append_getElem hk1
        have hT2 := List.take_succ_eq_append_getElem hk2
        have HNx : Hid (xs[k] = ys[k] → xs.take (k + 1) = ys.take (k + 1)) := Lib.hid (fun e => by rw [hT1, hT2, HT.out, e])
        have HNo : Hid (xs[k] ≠ ys[k] → D = false) := Lib.hid (fun e => by rw [HD.out]; exact decide_eq_false (take_ne hk1 hk2 e))
        have hr0 : wr.rangeAt b0 o0 (vC xs[k]) := hcell0
        have hr1 : wr.rangeAt b1 o1 (vC ys[k]) := hcell1
        clear hcell0 hcell1 hT1 hT2
        generalize xs[k] = x at *
        generalize ys[k] = y at *
        have hP : wr.drew.rangeAt b0 o0 (vC x) ∧ wr.drew.rangeAt b1 o1 (vC y) := ⟨hr0, hr1⟩
        clear hr0 hr1 hk1 hk2
        go_wp2_with fail
        refine wp_region_G 99 (fun w' => w'.rangeAt b0 o0 (vC x) ∧ w'.rangeAt b1 o1 (vC y)) (fun _ => True) (by kernel_rfl) hP trivial (fun _ => ?_)
        refine wpAnyG_take0 (i := 0) (v := .slice a1 n c1) rfl (by kernel_rfl) (fun _ _ _ h => h) (.inl ⟨by rfl, fun w hw => by go_simp⟩) (InvG.mk hP trivial) ?_
        refine fSxEqA9_26 ?_
        refine wpAnyG_take0 (i := 1) (v := .int .i64 k) rfl (by kernel_rfl) (fun _ _ _ h => h) (.inl ⟨by rfl, fun w hw => by go_simp⟩) (InvG.mk hP trivial) ?_
        refine fSxEqA9_26 ?_
        refine wpAnyG_take0 (i := 2) (v := .pointer (some ⟨b0, o0, none⟩)) rfl (by kernel_rfl) (fun _ _ _ h => h) (.inl ⟨by rfl, fun w hw => by have hi := hidx0; clear hw; go_simp⟩) (InvG.mk hP trivial) ?_
        refine fSxEqA9_26 ?_
        refine wpAnyG_take0 (i := 3) (v := .agg (vC x).toArray) rfl (by kernel_rfl) (fun _ _ _ h => h) (yieldsIf_load_mid (by rfl) 148 _ rfl b0 o0 (by go_simp) (vC x) _ (fun w h => h.1) Tryz.underlying148 rfl infoVl) (InvG.mk hP trivial) ?_
        refine fSxEqA9_26 ?_
        refine wpAnyG_take0 (i := 4) (v := .slice a2 n c2) rfl (by kernel_rfl) (fun _ _ _ h => h) (.inl ⟨by rfl, fun w hw => by go_simp⟩) (InvG.mk hP trivial) ?_
        refine fSxEqA9_26 ?_
        refine wpAnyG_take0 (i := 5) (v := .int .i64 k) rfl (by kernel_rfl) (fun _ _ _ h => h) (.inl ⟨by rfl, fun w hw => by go_simp⟩) (InvG.mk hP trivial) ?_
        refine fSxEqA9_26 ?_
        refine wpAnyG_take0 (i := 6) (v := .pointer (some ⟨b1, o1, none⟩)) rfl (by kernel_rfl) (fun _ _ _ h => h) (.inl ⟨by rfl, fun w hw => by have hi := hidx1; clear hw; go_simp⟩) (InvG.mk hP trivial) ?_
        refine fSxEqA9_26 ?_
        refine wpAnyG_take0 (i := 7) (v := .agg (vC y).toArray) rfl (by kernel_rfl) (fun _ _ _ h => h) (yieldsIf_load_mid (by rfl) 148 _ rfl b1 o1 (by go_simp) (vC y) _ (fun w h => h.2) Tryz.underlying148 rfl infoVl) (InvG.mk hP trivial) ?_
        refine fSxEqA9_26 ?_
        refine wpAnyG_take0 (i := 8) (v := .bool (!decide (x = y))) rfl (by kernel_rfl) (fun _ _ _ h => h) (.inl ⟨by rfl, fun w hw => by have hq := neqSV x y; have hG : Tryz.prog.eqGuardType Tryz.prog.depth 148 = false := (by kernel_rfl); clear hw; go_simp⟩) (InvG.mk hP trivial) ?_
        refine fSxEqA9_26 ?_
        refine wpAnyG_done (by kernel_rfl) ?_ _
        have HW2 : Hid (Below w.heap.size w wr.drew) := Lib.hid HW.out.drew
        clear hP hidx0 hidx1
        by_cases hxy : x = y
        · have HTn := Lib.hid (HNx.out hxy)
          rw [decide_eq_true hxy]
          clear hxy HNx HNo
          go_wp2_with fail
          go_roundw
          case rel => exact ⟨k + 1, by omega, by go_num, HTn, HW2⟩
          case measure => simp [intOf]; omega
        · have HDf := Lib.hid (HNo.out hxy)
          rw [decide_eq_false hxy]
          clear hxy HNx HNo
          go_wp2_with fail
          go_ret
          rw [HDf.out]
          exact ⟨rfl, HW2.out⟩
      · obtain rfl : n = k := by omega
        have HDt : Hid (D = true) := Lib.hid (by rw [HD.out]; exact decide_eq_true (take_eq_all HT.out Hn1.out Hn2.out))
        go_wp2_with fail
        go_ret
        rw [HDt.out]
        exact ⟨rfl, HW.out⟩
  · have hz : (((xs.length : Nat) : Int) != ((ys.length : Nat) : Int)) = true := by simp; omega
    have hz2 : ¬ ((xs.length : Nat) : Int) = ((ys.length : Nat) : Int) := by omega
    have hz3 : (((xs.length : Nat) : Int) == ((ys.length : Nat) : Int)) = false := beq_eq_false_iff_ne.2 hz2
    rw [decide_eq_false (fun e => hl (congrArg List.length e))]
    clear hl
    go_enter Tryz.func85, Tryz.ntmps85
    go_wp2_with fail
    go_ret
    exact ⟨rfl, Below.refl _ _⟩

end Go.Proofs.YtiofhfcohhfihaaGreatDoor
