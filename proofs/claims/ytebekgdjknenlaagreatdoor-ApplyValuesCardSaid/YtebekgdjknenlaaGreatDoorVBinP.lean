/- slices.BinarySearchFunc of pairs, walked. -/
import Derived.Test.YtebekgdjknenlaaGreatDoorGpAC
set_option maxRecDepth 100000
set_option maxHeartbeats 4000000
set_option linter.unusedVariables false
set_option linter.unusedSimpArgs false
namespace Go.Proofs.YtebekgdjknenlaaGreatDoor
open Go.RowKit
open Val (V cmp firstGe)
theorem binsearch_par (es : List (List Value)) (tk tn : Int) (tt tr : ByteArray) (ta1 : Option Addr) (tn1 tc1 : Nat) (ta2 : Option Addr) (tn2 tc2 : Nat) (ta3 : Option Addr) (tn3 tc3 : Nat) (c : Nat → Int) (v : Value) (g : Nat) (w : World) (hv : FlatC 14 (frag w) v es) (hse : ∀ e ∈ es, Par14 e)
  (hg : ∀ args wx, (callFunc g args).run Tryz.prog wx = .ok (.enter g args) wx)
  (hmono : ∀ i j, i ≤ j → j < es.length → c j < 0 → c i < 0) (hbig : es.length < 4611686018427387904)
  (hc : ∀ (i : Nat) (h1 : i < es.length) (wx : World), Below w.heap.size w wx → Calls Tryz.prog g #[.agg es[i].toArray, .agg #[.int .i64 tk, .int .u64 tn, .string tt, .slice ta1 tn1 tc1, .string tr, .slice ta2 tn2 tc2, .slice ta3 tn3 tc3]] wx fun e w' => e = .returned (.int .i64 (c i)) ∧ Below wx.heap.size wx w') :
  Calls Tryz.prog 94 #[v, .agg #[.int .i64 tk, .int .u64 tn, .string tt, .slice ta1 tn1 tc1, .string tr, .slice ta2 tn2 tc2, .slice ta3 tn3 tc3], .func (.func g) #[] #[]] w fun e w' =>
   e = .returned (.tuple #[.int .i64 (firstGe c es.length : Nat), .bool (decide (firstGe c es.length < es.length) && decide (c (firstGe c es.length) = 0))]) ∧ Below w.heap.size w w' := by
 obtain ⟨a, cap, rfl, hc1, hc2, _⟩ := hv.len
 have HX := Yq hv; have HC := Yq hc; have HSE := Yq hse; have M := Yq hmono
 unfold maxLen at hc2
 clear hv hc hse hmono
 obtain ⟨n, hn⟩ : ∃ n, n = es.length := ⟨_, rfl⟩
 rw [← hn] at HX hc1 M hbig ⊢
 have Hn := Yq hn.symm; clear hn
 obtain ⟨pos, hpos⟩ : ∃ pos, pos = firstGe c n := ⟨_, rfl⟩
 obtain ⟨fin, hfin⟩ : ∃ fin, fin = (decide (pos < n) && decide (c pos = 0)) := ⟨_, rfl⟩
 rw [← hpos, ← hfin]
 have Hpos := Yq hpos; have Hfin := Yq hfin
 clear hpos hfin
 have hle1 : w.heap.size ≤ (w.alloc (.cells #[.int .i64 tk, .int .u64 tn, .string tt, .slice ta1 tn1 tc1, .string tr, .slice ta2 tn2 tc2, .slice ta3 tn3 tc3] 27)).heap.size := by simp
 have hbt := Yq ((Below.refl w.heap.size w).alloc (Nat.le_refl _) (.cells #[.int .i64 tk, .int .u64 tn, .string tt, .slice ta1 tn1 tc1, .string tr, .slice ta2 tn2 tc2, .slice ta3 tn3 tc3] 27))
 have htc : ∀ w1, Below (w.heap.size + 1) (w.alloc (.cells #[.int .i64 tk, .int .u64 tn, .string tt, .slice ta1 tn1 tc1, .string tr, .slice ta2 tn2 tc2, .slice ta3 tn3 tc3] 27)) w1 → w1.cell? ⟨w.heap.size, 0, none⟩ = some (.int .i64 tk) ∧ w1.cell? ⟨w.heap.size, 1, none⟩ = some (.int .u64 tn) ∧ w1.cell? ⟨w.heap.size, 2, none⟩ = some (.string tt) ∧ w1.cell? ⟨w.heap.size, 3, none⟩ = some (.slice ta1 tn1 tc1) ∧ w1.cell? ⟨w.heap.size, 4, none⟩ = some (.string tr) ∧ w1.cell? ⟨w.heap.size, 5, none⟩ = some (.slice ta2 tn2 tc2) ∧ w1.cell? ⟨w.heap.size, 6, none⟩ = some (.slice ta3 tn3 tc3) := by
  intro w1 hb
  refine ⟨?_, ?_, ?_, ?_, ?_, ?_, ?_⟩
  all_goals
   rw [hb.cell (by simp)]
   simp
 have Htc := Yq htc; clear htc
 go_enter Tryz.func94, Tryz.ntmps94
 go_wp2_with fail
 go_loopg [9, 10] n (fun kx s9 s10 wr => ∃ lo hi : Nat, s9 = .int .i64 lo ∧ s10 = .int .i64 hi ∧ lo ≤ hi ∧ hi ≤ n ∧ hi - lo ≤ kx ∧ Below (w.heap.size + 1) (w.alloc (.cells #[.int .i64 tk, .int .u64 tn, .string tt, .slice ta1 tn1 tc1, .string tr, .slice ta2 tn2 tc2, .slice ta3 tn3 tc3] 27)) wr ∧
  Hid ((∀ t, t < lo → c t < 0) ∧ (∀ t, hi ≤ t → t < n → 0 ≤ c t)))
 case atStart => exact ⟨0, n, rfl, rfl, Nat.zero_le _, Nat.le_refl _, by omega, (Below.refl _ _), (⟨fun t ht => absurd ht (Nat.not_lt_zero _), fun t h1 h2 => by omega⟩ : (∀ t, t < 0 → c t < 0) ∧ (∀ t, n ≤ t → t < n → 0 ≤ c t))⟩
 case round =>
  obtain ⟨lo, hi, rfl, rfl, hlh, hin, hg', hbel1, Inv⟩ := hrel
  have hbel : Below w.heap.size w wr := hbt.out.trans (hbel1.mono (by omega))
  have Hbel1 := Yq hbel1
  obtain ⟨t0, t1, t2, t3, t4, t5, t6⟩ := Htc.out wr hbel1
  clear hbel1
  by_cases hlt : lo < hi
  ·have hks : (lo + hi) / 2 < es.length := by rw [Hn.out]; omega
   obtain ⟨b0, o0, hb0, hidx, hcell⟩ := FlatC.at (n := n) (cap := cap) (a := a) HX.out (by decide) (i := (lo + hi) / 2) hks Tryz.underlying25 sizePar
   obtain ⟨_, _, ⟨xk, xn, xt, xr, xa1, xn1, xc1, xa2, xn2, xc2, xa3, xn3, xc3, rfl⟩, ⟨yk, yn, yt, yr, ya1, yn1, yc1, ya2, yn2, yc2, ya3, yn3, yc3, rfl⟩, hx⟩ := HSE.out es[(lo + hi) / 2] (List.getElem_mem _)
   simp only [List.cons_append, List.nil_append] at hx
   rw [hx] at hcell
   have c0 := (hbel.cell (p := ⟨b0, o0 + 0, none⟩) hb0).trans (hcell 0 _ rfl)
   have c1 := (hbel.cell (p := ⟨b0, o0 + 1, none⟩) hb0).trans (hcell 1 _ rfl)
   have c2 := (hbel.cell (p := ⟨b0, o0 + 2, none⟩) hb0).trans (hcell 2 _ rfl)
   have c3 := (hbel.cell (p := ⟨b0, o0 + 3, none⟩) hb0).trans (hcell 3 _ rfl)
   have c4 := (hbel.cell (p := ⟨b0, o0 + 4, none⟩) hb0).trans (hcell 4 _ rfl)
   have c5 := (hbel.cell (p := ⟨b0, o0 + 5, none⟩) hb0).trans (hcell 5 _ rfl)
   have c6 := (hbel.cell (p := ⟨b0, o0 + 6, none⟩) hb0).trans (hcell 6 _ rfl)
   have c7 := (hbel.cell (p := ⟨b0, o0 + 7, none⟩) hb0).trans (hcell 7 _ rfl)
   have c8 := (hbel.cell (p := ⟨b0, o0 + 8, none⟩) hb0).trans (hcell 8 _ rfl)
   have c9 := (hbel.cell (p := ⟨b0, o0 + 9, none⟩) hb0).trans (hcell 9 _ rfl)
   have c10 := (hbel.cell (p := ⟨b0, o0 + 10, none⟩) hb0).trans (hcell 10 _ rfl)
   have c11 := (hbel.cell (p := ⟨b0, o0 + 11, none⟩) hb0).trans (hcell 11 _ rfl)
   have c12 := (hbel.cell (p := ⟨b0, o0 + 12, none⟩) hb0).trans (hcell 12 _ rfl)
   have c13 := (hbel.cell (p := ⟨b0, o0 + 13, none⟩) hb0).trans (hcell 13 _ rfl)
   rw [Nat.add_zero] at c0
   have hcall := fun wx hb => HC.out ((lo + hi) / 2) hks wx hb
   rw [hx] at hcall
   have Hcall := Yq hcall
   clear hcell hx hcall
   rw [show ((((lo + hi) / 2 : Nat)) : Int) = ((lo : Int) + (hi : Int)) / 2 by omega] at hidx
   have hb0r : b0 < wr.heap.size := Nat.lt_of_lt_of_le hb0 hbel.size
   have hwr : w.heap.size < wr.heap.size := by have := Hbel1.out.size; simp at this; omega
   have HK : Held wr.heap.size wr (fun w' => ((w'.cell? ⟨b0, o0, none⟩ = some (.int .i64 xk) ∧ w'.cell? ⟨b0, o0 + 1, none⟩ = some (.int .u64 xn) ∧ w'.cell? ⟨b0, o0 + 2, none⟩ = some (.string xt) ∧ w'.cell? ⟨b0, o0 + 3, none⟩ = some (.slice xa1 xn1 xc1) ∧ w'.cell? ⟨b0, o0 + 4, none⟩ = some (.string xr) ∧ w'.cell? ⟨b0, o0 + 5, none⟩ = some (.slice xa2 xn2 xc2) ∧ w'.cell? ⟨b0, o0 + 6, none⟩ = some (.slice xa3 xn3 xc3) ∧ w'.cell? ⟨b0, o0 + 7, none⟩ = some (.int .i64 yk) ∧ w'.cell? ⟨b0, o0 + 8, none⟩ = some (.int .u64 yn) ∧ w'.cell? ⟨b0, o0 + 9, none⟩ = some (.string yt) ∧ w'.cell? ⟨b0, o0 + 10, none⟩ = some (.slice ya1 yn1 yc1) ∧ w'.cell? ⟨b0, o0 + 11, none⟩ = some (.string yr) ∧ w'.cell? ⟨b0, o0 + 12, none⟩ = some (.slice ya2 yn2 yc2) ∧ w'.cell? ⟨b0, o0 + 13, none⟩ = some (.slice ya3 yn3 yc3)) ∧ (w'.cell? ⟨w.heap.size, 0, none⟩ = some (.int .i64 tk) ∧ w'.cell? ⟨w.heap.size, 1, none⟩ = some (.int .u64 tn) ∧ w'.cell? ⟨w.heap.size, 2, none⟩ = some (.string tt) ∧ w'.cell? ⟨w.heap.size, 3, none⟩ = some (.slice ta1 tn1 tc1) ∧ w'.cell? ⟨w.heap.size, 4, none⟩ = some (.string tr) ∧ w'.cell? ⟨w.heap.size, 5, none⟩ = some (.slice ta2 tn2 tc2) ∧ w'.cell? ⟨w.heap.size, 6, none⟩ = some (.slice ta3 tn3 tc3)))) := by
    refine ⟨Nat.le_refl _, fun w' hb => ⟨⟨?_, ?_, ?_, ?_, ?_, ?_, ?_, ?_, ?_, ?_, ?_, ?_, ?_, ?_⟩, ?_, ?_, ?_, ?_, ?_, ?_, ?_⟩⟩
    all_goals
     rw [hb.cell (by first | exact hb0r | exact hwr)]
     assumption
   have HB : ∀ w', (((w'.cell? ⟨b0, o0, none⟩ = some (.int .i64 xk) ∧ w'.cell? ⟨b0, o0 + 1, none⟩ = some (.int .u64 xn) ∧ w'.cell? ⟨b0, o0 + 2, none⟩ = some (.string xt) ∧ w'.cell? ⟨b0, o0 + 3, none⟩ = some (.slice xa1 xn1 xc1) ∧ w'.cell? ⟨b0, o0 + 4, none⟩ = some (.string xr) ∧ w'.cell? ⟨b0, o0 + 5, none⟩ = some (.slice xa2 xn2 xc2) ∧ w'.cell? ⟨b0, o0 + 6, none⟩ = some (.slice xa3 xn3 xc3) ∧ w'.cell? ⟨b0, o0 + 7, none⟩ = some (.int .i64 yk) ∧ w'.cell? ⟨b0, o0 + 8, none⟩ = some (.int .u64 yn) ∧ w'.cell? ⟨b0, o0 + 9, none⟩ = some (.string yt) ∧ w'.cell? ⟨b0, o0 + 10, none⟩ = some (.slice ya1 yn1 yc1) ∧ w'.cell? ⟨b0, o0 + 11, none⟩ = some (.string yr) ∧ w'.cell? ⟨b0, o0 + 12, none⟩ = some (.slice ya2 yn2 yc2) ∧ w'.cell? ⟨b0, o0 + 13, none⟩ = some (.slice ya3 yn3 yc3)) ∧ (w'.cell? ⟨w.heap.size, 0, none⟩ = some (.int .i64 tk) ∧ w'.cell? ⟨w.heap.size, 1, none⟩ = some (.int .u64 tn) ∧ w'.cell? ⟨w.heap.size, 2, none⟩ = some (.string tt) ∧ w'.cell? ⟨w.heap.size, 3, none⟩ = some (.slice ta1 tn1 tc1) ∧ w'.cell? ⟨w.heap.size, 4, none⟩ = some (.string tr) ∧ w'.cell? ⟨w.heap.size, 5, none⟩ = some (.slice ta2 tn2 tc2) ∧ w'.cell? ⟨w.heap.size, 6, none⟩ = some (.slice ta3 tn3 tc3))) ∧ Below wr.heap.size wr w') → Below w.heap.size w w' ∧ Below (w.heap.size + 1) (w.alloc (.cells #[.int .i64 tk, .int .u64 tn, .string tt, .slice ta1 tn1 tc1, .string tr, .slice ta2 tn2 tc2, .slice ta3 tn3 tc3] 27)) w' := fun w' h => ⟨hbel.trans (h.2.mono hbel.size), Hbel1.out.trans (h.2.mono (by omega))⟩
   have HB := Yq HB; have HK := Yq HK
   by_cases hyx : c ((lo + hi) / 2) < 0
   ·have gy : decide (c ((lo + hi) / 2) < 0) = true := decide_eq_true hyx
    have I2 : Hid ((∀ t, t < (lo + hi) / 2 + 1 → c t < 0) ∧ (∀ t, hi ≤ t → t < n → 0 ≤ c t)) := ⟨fun t ht => M.out t ((lo + hi) / 2) (by omega) (by omega) hyx, Inv.out.2⟩
    generalize c ((lo + hi) / 2) = cm at *
    go_wp2_with fail
    go_region_held3 (fun w' => ((w'.cell? ⟨b0, o0, none⟩ = some (.int .i64 xk) ∧ w'.cell? ⟨b0, o0 + 1, none⟩ = some (.int .u64 xn) ∧ w'.cell? ⟨b0, o0 + 2, none⟩ = some (.string xt) ∧ w'.cell? ⟨b0, o0 + 3, none⟩ = some (.slice xa1 xn1 xc1) ∧ w'.cell? ⟨b0, o0 + 4, none⟩ = some (.string xr) ∧ w'.cell? ⟨b0, o0 + 5, none⟩ = some (.slice xa2 xn2 xc2) ∧ w'.cell? ⟨b0, o0 + 6, none⟩ = some (.slice xa3 xn3 xc3) ∧ w'.cell? ⟨b0, o0 + 7, none⟩ = some (.int .i64 yk) ∧ w'.cell? ⟨b0, o0 + 8, none⟩ = some (.int .u64 yn) ∧ w'.cell? ⟨b0, o0 + 9, none⟩ = some (.string yt) ∧ w'.cell? ⟨b0, o0 + 10, none⟩ = some (.slice ya1 yn1 yc1) ∧ w'.cell? ⟨b0, o0 + 11, none⟩ = some (.string yr) ∧ w'.cell? ⟨b0, o0 + 12, none⟩ = some (.slice ya2 yn2 yc2) ∧ w'.cell? ⟨b0, o0 + 13, none⟩ = some (.slice ya3 yn3 yc3)) ∧ (w'.cell? ⟨w.heap.size, 0, none⟩ = some (.int .i64 tk) ∧ w'.cell? ⟨w.heap.size, 1, none⟩ = some (.int .u64 tn) ∧ w'.cell? ⟨w.heap.size, 2, none⟩ = some (.string tt) ∧ w'.cell? ⟨w.heap.size, 3, none⟩ = some (.slice ta1 tn1 tc1) ∧ w'.cell? ⟨w.heap.size, 4, none⟩ = some (.string tr) ∧ w'.cell? ⟨w.heap.size, 5, none⟩ = some (.slice ta2 tn2 tc2) ∧ w'.cell? ⟨w.heap.size, 6, none⟩ = some (.slice ta3 tn3 tc3))) ∧ Below wr.heap.size wr w')
     (first | assumption | exact HK.out.start | exact HK.out.call (by assumption) (by assumption) | exact HK.out.alloc (by assumption) _)
     (first
     | (go_at_fn g; refine (Hcall.out _ (HB.out _ (by assumption)).1).mono ?_; rintro e w3 ⟨rfl, hb3⟩))
    all_goals
     go_wp2_with fail
     go_roundg (hi - ((lo + hi) / 2 + 1))
     case measure => omega
     case rel => exact ⟨(lo + hi) / 2 + 1, hi, by rw [show ((lo : Int) + (hi : Int)) / 2 + 1 = (((lo + hi) / 2 + 1 : Nat) : Int) by omega], rfl, by omega, hin, Nat.le_refl _, (HB.out _ (by assumption)).2, I2⟩
   ·have gy : decide (c ((lo + hi) / 2) < 0) = false := decide_eq_false hyx
    have I2 : Hid ((∀ t, t < lo → c t < 0) ∧ (∀ t, (lo + hi) / 2 ≤ t → t < n → 0 ≤ c t)) := ⟨Inv.out.1, fun t ht htn => Int.not_lt.1 fun h => hyx (M.out ((lo + hi) / 2) t ht htn h)⟩
    generalize c ((lo + hi) / 2) = cm at *
    go_wp2_with fail
    go_region_held3 (fun w' => ((w'.cell? ⟨b0, o0, none⟩ = some (.int .i64 xk) ∧ w'.cell? ⟨b0, o0 + 1, none⟩ = some (.int .u64 xn) ∧ w'.cell? ⟨b0, o0 + 2, none⟩ = some (.string xt) ∧ w'.cell? ⟨b0, o0 + 3, none⟩ = some (.slice xa1 xn1 xc1) ∧ w'.cell? ⟨b0, o0 + 4, none⟩ = some (.string xr) ∧ w'.cell? ⟨b0, o0 + 5, none⟩ = some (.slice xa2 xn2 xc2) ∧ w'.cell? ⟨b0, o0 + 6, none⟩ = some (.slice xa3 xn3 xc3) ∧ w'.cell? ⟨b0, o0 + 7, none⟩ = some (.int .i64 yk) ∧ w'.cell? ⟨b0, o0 + 8, none⟩ = some (.int .u64 yn) ∧ w'.cell? ⟨b0, o0 + 9, none⟩ = some (.string yt) ∧ w'.cell? ⟨b0, o0 + 10, none⟩ = some (.slice ya1 yn1 yc1) ∧ w'.cell? ⟨b0, o0 + 11, none⟩ = some (.string yr) ∧ w'.cell? ⟨b0, o0 + 12, none⟩ = some (.slice ya2 yn2 yc2) ∧ w'.cell? ⟨b0, o0 + 13, none⟩ = some (.slice ya3 yn3 yc3)) ∧ (w'.cell? ⟨w.heap.size, 0, none⟩ = some (.int .i64 tk) ∧ w'.cell? ⟨w.heap.size, 1, none⟩ = some (.int .u64 tn) ∧ w'.cell? ⟨w.heap.size, 2, none⟩ = some (.string tt) ∧ w'.cell? ⟨w.heap.size, 3, none⟩ = some (.slice ta1 tn1 tc1) ∧ w'.cell? ⟨w.heap.size, 4, none⟩ = some (.string tr) ∧ w'.cell? ⟨w.heap.size, 5, none⟩ = some (.slice ta2 tn2 tc2) ∧ w'.cell? ⟨w.heap.size, 6, none⟩ = some (.slice ta3 tn3 tc3))) ∧ Below wr.heap.size wr w')
     (first | assumption | exact HK.out.start | exact HK.out.call (by assumption) (by assumption) | exact HK.out.alloc (by assumption) _)
     (first
     | (go_at_fn g; refine (Hcall.out _ (HB.out _ (by assumption)).1).mono ?_; rintro e w3 ⟨rfl, hb3⟩))
    all_goals
     go_wp2_with fail
     go_roundg ((lo + hi) / 2 - lo)
     case measure => omega
     case rel => exact ⟨lo, (lo + hi) / 2, rfl, by rw [show ((lo : Int) + (hi : Int)) / 2 = (((lo + hi) / 2 : Nat) : Int) by omega], by omega, by omega, Nat.le_refl _, (HB.out _ (by assumption)).2, I2⟩
  ·obtain rfl : hi = lo := by omega
   have epos : pos = hi := by rw [Hpos.out]; exact Val.firstGe_of c n hi hin Inv.out.1 (fun h => Inv.out.2 hi (Nat.le_refl _) h)
   subst epos
   by_cases hlt2 : pos < n
   ·have hks : pos < es.length := by rw [Hn.out]; omega
    obtain ⟨b0, o0, hb0, hidx, hcell⟩ := FlatC.at (n := n) (cap := cap) (a := a) HX.out (by decide) (i := pos) hks Tryz.underlying25 sizePar
    obtain ⟨_, _, ⟨xk, xn, xt, xr, xa1, xn1, xc1, xa2, xn2, xc2, xa3, xn3, xc3, rfl⟩, ⟨yk, yn, yt, yr, ya1, yn1, yc1, ya2, yn2, yc2, ya3, yn3, yc3, rfl⟩, hx⟩ := HSE.out es[pos] (List.getElem_mem _)
    simp only [List.cons_append, List.nil_append] at hx
    rw [hx] at hcell
    have c0 := (hbel.cell (p := ⟨b0, o0 + 0, none⟩) hb0).trans (hcell 0 _ rfl)
    have c1 := (hbel.cell (p := ⟨b0, o0 + 1, none⟩) hb0).trans (hcell 1 _ rfl)
    have c2 := (hbel.cell (p := ⟨b0, o0 + 2, none⟩) hb0).trans (hcell 2 _ rfl)
    have c3 := (hbel.cell (p := ⟨b0, o0 + 3, none⟩) hb0).trans (hcell 3 _ rfl)
    have c4 := (hbel.cell (p := ⟨b0, o0 + 4, none⟩) hb0).trans (hcell 4 _ rfl)
    have c5 := (hbel.cell (p := ⟨b0, o0 + 5, none⟩) hb0).trans (hcell 5 _ rfl)
    have c6 := (hbel.cell (p := ⟨b0, o0 + 6, none⟩) hb0).trans (hcell 6 _ rfl)
    have c7 := (hbel.cell (p := ⟨b0, o0 + 7, none⟩) hb0).trans (hcell 7 _ rfl)
    have c8 := (hbel.cell (p := ⟨b0, o0 + 8, none⟩) hb0).trans (hcell 8 _ rfl)
    have c9 := (hbel.cell (p := ⟨b0, o0 + 9, none⟩) hb0).trans (hcell 9 _ rfl)
    have c10 := (hbel.cell (p := ⟨b0, o0 + 10, none⟩) hb0).trans (hcell 10 _ rfl)
    have c11 := (hbel.cell (p := ⟨b0, o0 + 11, none⟩) hb0).trans (hcell 11 _ rfl)
    have c12 := (hbel.cell (p := ⟨b0, o0 + 12, none⟩) hb0).trans (hcell 12 _ rfl)
    have c13 := (hbel.cell (p := ⟨b0, o0 + 13, none⟩) hb0).trans (hcell 13 _ rfl)
    rw [Nat.add_zero] at c0
    have hcall := fun wx hb => HC.out (pos) hks wx hb
    rw [hx] at hcall
    have Hcall := Yq hcall
    clear hcell hx hcall
    have hb0r : b0 < wr.heap.size := Nat.lt_of_lt_of_le hb0 hbel.size
    have hwr : w.heap.size < wr.heap.size := by have := Hbel1.out.size; simp at this; omega
    have HK : Held wr.heap.size wr (fun w' => ((w'.cell? ⟨b0, o0, none⟩ = some (.int .i64 xk) ∧ w'.cell? ⟨b0, o0 + 1, none⟩ = some (.int .u64 xn) ∧ w'.cell? ⟨b0, o0 + 2, none⟩ = some (.string xt) ∧ w'.cell? ⟨b0, o0 + 3, none⟩ = some (.slice xa1 xn1 xc1) ∧ w'.cell? ⟨b0, o0 + 4, none⟩ = some (.string xr) ∧ w'.cell? ⟨b0, o0 + 5, none⟩ = some (.slice xa2 xn2 xc2) ∧ w'.cell? ⟨b0, o0 + 6, none⟩ = some (.slice xa3 xn3 xc3) ∧ w'.cell? ⟨b0, o0 + 7, none⟩ = some (.int .i64 yk) ∧ w'.cell? ⟨b0, o0 + 8, none⟩ = some (.int .u64 yn) ∧ w'.cell? ⟨b0, o0 + 9, none⟩ = some (.string yt) ∧ w'.cell? ⟨b0, o0 + 10, none⟩ = some (.slice ya1 yn1 yc1) ∧ w'.cell? ⟨b0, o0 + 11, none⟩ = some (.string yr) ∧ w'.cell? ⟨b0, o0 + 12, none⟩ = some (.slice ya2 yn2 yc2) ∧ w'.cell? ⟨b0, o0 + 13, none⟩ = some (.slice ya3 yn3 yc3)) ∧ (w'.cell? ⟨w.heap.size, 0, none⟩ = some (.int .i64 tk) ∧ w'.cell? ⟨w.heap.size, 1, none⟩ = some (.int .u64 tn) ∧ w'.cell? ⟨w.heap.size, 2, none⟩ = some (.string tt) ∧ w'.cell? ⟨w.heap.size, 3, none⟩ = some (.slice ta1 tn1 tc1) ∧ w'.cell? ⟨w.heap.size, 4, none⟩ = some (.string tr) ∧ w'.cell? ⟨w.heap.size, 5, none⟩ = some (.slice ta2 tn2 tc2) ∧ w'.cell? ⟨w.heap.size, 6, none⟩ = some (.slice ta3 tn3 tc3)))) := by
     refine ⟨Nat.le_refl _, fun w' hb => ⟨⟨?_, ?_, ?_, ?_, ?_, ?_, ?_, ?_, ?_, ?_, ?_, ?_, ?_, ?_⟩, ?_, ?_, ?_, ?_, ?_, ?_, ?_⟩⟩
     all_goals
      rw [hb.cell (by first | exact hb0r | exact hwr)]
      assumption
    have HB : ∀ w', (((w'.cell? ⟨b0, o0, none⟩ = some (.int .i64 xk) ∧ w'.cell? ⟨b0, o0 + 1, none⟩ = some (.int .u64 xn) ∧ w'.cell? ⟨b0, o0 + 2, none⟩ = some (.string xt) ∧ w'.cell? ⟨b0, o0 + 3, none⟩ = some (.slice xa1 xn1 xc1) ∧ w'.cell? ⟨b0, o0 + 4, none⟩ = some (.string xr) ∧ w'.cell? ⟨b0, o0 + 5, none⟩ = some (.slice xa2 xn2 xc2) ∧ w'.cell? ⟨b0, o0 + 6, none⟩ = some (.slice xa3 xn3 xc3) ∧ w'.cell? ⟨b0, o0 + 7, none⟩ = some (.int .i64 yk) ∧ w'.cell? ⟨b0, o0 + 8, none⟩ = some (.int .u64 yn) ∧ w'.cell? ⟨b0, o0 + 9, none⟩ = some (.string yt) ∧ w'.cell? ⟨b0, o0 + 10, none⟩ = some (.slice ya1 yn1 yc1) ∧ w'.cell? ⟨b0, o0 + 11, none⟩ = some (.string yr) ∧ w'.cell? ⟨b0, o0 + 12, none⟩ = some (.slice ya2 yn2 yc2) ∧ w'.cell? ⟨b0, o0 + 13, none⟩ = some (.slice ya3 yn3 yc3)) ∧ (w'.cell? ⟨w.heap.size, 0, none⟩ = some (.int .i64 tk) ∧ w'.cell? ⟨w.heap.size, 1, none⟩ = some (.int .u64 tn) ∧ w'.cell? ⟨w.heap.size, 2, none⟩ = some (.string tt) ∧ w'.cell? ⟨w.heap.size, 3, none⟩ = some (.slice ta1 tn1 tc1) ∧ w'.cell? ⟨w.heap.size, 4, none⟩ = some (.string tr) ∧ w'.cell? ⟨w.heap.size, 5, none⟩ = some (.slice ta2 tn2 tc2) ∧ w'.cell? ⟨w.heap.size, 6, none⟩ = some (.slice ta3 tn3 tc3))) ∧ Below wr.heap.size wr w') → Below w.heap.size w w' ∧ Below (w.heap.size + 1) (w.alloc (.cells #[.int .i64 tk, .int .u64 tn, .string tt, .slice ta1 tn1 tc1, .string tr, .slice ta2 tn2 tc2, .slice ta3 tn3 tc3] 27)) w' := fun w' h => ⟨hbel.trans (h.2.mono hbel.size), Hbel1.out.trans (h.2.mono (by omega))⟩
    have HB := Yq HB; have HK := Yq HK
    by_cases hyx : c pos = 0
    ·have gy : (c pos == 0) = true := by simpa using hyx
     have Hyx := Yq hyx
     clear hyx
     generalize c pos = cm at *
     go_wp2_with fail
     go_region_held3 (fun w' => ((w'.cell? ⟨b0, o0, none⟩ = some (.int .i64 xk) ∧ w'.cell? ⟨b0, o0 + 1, none⟩ = some (.int .u64 xn) ∧ w'.cell? ⟨b0, o0 + 2, none⟩ = some (.string xt) ∧ w'.cell? ⟨b0, o0 + 3, none⟩ = some (.slice xa1 xn1 xc1) ∧ w'.cell? ⟨b0, o0 + 4, none⟩ = some (.string xr) ∧ w'.cell? ⟨b0, o0 + 5, none⟩ = some (.slice xa2 xn2 xc2) ∧ w'.cell? ⟨b0, o0 + 6, none⟩ = some (.slice xa3 xn3 xc3) ∧ w'.cell? ⟨b0, o0 + 7, none⟩ = some (.int .i64 yk) ∧ w'.cell? ⟨b0, o0 + 8, none⟩ = some (.int .u64 yn) ∧ w'.cell? ⟨b0, o0 + 9, none⟩ = some (.string yt) ∧ w'.cell? ⟨b0, o0 + 10, none⟩ = some (.slice ya1 yn1 yc1) ∧ w'.cell? ⟨b0, o0 + 11, none⟩ = some (.string yr) ∧ w'.cell? ⟨b0, o0 + 12, none⟩ = some (.slice ya2 yn2 yc2) ∧ w'.cell? ⟨b0, o0 + 13, none⟩ = some (.slice ya3 yn3 yc3)) ∧ (w'.cell? ⟨w.heap.size, 0, none⟩ = some (.int .i64 tk) ∧ w'.cell? ⟨w.heap.size, 1, none⟩ = some (.int .u64 tn) ∧ w'.cell? ⟨w.heap.size, 2, none⟩ = some (.string tt) ∧ w'.cell? ⟨w.heap.size, 3, none⟩ = some (.slice ta1 tn1 tc1) ∧ w'.cell? ⟨w.heap.size, 4, none⟩ = some (.string tr) ∧ w'.cell? ⟨w.heap.size, 5, none⟩ = some (.slice ta2 tn2 tc2) ∧ w'.cell? ⟨w.heap.size, 6, none⟩ = some (.slice ta3 tn3 tc3))) ∧ Below wr.heap.size wr w')
      (first | assumption | exact HK.out.start | exact HK.out.call (by assumption) (by assumption) | exact HK.out.alloc (by assumption) _)
      (first
      | (go_at_fn g; refine (Hcall.out _ (HB.out _ (by assumption)).1).mono ?_; rintro e w3 ⟨rfl, hb3⟩))
     all_goals
      go_wp2_with fail
      go_ret2
      exact ⟨by rw [Hfin.out, Hyx.out]; simp [hlt2], (HB.out _ (by assumption)).1⟩
    ·have gy : (c pos == 0) = false := by simpa using hyx
     have Hyx := Yq hyx
     clear hyx
     generalize c pos = cm at *
     go_wp2_with fail
     go_region_held3 (fun w' => ((w'.cell? ⟨b0, o0, none⟩ = some (.int .i64 xk) ∧ w'.cell? ⟨b0, o0 + 1, none⟩ = some (.int .u64 xn) ∧ w'.cell? ⟨b0, o0 + 2, none⟩ = some (.string xt) ∧ w'.cell? ⟨b0, o0 + 3, none⟩ = some (.slice xa1 xn1 xc1) ∧ w'.cell? ⟨b0, o0 + 4, none⟩ = some (.string xr) ∧ w'.cell? ⟨b0, o0 + 5, none⟩ = some (.slice xa2 xn2 xc2) ∧ w'.cell? ⟨b0, o0 + 6, none⟩ = some (.slice xa3 xn3 xc3) ∧ w'.cell? ⟨b0, o0 + 7, none⟩ = some (.int .i64 yk) ∧ w'.cell? ⟨b0, o0 + 8, none⟩ = some (.int .u64 yn) ∧ w'.cell? ⟨b0, o0 + 9, none⟩ = some (.string yt) ∧ w'.cell? ⟨b0, o0 + 10, none⟩ = some (.slice ya1 yn1 yc1) ∧ w'.cell? ⟨b0, o0 + 11, none⟩ = some (.string yr) ∧ w'.cell? ⟨b0, o0 + 12, none⟩ = some (.slice ya2 yn2 yc2) ∧ w'.cell? ⟨b0, o0 + 13, none⟩ = some (.slice ya3 yn3 yc3)) ∧ (w'.cell? ⟨w.heap.size, 0, none⟩ = some (.int .i64 tk) ∧ w'.cell? ⟨w.heap.size, 1, none⟩ = some (.int .u64 tn) ∧ w'.cell? ⟨w.heap.size, 2, none⟩ = some (.string tt) ∧ w'.cell? ⟨w.heap.size, 3, none⟩ = some (.slice ta1 tn1 tc1) ∧ w'.cell? ⟨w.heap.size, 4, none⟩ = some (.string tr) ∧ w'.cell? ⟨w.heap.size, 5, none⟩ = some (.slice ta2 tn2 tc2) ∧ w'.cell? ⟨w.heap.size, 6, none⟩ = some (.slice ta3 tn3 tc3))) ∧ Below wr.heap.size wr w')
      (first | assumption | exact HK.out.start | exact HK.out.call (by assumption) (by assumption) | exact HK.out.alloc (by assumption) _)
      (first
      | (go_at_fn g; refine (Hcall.out _ (HB.out _ (by assumption)).1).mono ?_; rintro e w3 ⟨rfl, hb3⟩))
     all_goals
      go_wp2_with fail
      go_ret2
      exact ⟨by rw [Hfin.out]; simp [hlt2, Hyx.out], (HB.out _ (by assumption)).1⟩
   ·have gn : decide (pos < n) = false := decide_eq_false hlt2
    go_wp2_with fail
    go_quiet (fail)
    go_wp2_with fail
    go_ret2
    exact ⟨by rw [Hfin.out]; simp [hlt2], Below.drewN hbel _⟩
end Go.Proofs.YtebekgdjknenlaaGreatDoor
