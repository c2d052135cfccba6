/- slices.BinarySearchFunc of fields and of pairs, walked. -/
import Derived.Test.YtkldcjlkeblggaaDoorVCmp
import Derived.Test.YtkldcjlkeblggaaDoorGroupB
import Derived.IntWalk
namespace Go.Proofs.YtkldcjlkeblggaaDoor
open Go.RowKit
open Val (V cmp firstGe)
set_option linter.unusedVariables false

set_option maxRecDepth 100000 in
set_option maxHeartbeats 4000000 in
theorem binsearch_fld (es : List (List Value)) (tg : Int) (c : Nat → Int) (v : Value) (g : Nat) (w : World) (hv : FlatC 8 (frag w) v es) (hse : ∀ e ∈ es, Fld8 e)
    (hg : ∀ args wx, (callFunc g args).run Tryd.prog wx = .ok (.enter g args) wx)
    (hmono : ∀ i j, i ≤ j → j < es.length → c j < 0 → c i < 0) (hbig : es.length < 4611686018427387904)
    (hc : ∀ (i : Nat) (h1 : i < es.length) (wx : World), Below w.heap.size w wx → Calls Tryd.prog g #[.agg es[i].toArray, .int .i64 tg] wx fun e w' => e = .returned (.int .i64 (c i)) ∧ Below wx.heap.size wx w') :
    Calls Tryd.prog 75 #[v, .int .i64 tg, .func (.func g) #[] #[]] w fun e w' =>
      e = .returned (.tuple #[.int .i64 (firstGe c es.length : Nat), .bool (decide (firstGe c es.length < es.length) && decide (c (firstGe c es.length) = 0))]) ∧ Below w.heap.size w w' := by
  obtain ⟨a, cap, rfl, hc1, hc2, _⟩ := hv.len
  have HX := Lib.hid hv; have HC := Lib.hid hc; have HSE := Lib.hid hse; have M := Lib.hid hmono
  unfold maxLen at hc2
  clear hv hc hse hmono
  obtain ⟨n, hn⟩ : ∃ n, n = es.length := ⟨_, rfl⟩
  rw [← hn] at HX hc1 M hbig ⊢
  have Hn := Lib.hid hn.symm; clear hn
  obtain ⟨pos, hpos⟩ : ∃ pos, pos = firstGe c n := ⟨_, rfl⟩
  obtain ⟨fin, hfin⟩ : ∃ fin, fin = (decide (pos < n) && decide (c pos = 0)) := ⟨_, rfl⟩
  rw [← hpos, ← hfin]
  have Hpos := Lib.hid hpos; have Hfin := Lib.hid hfin
  clear hpos hfin
  go_enter Tryd.func75, Tryd.ntmps75
  go_wp2_with fail
  go_loopg [9, 10] n (fun kx s9 s10 wr => ∃ lo hi : Nat, s9 = .int .i64 lo ∧ s10 = .int .i64 hi ∧ lo ≤ hi ∧ hi ≤ n ∧ hi - lo ≤ kx ∧ Below w.heap.size w wr ∧
    Hid ((∀ t, t < lo → c t < 0) ∧ (∀ t, hi ≤ t → t < n → 0 ≤ c t)))
  case atStart => exact ⟨0, n, rfl, rfl, Nat.zero_le _, Nat.le_refl _, by omega, (Below.refl _ _), (⟨fun t ht => absurd ht (Nat.not_lt_zero _), fun t h1 h2 => by omega⟩ : (∀ t, t < 0 → c t < 0) ∧ (∀ t, n ≤ t → t < n → 0 ≤ c t))⟩
  case round =>
    obtain ⟨lo, hi, rfl, rfl, hlh, hin, hg', hbel, Inv⟩ := hrel
    by_cases hlt : lo < hi
    · have hks : (lo + hi) / 2 < es.length := by rw [Hn.out]; omega
      obtain ⟨b0, o0, hb0, hidx, hcell⟩ := FlatC.at (n := n) (cap := cap) (a := a) HX.out (by decide) (i := (lo + hi) / 2) hks Tryd.underlying23 sizeFld
      obtain ⟨xm, _, ⟨xk, xn, xt, xr, xa1, xn1, xc1, xa2, xn2, xc2, xa3, xn3, xc3, rfl⟩, hx⟩ := HSE.out es[(lo + hi) / 2] (List.getElem_mem _)
      rw [hx] at hcell
      have c0 := (hbel.cell (p := ⟨b0, o0 + 0, none⟩) hb0).trans (hcell 0 _ rfl)
      have c1 := (hbel.cell (p := ⟨b0, o0 + 1, none⟩) hb0).trans (hcell 1 _ rfl)
      have c2 := (hbel.cell (p := ⟨b0, o0 + 2, none⟩) hb0).trans (hcell 2 _ rfl)
      have c3 := (hbel.cell (p := ⟨b0, o0 + 3, none⟩) hb0).trans (hcell 3 _ rfl)
      have c4 := (hbel.cell (p := ⟨b0, o0 + 4, none⟩) hb0).trans (hcell 4 _ rfl)
      have c5 := (hbel.cell (p := ⟨b0, o0 + 5, none⟩) hb0).trans (hcell 5 _ rfl)
      have c6 := (hbel.cell (p := ⟨b0, o0 + 6, none⟩) hb0).trans (hcell 6 _ rfl)
      have c7 := (hbel.cell (p := ⟨b0, o0 + 7, none⟩) hb0).trans (hcell 7 _ rfl)
      rw [Nat.add_zero] at c0
      have hcall := fun wx hb => HC.out ((lo + hi) / 2) hks wx hb
      rw [hx] at hcall
      have Hcall := Lib.hid hcall
      clear hcell hx hcall
      rw [show ((((lo + hi) / 2 : Nat)) : Int) = ((lo : Int) + (hi : Int)) / 2 by omega] at hidx
      by_cases hyx : c ((lo + hi) / 2) < 0
      · have gy : decide (c ((lo + hi) / 2) < 0) = true := decide_eq_true hyx
        have I2 : Hid ((∀ t, t < (lo + hi) / 2 + 1 → c t < 0) ∧ (∀ t, hi ≤ t → t < n → 0 ≤ c t)) := ⟨fun t ht => M.out t ((lo + hi) / 2) (by omega) (by omega) hyx, Inv.out.2⟩
        generalize c ((lo + hi) / 2) = cm at *
        go_wp2_with fail
        go_at_fn g
        refine (Hcall.out _ hbel).mono ?_
        rintro e w3 ⟨rfl, hb3⟩
        go_wp2_with fail
        go_roundg (hi - ((lo + hi) / 2 + 1))
        case measure => omega
        case rel => exact ⟨(lo + hi) / 2 + 1, hi, by rw [show ((lo : Int) + (hi : Int)) / 2 + 1 = (((lo + hi) / 2 + 1 : Nat) : Int) by omega], rfl, by omega, hin, Nat.le_refl _, (hbel.trans (hb3.mono hbel.size)), I2⟩
      · have gy : decide (c ((lo + hi) / 2) < 0) = false := decide_eq_false hyx
        have I2 : Hid ((∀ t, t < lo → c t < 0) ∧ (∀ t, (lo + hi) / 2 ≤ t → t < n → 0 ≤ c t)) := ⟨Inv.out.1, fun t ht htn => Int.not_lt.1 fun h => hyx (M.out ((lo + hi) / 2) t ht htn h)⟩
        generalize c ((lo + hi) / 2) = cm at *
        go_wp2_with fail
        go_at_fn g
        refine (Hcall.out _ hbel).mono ?_
        rintro e w3 ⟨rfl, hb3⟩
        go_wp2_with fail
        go_roundg ((lo + hi) / 2 - lo)
        case measure => omega
        case rel => exact ⟨lo, (lo + hi) / 2, rfl, by rw [show ((lo : Int) + (hi : Int)) / 2 = (((lo + hi) / 2 : Nat) : Int) by omega], by omega, by omega, Nat.le_refl _, (hbel.trans (hb3.mono hbel.size)), I2⟩
    · obtain rfl : hi = lo := by omega
      have epos : pos = hi := by rw [Hpos.out]; exact Val.firstGe_of c n hi hin Inv.out.1 (fun h => Inv.out.2 hi (Nat.le_refl _) h)
      subst epos
      by_cases hlt2 : pos < n
      · have hks : pos < es.length := by rw [Hn.out]; omega
        obtain ⟨b0, o0, hb0, hidx, hcell⟩ := FlatC.at (n := n) (cap := cap) (a := a) HX.out (by decide) (i := pos) hks Tryd.underlying23 sizeFld
        obtain ⟨xm, _, ⟨xk, xn, xt, xr, xa1, xn1, xc1, xa2, xn2, xc2, xa3, xn3, xc3, rfl⟩, hx⟩ := HSE.out es[pos] (List.getElem_mem _)
        rw [hx] at hcell
        have c0 := (hbel.cell (p := ⟨b0, o0 + 0, none⟩) hb0).trans (hcell 0 _ rfl)
        have c1 := (hbel.cell (p := ⟨b0, o0 + 1, none⟩) hb0).trans (hcell 1 _ rfl)
        have c2 := (hbel.cell (p := ⟨b0, o0 + 2, none⟩) hb0).trans (hcell 2 _ rfl)
        have c3 := (hbel.cell (p := ⟨b0, o0 + 3, none⟩) hb0).trans (hcell 3 _ rfl)
        have c4 := (hbel.cell (p := ⟨b0, o0 + 4, none⟩) hb0).trans (hcell 4 _ rfl)
        have c5 := (hbel.cell (p := ⟨b0, o0 + 5, none⟩) hb0).trans (hcell 5 _ rfl)
        have c6 := (hbel.cell (p := ⟨b0, o0 + 6, none⟩) hb0).trans (hcell 6 _ rfl)
        have c7 := (hbel.cell (p := ⟨b0, o0 + 7, none⟩) hb0).trans (hcell 7 _ rfl)
        rw [Nat.add_zero] at c0
        have hcall := fun wx hb => HC.out (pos) hks wx hb
        rw [hx] at hcall
        have Hcall := Lib.hid hcall
        clear hcell hx hcall
        by_cases hyx : c pos = 0
        · have gy : (c pos == 0) = true := by simpa using hyx
          have Hyx := Lib.hid hyx
          clear hyx
          generalize c pos = cm at *
          go_wp2_with fail
          go_at_fn g
          refine (Hcall.out _ hbel).mono ?_
          rintro e w3 ⟨rfl, hb3⟩
          go_wp2_with fail
          go_ret2
          exact ⟨by rw [Hfin.out, Hyx.out]; simp [hlt2], (hbel.trans (hb3.mono hbel.size))⟩
        · have gy : (c pos == 0) = false := by simpa using hyx
          have Hyx := Lib.hid hyx
          clear hyx
          generalize c pos = cm at *
          go_wp2_with fail
          go_at_fn g
          refine (Hcall.out _ hbel).mono ?_
          rintro e w3 ⟨rfl, hb3⟩
          go_wp2_with fail
          go_ret2
          exact ⟨by rw [Hfin.out]; simp [hlt2, Hyx.out], (hbel.trans (hb3.mono hbel.size))⟩
      · have gn : decide (pos < n) = false := decide_eq_false hlt2
        go_wp2_with fail
        go_ret2
        exact ⟨by rw [Hfin.out]; simp [hlt2], hbel⟩

end Go.Proofs.YtkldcjlkeblggaaDoor
