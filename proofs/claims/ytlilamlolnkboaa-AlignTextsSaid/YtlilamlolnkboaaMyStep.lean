/- myers.behind: first, step, walked. -/
import Derived.Test.YtlilamlolnkboaaMyBehind
import Derived.Lib.MinMax
namespace Go.Proofs.Ytlilamlolnkboaa
open Go.RowKit Go.WideShapes
open My (D Least Slid Ok U cand1 cand2)
set_option linter.unusedVariables false

def RowsOk (xs ys : List Int) (N : Nat) (rows : List (List Int)) : Prop :=
  ∀ e, e < N → ∃ h : e < rows.length, rows[e].length = 2 * e + 1 ∧ ∀ i (hi : i < rows[e].length), Least xs ys e (((xs.length : Int) - ys.length) + i - e) rows[e][i]

theorem RowsOk.least {xs ys : List Int} {N : Nat} {rows : List (List Int)} (h : RowsOk xs ys N rows) {e : Nat} (he : e < N) {d r : Int} (hr : leastR xs ys rows e d r) : Least xs ys e d r := by
  obtain ⟨h1, h2, h3⟩ := h e he
  obtain ⟨_, ⟨hor, rfl⟩ | ⟨i, hi, hie, rfl⟩⟩ := hr
  · refine Least.far ?_
    rw [h2] at hor
    omega
  · have := h3 i hi
    have e2 : ((xs.length : Int) - ys.length) + i - e = d := by omega
    rw [e2] at this
    exact this

def IntPost (R : Int → Prop) (w : World) (e : Ending) (w' : World) : Prop := ∃ r : Int, e = .returned (.int .i64 r) ∧ R r ∧ Below w.heap.size w w'

set_option maxRecDepth 100000 in
set_option maxHeartbeats 4000000 in
theorem first_any (b : Nat) (xs ys : List Int) (va vb vr : Value) (rows : List (List Int)) (w : World) (hv : BV (frag w) b xs ys rows va vb vr) (hx : xs.length < 1000000) (hy : ys.length < 1000000) (d : Int) (hd1 : -ys.length ≤ d) (hd2 : d ≤ xs.length) :
    Calls Try.prog 34 #[.pointer (some ⟨b, 0, none⟩), .int .i64 d] w (IntPost (Least xs ys 0 d) w) := by
  have He := Lib.hid (end_any b xs ys va vb vr rows w hv hx hy)
  obtain ⟨a1, p1, rfl, h1, h2, _⟩ := hv.2.1.len
  have Hv := Lib.hid hv
  have Hs := Lib.hid (fun w' (h : Below w.heap.size w w') => slide_any b xs ys (.slice a1 xs.length p1) vb vr rows w' (hv.mono (below_le h)) hx hy xs.length d (Nat.le_refl _) hd2)
  clear hv
  have Hx := Lib.hid hx; have Hy := Lib.hid hy
  unfold maxLen at h2
  go_enter Try.func34, Try.ntmps34
  go_wp2_with fail
  refine He.out.mono ?_
  rintro e w1 ⟨rfl, hb1⟩
  obtain ⟨hc0, hc1, hc2, hb⟩ := (Hv.out.mono (below_le hb1)).cells
  by_cases hd : d = (xs.length : Int) - ys.length
  · have hq : (d != (xs.length : Int) - ys.length) = false := by simpa using hd
    have Hd := Lib.hid hd; clear hd
    go_wp2_with fail
    refine (Hs.out w1 hb1 (by have := Hd.out; omega)).mono ?_
    rintro e w2 ⟨r, rfl, hs, hr, hb2⟩
    go_wp2_with fail
    go_ret
    exact ⟨_, rfl, Least.first Hd.out hs hr, hb1.trans (hb2.mono hb1.size)⟩
  · have hq : (d != (xs.length : Int) - ys.length) = true := by simpa using hd
    have Hd := Lib.hid hd; clear hd
    go_wp2_with fail
    go_ret
    exact ⟨_, rfl, Least.first_no Hd.out, hb1⟩

set_option maxRecDepth 100000 in
set_option maxHeartbeats 8000000 in
theorem step_any (b : Nat) (xs ys : List Int) (va vb vr : Value) (rows : List (List Int)) (w : World) (hv : BV (frag w) b xs ys rows va vb vr) (hx : xs.length < 1000000) (hy : ys.length < 1000000) (k : Nat) (d : Int) (hk : RowsOk xs ys k rows) (hk2 : k < 1000000)
    (hd1 : -9000000 < d) (hd2 : d < 9000000) : Calls Try.prog 31 #[.pointer (some ⟨b, 0, none⟩), .int .i64 k, .int .i64 d] w (IntPost (Least xs ys k d) w) := by
  obtain ⟨a1, p1, rfl, h1, h2, _⟩ := hv.2.1.len
  obtain ⟨a2, p2, rfl, h3, h4, _⟩ := hv.2.2.1.len
  unfold maxLen at h2 h4
  obtain ⟨hc0, hc1, hc2, hb⟩ := hv.cells
  have Hv := Lib.hid hv; have Hx := Lib.hid hx; have Hy := Lib.hid hy; have Hk := Lib.hid hk
  clear hv hk
  by_cases hlo : d < -(ys.length : Int)
  · have hout : Hid (Least xs ys k d U) := Least.out (.inl hlo)
    go_enter Try.func31, Try.ntmps31
    go_wp2_with fail
    go_ret
    exact ⟨_, rfl, hout.out, Below.refl _ _⟩
  by_cases hhi : (xs.length : Int) < d
  · have hout : Hid (Least xs ys k d U) := Least.out (.inr hhi)
    go_enter Try.func31, Try.ntmps31
    go_wp2_with fail
    go_ret
    exact ⟨_, rfl, hout.out, Below.refl _ _⟩
  cases k with
  | zero =>
    have Hf := Lib.hid (first_any b xs ys _ _ vr rows w Hv.out hx hy d (by omega) (by omega))
    go_enter Try.func31, Try.ntmps31
    go_wp2_with fail
    refine Hf.out.mono ?_
    rintro e w1 ⟨r, rfl, hr, hb1⟩
    go_wp2_with fail
    go_ret
    exact ⟨_, rfl, hr, hb1⟩
  | succ k =>
    have hkl : k < rows.length := (Hk.out k (by omega)).1
    have HL := Lib.hid (fun w' (h : Below w.heap.size w w') (d' : Int) (g1 : -10000000 < d') (g2 : d' < 10000000) => least_any b xs ys _ _ vr rows w' (Hv.out.mono (below_le h)) hx hy k d' hkl (by omega) g1 g2)
    have Hsl := Lib.hid (fun w' (h : Below w.heap.size w w') => slide_any b xs ys _ _ vr rows w' (Hv.out.mono (below_le h)) hx hy)
    clear hkl
    go_enter Try.func31, Try.ntmps31
    go_wp2_with fail
    refine (HL.out w (Below.refl _ _) d (by omega) (by omega)).mono ?_
    rintro e w1 ⟨l0, rfl, hl0, hb1⟩
    have L0 := Lib.hid (Hk.out.least (by omega) hl0)
    clear hl0
    go_wp2_with fail
    refine (HL.out w1 hb1 (d + 1) (by omega) (by omega)).mono ?_
    rintro e w2 ⟨l1, rfl, hl1, hb2⟩
    have L1 := Lib.hid (Hk.out.least (by omega) hl1)
    have hb12 := hb1.trans (hb2.mono hb1.size)
    clear hl1
    have hn0 := L0.out.nonneg; have hu0 := L0.out.le_U Hx.out
    have hn1 := L1.out.nonneg; have hu1 := L1.out.le_U Hx.out
    unfold U at hu0 hu1
    obtain ⟨c1, hc1'⟩ : ∃ c, c = cand1 d l0 l1 := ⟨_, rfl⟩
    have hcc1 : 0 ≤ c1 ∧ c1 ≤ 1073741824 := by rw [hc1']; unfold cand1; split <;> omega
    obtain ⟨hcc1, hcc2⟩ := hcc1
    have HC1 := Lib.hid hc1'
    have fin : ∀ (l2 : Int) (w3 : World), Hid (Least xs ys k (d - 1) l2) → Below w.heap.size w w3 →
        Hid ((cand2 d c1 l2 = U → Least xs ys (k + 1) d U) ∧ (cand2 d c1 l2 ≠ U → ∃ x : Nat, cand2 d c1 l2 = x ∧ Calls Try.prog 35 #[.pointer (some ⟨b, 0, none⟩), .int .i64 (x : Nat), .int .i64 d] w3 fun e w' => ∃ r : Nat, e = .returned (.int .i64 r) ∧ Least xs ys (k + 1) d r ∧ Below w3.heap.size w3 w')) := by
      intro l2 w3 L2 hb3
      have := Least.step Hx.out Hy.out (by omega) (by omega) L0.out L1.out L2.out
      rw [← HC1.out] at this
      refine ⟨this.1, fun hne => ?_⟩
      obtain ⟨x, hx1, hx2, hx3, hx4, hx5⟩ := this.2 hne
      refine ⟨x, hx1, (Hsl.out w3 hb3 x d hx2 hx3 hx4).mono ?_⟩
      rintro e w' ⟨r, rfl, hs, hr, hb⟩
      exact ⟨r, rfl, hx5 r hs hr, hb⟩
    have Fin := Lib.hid fin
    clear fin
    have hbw : Hid (Below w.heap.size w w2) := hb12
    by_cases e1 : l1 = 1073741824
    · have hq1 : (l1 != 1073741824) = false := by simpa using e1
      have hc0' : c1 = l0 := by rw [hc1']; unfold cand1 U; rw [if_pos e1]
      rw [hc0'] at Fin hcc1 hcc2 HC1
      have E1 := Lib.hid e1
      clear e1 hc1' hc0'
      go_wp2_with fail
      refine (HL.out w2 hb12 (d - 1) (by omega) (by omega)).mono ?_
      rintro e w3 ⟨l2, rfl, hl2, hb3⟩
      have L2 := Lib.hid (Hk.out.least (by omega) hl2)
      have hb13 := hb12.trans (hb3.mono hb12.size)
      clear hl2
      have hn2 := L2.out.nonneg; have hu2 := L2.out.le_U Hx.out
      unfold U at hu2
      have Fn := Lib.hid (Fin.out l2 w3 L2 hb13)
      by_cases e2 : l2 = 1073741824
      · have hq2 : (l2 != 1073741824) = false := by simpa using e2
        have hcd : cand2 d l0 l2 = l0 := by unfold cand2 U; rw [if_pos e2]
        rw [hcd] at Fn
        have E2 := Lib.hid e2
        clear e2 hcd
        by_cases e3 : l0 = 1073741824
        · have hq3 : (l0 == 1073741824) = true := by simpa using e3
          have E3 := Lib.hid e3; clear e3
          go_wp2_with fail
          go_ret
          exact ⟨_, rfl, by have := Fn.out.out.1 E3.out; rw [E3.out]; exact this, hb13⟩
        · have hq3 : (l0 == 1073741824) = false := by simpa using e3
          obtain ⟨x, hx1, hx2⟩ := Fn.out.out.2 e3
          have Hx2 := Lib.hid hx2
          subst hx1
          clear e3 hx2
          go_wp2_with fail
          refine Hx2.out.mono ?_
          rintro e w4 ⟨r, rfl, hr, hb4⟩
          go_wp2_with fail
          go_ret
          exact ⟨_, rfl, hr, hb13.trans (hb4.mono hb13.size)⟩
      · have hq2 : (l2 != 1073741824) = true := by simpa using e2
        obtain ⟨c2, hc2'⟩ : ∃ c, c = min l0 (max l2 (max d 0)) := ⟨_, rfl⟩
        have hcd : cand2 d l0 l2 = c2 := by unfold cand2 U; rw [if_neg e2, hc2']
        rw [hcd] at Fn
        have hc2s := hc2'.symm
        clear e2 hcd hc2'
        by_cases e3 : c2 = 1073741824
        · have hq3 : (c2 == 1073741824) = true := by simpa using e3
          have E3 := Lib.hid e3; clear e3
          go_wp2_with fail
          go_ret
          exact ⟨_, rfl, by have := Fn.out.out.1 E3.out; rw [E3.out]; exact this, hb13⟩
        · have hq3 : (c2 == 1073741824) = false := by simpa using e3
          obtain ⟨x, hx1, hx2⟩ := Fn.out.out.2 e3
          have Hx2 := Lib.hid hx2
          subst hx1
          clear e3 hx2
          go_wp2_with fail
          refine Hx2.out.mono ?_
          rintro e w4 ⟨r, rfl, hr, hb4⟩
          go_wp2_with fail
          go_ret
          exact ⟨_, rfl, hr, hb13.trans (hb4.mono hb13.size)⟩
    · have hq1 : (l1 != 1073741824) = true := by simpa using e1
      have hc0' : min l0 (max (l1 - 1) (max d 0)) = c1 := by rw [hc1']; unfold cand1 U; rw [if_neg e1]
      clear e1 hc1'
      go_wp2_with fail
      refine (HL.out w2 hb12 (d - 1) (by omega) (by omega)).mono ?_
      rintro e w3 ⟨l2, rfl, hl2, hb3⟩
      have L2 := Lib.hid (Hk.out.least (by omega) hl2)
      have hb13 := hb12.trans (hb3.mono hb12.size)
      clear hl2
      have hn2 := L2.out.nonneg; have hu2 := L2.out.le_U Hx.out
      unfold U at hu2
      have Fn := Lib.hid (Fin.out l2 w3 L2 hb13)
      by_cases e2 : l2 = 1073741824
      · have hq2 : (l2 != 1073741824) = false := by simpa using e2
        have hcd : cand2 d c1 l2 = c1 := by unfold cand2 U; rw [if_pos e2]
        rw [hcd] at Fn
        have E2 := Lib.hid e2
        clear e2 hcd
        by_cases e3 : c1 = 1073741824
        · have hq3 : (c1 == 1073741824) = true := by simpa using e3
          have E3 := Lib.hid e3; clear e3
          go_wp2_with fail
          go_ret
          exact ⟨_, rfl, by have := Fn.out.out.1 E3.out; rw [E3.out]; exact this, hb13⟩
        · have hq3 : (c1 == 1073741824) = false := by simpa using e3
          obtain ⟨x, hx1, hx2⟩ := Fn.out.out.2 e3
          have Hx2 := Lib.hid hx2
          subst hx1
          clear e3 hx2
          go_wp2_with fail
          refine Hx2.out.mono ?_
          rintro e w4 ⟨r, rfl, hr, hb4⟩
          go_wp2_with fail
          go_ret
          exact ⟨_, rfl, hr, hb13.trans (hb4.mono hb13.size)⟩
      · have hq2 : (l2 != 1073741824) = true := by simpa using e2
        obtain ⟨c2, hc2'⟩ : ∃ c, c = min c1 (max l2 (max d 0)) := ⟨_, rfl⟩
        have hcd : cand2 d c1 l2 = c2 := by unfold cand2 U; rw [if_neg e2, hc2']
        rw [hcd] at Fn
        have hc2s := hc2'.symm
        clear e2 hcd hc2'
        by_cases e3 : c2 = 1073741824
        · have hq3 : (c2 == 1073741824) = true := by simpa using e3
          have E3 := Lib.hid e3; clear e3
          go_wp2_with fail
          go_ret
          exact ⟨_, rfl, by have := Fn.out.out.1 E3.out; rw [E3.out]; exact this, hb13⟩
        · have hq3 : (c2 == 1073741824) = false := by simpa using e3
          obtain ⟨x, hx1, hx2⟩ := Fn.out.out.2 e3
          have Hx2 := Lib.hid hx2
          subst hx1
          clear e3 hx2
          go_wp2_with fail
          refine Hx2.out.mono ?_
          rintro e w4 ⟨r, rfl, hr, hb4⟩
          go_wp2_with fail
          go_ret
          exact ⟨_, rfl, hr, hb13.trans (hb4.mono hb13.size)⟩

end Go.Proofs.Ytlilamlolnkboaa
