/- myers.behind: end, shift, slide, first, least, step, edits, walked. -/
import Derived.Test.YtlilamlolnkboaaMyPlain
import Derived.Test.YtlilamlolnkboaaCarry
import Derived.Test.YtlilamlolnkboaaSlice
import Derived.Test.YtlilamlolnkboaaOwnRows
import Derived.IntWalk
namespace Go.Proofs.Ytlilamlolnkboaa
open Go.RowKit Go.WideShapes
open My (D Least Slid Ok U)
set_option linter.unusedVariables false

/-- a 'behind' in block b -/
def BV (h : Frag) (b : Nat) (xs ys : List Int) (rows : List (List Int)) (va vb vr : Value) : Prop :=
  (∃ t, h b = some (.cells #[va, vb, vr] t (0, 0))) ∧ ListV IntR h va xs ∧ ListV IntR h vb ys ∧ ListV (ListV IntR) h vr rows

theorem ints_mono (h h' : Frag) (v : Value) (x : List Int) (hle : FLe h h') (hr : ListV IntR h v x) : ListV IntR h' v x := ListV.mono IntR.mono hr hle
theorem BV.mono {h h' : Frag} {b : Nat} {xs ys : List Int} {rows : List (List Int)} {va vb vr : Value} (hv : BV h b xs ys rows va vb vr) (hl : FLe h h') : BV h' b xs ys rows va vb vr :=
  ⟨hv.1.imp fun t ht => hl _ _ ht, ListV.mono IntR.mono hv.2.1 hl, ListV.mono IntR.mono hv.2.2.1 hl, ListV.mono ints_mono hv.2.2.2 hl⟩
theorem BV.cells {w : World} {b : Nat} {xs ys : List Int} {rows : List (List Int)} {va vb vr : Value} (hv : BV (frag w) b xs ys rows va vb vr) : w.cell? ⟨b, 0, none⟩ = some va ∧ w.cell? ⟨b, 1, none⟩ = some vb ∧ w.cell? ⟨b, 2, none⟩ = some vr ∧ b < w.heap.size := by
  obtain ⟨⟨t, ht⟩, _⟩ := hv
  refine ⟨?_, ?_, ?_, heap_lt ht⟩
  · rw [cell_of_row w b 0 _ t _ ht]; rfl
  · rw [cell_of_row w b 1 _ t _ ht]; rfl
  · rw [cell_of_row w b 2 _ t _ ht]; rfl

set_option maxRecDepth 100000 in
set_option maxHeartbeats 1000000 in
theorem end_any (b : Nat) (xs ys : List Int) (va vb vr : Value) (rows : List (List Int)) (w : World) (hv : BV (frag w) b xs ys rows va vb vr) (hx : xs.length < 1000000) (hy : ys.length < 1000000) :
    Calls Try.prog 32 #[.pointer (some ⟨b, 0, none⟩)] w fun e w' => e = .returned (.int .i64 ((xs.length : Int) - ys.length)) ∧ Below w.heap.size w w' := by
  obtain ⟨hc0, hc1, hc2, hb⟩ := hv.cells
  obtain ⟨a1, p1, rfl, h1, h2, _⟩ := hv.2.1.len
  obtain ⟨a2, p2, rfl, h3, h4, _⟩ := hv.2.2.1.len
  unfold maxLen at h2 h4
  generalize xs.length = n at *
  generalize ys.length = m at *
  clear hv
  go_enter Try.func32, Try.ntmps32
  go_wp2
  go_quiet (fail)
  go_wp2
  go_ret
  exact ⟨rfl, by first | exact Below.drewN (Below.refl _ _) _ | exact (Below.refl _ _).drew⟩

set_option maxRecDepth 100000 in
set_option maxHeartbeats 1000000 in
theorem shift_any (v : Value) (n : Int) (w : World) :
    Calls Try.prog 33 #[v, .int .i64 n] w fun e w' => e = .returned (.int .i64 n) ∧ Below w.heap.size w w' := by
  go_enter Try.func33, Try.ntmps33
  go_wp2
  go_ret
  exact ⟨rfl, Below.refl _ _⟩

set_option maxRecDepth 100000 in
set_option maxHeartbeats 4000000 in
theorem slide_any (b : Nat) (xs ys : List Int) (va vb vr : Value) (rows : List (List Int)) (w : World) (hv : BV (frag w) b xs ys rows va vb vr) (hx : xs.length < 1000000) (hy : ys.length < 1000000) (x : Nat) (d : Int) (hxx : x ≤ xs.length) (hd : d ≤ x) (hyy : (x : Int) - d ≤ ys.length) :
    Calls Try.prog 35 #[.pointer (some ⟨b, 0, none⟩), .int .i64 x, .int .i64 d] w fun e w' => ∃ r : Nat, e = .returned (.int .i64 r) ∧ Slid xs ys d x r ∧ d ≤ r ∧ Below w.heap.size w w' := by
  obtain ⟨hc0, hc1, hc2, hb⟩ := hv.cells
  obtain ⟨a1, p1, rfl, h1, h2, _⟩ := hv.2.1.len
  obtain ⟨a2, p2, rfl, h3, h4, _⟩ := hv.2.2.1.len
  unfold maxLen at h2 h4
  have HX := Lib.hid hv.2.1; have HY := Lib.hid hv.2.2.1
  clear hv
  generalize hn : xs.length = n at *
  generalize hm : ys.length = m at *
  have Hn := Lib.hid hn; have Hm := Lib.hid hm
  clear hn hm
  go_enter Try.func35, Try.ntmps35
  go_wp2
  go_loopw [1] (fun i wr => ∃ r : Nat, r ≤ x ∧ d ≤ r ∧ i = .int .i64 r ∧ Hid (∀ z y : Nat, r ≤ z → z < x → (y : Int) = z - d → ∃ (h : z < xs.length) (h' : y < ys.length), xs[z] = ys[y]) ∧ ∃ q, wr = w.drewN q) (fun i _ => (intOf i).toNat)
  case atStart => exact ⟨x, Nat.le_refl _, hd, rfl, fun z y h1 h2 => by omega, 0, rfl⟩
  case round =>
    obtain ⟨r, hr, hdr, rfl, Hall, q, rfl⟩ := hrel
    by_cases h0 : r = 0
    · subst h0
      go_wp2
      go_quiet (fail)
      go_wp2
      go_ret
      exact ⟨0, rfl, ⟨Nat.zero_le _, Hall.out, .inl rfl⟩, hdr, by first | exact Below.drewN (Below.refl _ _) _ | exact Below.drewN (Below.drewN (Below.refl _ _) _) _⟩
    · obtain ⟨z, rfl⟩ : ∃ z, r = z + 1 := ⟨r - 1, by omega⟩
      have hw1 := IntWalk.i64_in ((z : Int) + 1 - d) (by omega)
      have hw2 := IntWalk.i64_in ((z : Int) - d) (by omega)
      by_cases h1' : d < (z : Int) + 1
      · obtain ⟨y, hyd⟩ : ∃ y : Nat, (y : Int) = z - d := ⟨((z : Int) - d).toNat, by omega⟩
        have hzs : z < xs.length := by rw [Hn.out]; omega
        have hys : y < ys.length := by rw [Hm.out]; omega
        obtain ⟨b0, o0, u0, hb0, hidx, hcell, hu⟩ := ListV.at (n := n) (cap := p1) (a := a1) HX.out (i := z) hzs Try.underlying40 sizeInt
        obtain ⟨b1, o1, u1, hb1, hidx1, hcell1, hu1⟩ := ListV.at (n := m) (cap := p2) (a := a2) HY.out (i := y) hys Try.underlying40 sizeInt
        unfold IntR at hu hu1
        subst hu hu1
        rw [hyd] at hidx1
        by_cases he : xs[z] = ys[y]
        · have hbq : (xs[z] == ys[y]) = true := by simpa using he
          have He := Lib.hid he; have Hy := Lib.hid hyd; clear he hyd
          go_wp2
          go_quiet (fail)
          go_wp2
          go_roundw
          case rel =>
            refine ⟨z, by omega, by have := Hy.out; omega, by simp, fun z2 y2 g1 g2 g3 => ?_, _, rfl⟩
            by_cases e : z2 = z
            · subst e
              have hyy2 := Hy.out
              obtain rfl : y2 = y := by omega
              exact ⟨hzs, hys, He.out⟩
            · exact Hall.out z2 y2 (by omega) g2 g3
          case measure => simp [intOf]
        · have hbq : (xs[z] == ys[y]) = false := by simpa using he
          have He := Lib.hid he; have Hy := Lib.hid hyd; clear he hyd
          go_wp2
          go_quiet (fail)
          go_wp2
          go_ret
          refine ⟨z + 1, rfl, ⟨hr, Hall.out, .inr (.inr fun z2 y2 g1 g2 g3 g4 => ?_)⟩, hdr, by first | exact Below.drewN (Below.refl _ _) _ | exact Below.drewN (Below.drewN (Below.refl _ _) _) _⟩
          have hyy2 := Hy.out
          obtain rfl : z2 = z := by omega
          obtain rfl : y2 = y := by omega
          exact He.out
      · have hdf : decide (d < (z : Int) + 1) = false := by simpa using h1'
        go_wp2
        go_quiet (fail)
        go_wp2
        go_ret
        exact ⟨z + 1, rfl, ⟨hr, Hall.out, .inr (.inl (by omega))⟩, hdr, by first | exact Below.drewN (Below.refl _ _) _ | exact Below.drewN (Below.drewN (Below.refl _ _) _) _⟩

/-- what 'least' reads off the rows -/
def leastR (xs ys : List Int) (rows : List (List Int)) (e : Nat) (d : Int) (r : Int) : Prop :=
  ∃ (h : e < rows.length), ((d - ((xs.length : Int) - ys.length) + e < 0 ∨ (rows[e].length : Int) ≤ d - ((xs.length : Int) - ys.length) + e) ∧ r = U) ∨
    ∃ (i : Nat) (hi : i < rows[e].length), (i : Int) = d - ((xs.length : Int) - ys.length) + e ∧ r = rows[e][i]

def LeastPost (xs ys : List Int) (rows : List (List Int)) (k : Nat) (d : Int) (w : World) (e : Ending) (w' : World) : Prop :=
  ∃ r : Int, e = .returned (.int .i64 r) ∧ leastR xs ys rows k d r ∧ Below w.heap.size w w'

set_option maxRecDepth 100000 in
set_option maxHeartbeats 4000000 in
theorem least_any (b : Nat) (xs ys : List Int) (va vb vr : Value) (rows : List (List Int)) (w : World) (hv : BV (frag w) b xs ys rows va vb vr) (hx : xs.length < 1000000) (hy : ys.length < 1000000) (k : Nat) (d : Int) (hk : k < rows.length) (hk2 : k < 1000000)
    (hd1 : -10000000 < d) (hd2 : d < 10000000) : Calls Try.prog 30 #[.pointer (some ⟨b, 0, none⟩), .int .i64 k, .int .i64 d] w (LeastPost xs ys rows k d w) := by
  have He := Lib.hid (fun w' (h : Below w.heap.size w w') => end_any b xs ys va vb vr rows w' (hv.mono (below_le h)) hx hy)
  have Hs := Lib.hid (fun w' => shift_any (.pointer (some ⟨b, 0, none⟩)) k w')
  have Hv := Lib.hid hv
  generalize hi : d - ((xs.length : Int) - ys.length) + k = i at *
  have hib : -20000000 < i ∧ i < 20000000 := by omega
  obtain ⟨hib1, hib2⟩ := hib
  have hiw : d - ((xs.length : Int) - ys.length) + (k : Int) = i := hi
  have hw1 := IntWalk.i64_in (d - ((xs.length : Int) - ys.length)) (by omega)
  have Hi := Lib.hid hi
  clear hv
  generalize hz : (xs.length : Int) - ys.length = z at *
  have Hz := Lib.hid hz
  clear hz hi
  go_enter Try.func30, Try.ntmps30
  go_wp2_with fail
  refine (He.out _ (Below.refl _ _)).mono ?_
  rintro e w1 ⟨rfl, hb1⟩
  go_wp2_with fail
  refine (Hs.out _).mono ?_
  rintro e w2 ⟨rfl, hb2⟩
  have hb12 := hb1.trans (hb2.mono hb1.size)
  have hv2 := Hv.out.mono (below_le hb12)
  obtain ⟨hc0, hc1, hc2, hb⟩ := hv2.cells
  obtain ⟨a3, p3, rfl, h3, h4, _⟩ := hv2.2.2.2.len
  obtain ⟨b1, o1, u1, hb1', hidx1, hcell1, hu1⟩ := ListV.at hv2.2.2.2 (i := k) hk Try.underlying35 sizeIntss
  obtain ⟨a4, p4, rfl, h5, h6, _⟩ := hu1.len
  have Hu1 := Lib.hid hu1
  unfold maxLen at h4 h6
  generalize hm : rows[k].length = m at *
  have Hm := Lib.hid hm
  clear hv2 hu1 hm
  have Hk := Lib.hid hk
  by_cases hneg : i < 0
  · go_wp2_with fail
    go_ret
    exact ⟨_, rfl, ⟨Hk.out, .inl ⟨.inl (by rw [Hz.out]; have := Hi.out; omega), rfl⟩⟩, hb12⟩
  · by_cases hbig : (m : Int) ≤ i
    · go_wp2_with fail
      go_ret
      exact ⟨_, rfl, ⟨Hk.out, .inl ⟨.inr (by rw [Hz.out]; have := Hi.out; have e := Hm.out; exact Int.le_trans (Int.le_of_eq (congrArg _ e)) (by omega)), rfl⟩⟩, hb12⟩
    · obtain ⟨j, rfl⟩ : ∃ j : Nat, i = j := ⟨i.toNat, by omega⟩
      have hjm : j < rows[k].length := Nat.lt_of_lt_of_eq (show j < m by omega) Hm.out.symm
      obtain ⟨b2, o2, u2, hb2', hidx2, hcell2, hu2⟩ := ListV.at (n := m) (cap := p4) (a := a4) Hu1.out (i := j) hjm Try.underlying40 sizeInt
      unfold IntR at hu2
      subst hu2
      obtain ⟨r0, hr0, hcell3⟩ : ∃ r0, r0 = rows[k][j] ∧ w2.cell? ⟨b2, o2, none⟩ = some (.int .i64 r0) := ⟨_, rfl, hcell2⟩
      have Hr0 : Hid (∃ (h : k < rows.length) (hj : j < rows[k].length), r0 = rows[k][j]) := ⟨hk, hjm, hr0⟩
      clear hr0 hcell2
      have hdm : decide ((m : Int) ≤ j) = false := by simpa using hbig
      have hjm2 : ¬ m ≤ j := by omega
      clear hjm hbig hneg hib1 hib2
      go_wp2_with fail
      go_ret
      obtain ⟨g1, g2, g3⟩ := Hr0.out
      exact ⟨_, rfl, ⟨g1, .inr ⟨j, g2, by rw [Hz.out]; exact Hi.out.symm, g3⟩⟩, hb12⟩

end Go.Proofs.Ytlilamlolnkboaa
