/- same and Kept of the steps, walked. -/
import Derived.Test.YtlilamlolnkboaaAlTexts
import Derived.Test.YtlilamlolnkboaaAlRef
import Derived.Test.YtlilamlolnkboaaAlWay
namespace Go.Proofs.Ytlilamlolnkboaa
open Go.RowKit Go.WideShapes
set_option linter.unusedVariables false

def KRel (w : World) (ks : List Nat) (n i : Value) (wr : World) : Prop :=
  ∃ k : Nat, k ≤ ks.length ∧ i = .int .i64 k ∧ n = .int .i64 (keeps (ks.take k) : Nat) ∧ Below w.heap.size w wr
theorem keeps_snoc (l : List Nat) (k : Nat) : keeps (l ++ [k]) = keeps l + (if k = 1 then 1 else 0) := by
  unfold keeps
  by_cases h : k = 1 <;> simp [h]

set_option maxRecDepth 100000 in
set_option maxHeartbeats 4000000 in
theorem kept_any (ks : List Nat) (v : Value) (w : World) (hv : FlatV stepC (frag w) v (placed 0 0 ks)) (hk : ∀ k ∈ ks, 1 ≤ k ∧ k ≤ 3) :
    Calls Try.prog 9 #[v] w fun e w' => e = .returned (.int .i64 (keeps ks : Nat)) ∧ Below w.heap.size w w' := by
  obtain ⟨a, cap, rfl, hc1, hc2, _⟩ := hv.len
  rw [placed_len] at hc1 ⊢
  have HX := Lib.hid hv; have HK := Lib.hid hk
  unfold maxLen at hc2
  rw [placed_len] at HX
  clear hv hk
  generalize hn : ks.length = n at *
  have Hn := Lib.hid hn; clear hn
  go_enter Try.func9, Try.ntmps9
  go_wp2_with fail
  go_loopw [3, 8] (KRel w ks) (fun _ i _ => n - (intOf i).toNat)
  case atStart => exact ⟨0, Nat.zero_le _, rfl, rfl, Below.refl _ _⟩
  case round =>
    obtain ⟨k, hk, rfl, rfl, hbel⟩ := hrel
    rw [Hn.out] at hk
    by_cases hlt : k < n
    · have hks : k < ks.length := by rw [Hn.out]; exact hlt
      obtain ⟨b0, o0, hb0, hidx, hcell⟩ := FlatV.at (w := w) (n := n) (cap := cap) (a := a) (by have := HX.out; exact this) stepC_len (by decide) (i := k) (by rw [placed_len]; exact hks) Try.underlying25 sizeStep
      rw [placed_at 0 0 hks] at hcell
      have hkk := HK.out ks[k] (List.getElem_mem _)
      have Hsn : Hid (keeps (ks.take (k + 1)) = keeps (ks.take k) + (if ks[k] = 1 then 1 else 0)) := by
        show _ = _
        rw [List.take_succ_eq_append_getElem hks, keeps_snoc]
      have hle := keeps_le (ks.take k)
      have hle2 : (ks.take k).length ≤ k := List.length_take_le _ _
      have hcA := (hbel.cell (p := ⟨b0, o0 + 0, none⟩) hb0).trans (hcell 0 _ rfl)
      have hcB := (hbel.cell (p := ⟨b0, o0 + 1, none⟩) hb0).trans (hcell 1 _ rfl)
      have hcC := (hbel.cell (p := ⟨b0, o0 + 2, none⟩) hb0).trans (hcell 2 _ rfl)
      rw [Nat.add_zero] at hcA
      clear hcell
      have hsz := hbel.size
      generalize ks[k] = kk at *
      generalize keeps (ks.take k) = K at *
      generalize endX 0 (ks.take k) = X at *
      generalize endY 0 (ks.take k) = Y at *
      have hkk' : kk = 1 ∨ kk = 2 ∨ kk = 3 := by omega
      clear hkk
      rcases hkk' with rfl | rfl | rfl
      · have gA : wr.cell? ⟨b0, o0, none⟩ = some (.int .i64 1) := hcA
        have gB : wr.cell? ⟨b0, o0 + 1, none⟩ = some (.int .i64 (X : Nat)) := hcB
        have gC : wr.cell? ⟨b0, o0 + 2, none⟩ = some (.int .i64 (Y : Nat)) := hcC
        clear hcA hcB hcC
        go_wp2_with fail
        go_roundw
        case rel => exact ⟨k + 1, hks, by simp,  by rw [Hsn.out]; simp, hbel.alloc hsz _⟩
        case measure => simp [intOf]; omega
      · have gA : wr.cell? ⟨b0, o0, none⟩ = some (.int .i64 3) := hcA
        have gB : wr.cell? ⟨b0, o0 + 1, none⟩ = some (.int .i64 (X : Nat)) := hcB
        have gC : wr.cell? ⟨b0, o0 + 2, none⟩ = some (.int .i64 (Y : Nat)) := hcC
        clear hcA hcB hcC
        go_wp2_with fail
        go_roundw
        case rel => exact ⟨k + 1, hks, by simp,  by rw [Hsn.out]; simp, hbel.alloc hsz _⟩
        case measure => simp [intOf]; omega
      · have gA : wr.cell? ⟨b0, o0, none⟩ = some (.int .i64 4) := hcA
        have gB : wr.cell? ⟨b0, o0 + 1, none⟩ = some (.int .i64 (X : Nat)) := hcB
        have gC : wr.cell? ⟨b0, o0 + 2, none⟩ = some (.int .i64 (Y : Nat)) := hcC
        clear hcA hcB hcC
        go_wp2_with fail
        go_roundw
        case rel => exact ⟨k + 1, hks, by simp,  by rw [Hsn.out]; simp, hbel.alloc hsz _⟩
        case measure => simp [intOf]; omega
    · obtain rfl : k = n := by omega
      have Ht : Hid (ks.take k = ks) := by show _ = _; rw [← Hn.out, List.take_length]
      go_wp2_with fail
      go_ret
      exact ⟨by rw [Ht.out]; rfl, hbel⟩

set_option maxRecDepth 100000 in
set_option maxHeartbeats 4000000 in
theorem samesteps_any (l : List (Nat × Nat × Nat)) (v u : Value) (w : World) (hv : FlatV stepC (frag w) v l) (hu : FlatV stepC (frag w) u l) :
    Calls Try.prog 7 #[v, u] w fun e w' => e = .returned (.bool true) ∧ Below w.heap.size w w' := by
  obtain ⟨a, cap, rfl, hc1, hc2, _⟩ := hv.len
  obtain ⟨a', cap', rfl, hc1', hc2', _⟩ := hu.len
  have HX := Lib.hid hv; have HY := Lib.hid hu
  unfold maxLen at hc2 hc2'
  clear hv hu
  generalize hn : l.length = n at *
  have Hn := Lib.hid hn; clear hn
  go_enter Try.func7, Try.ntmps7
  go_wp2_with fail
  go_loopw [14] (fun i wr => ∃ k : Nat, k ≤ n ∧ i = .int .i64 k ∧ Below w.heap.size w wr) (fun i _ => n - (intOf i).toNat)
  case atStart => exact ⟨0, Nat.zero_le _, rfl, Below.refl _ _⟩
  case round =>
    obtain ⟨k, hk, rfl, hbel⟩ := hrel
    have hsz := hbel.size
    by_cases hlt : k < n
    · have hks : k < l.length := by rw [Hn.out]; exact hlt
      obtain ⟨b0, o0, hb0, hidx, hcell⟩ := FlatV.at (w := w) (n := n) (cap := cap) (a := a) (by have := HX.out; exact this) stepC_len (by decide) (i := k) hks Try.underlying25 sizeStep
      obtain ⟨b1, o1, hb1, hidx1, hcell1⟩ := FlatV.at (w := w) (n := n) (cap := cap') (a := a') (by have := HY.out; exact this) stepC_len (by decide) (i := k) hks Try.underlying28 sizeRStep
      have hcA := (hbel.cell (p := ⟨b0, o0 + 0, none⟩) hb0).trans (hcell 0 _ rfl)
      have hcB := (hbel.cell (p := ⟨b0, o0 + 1, none⟩) hb0).trans (hcell 1 _ rfl)
      have hcC := (hbel.cell (p := ⟨b0, o0 + 2, none⟩) hb0).trans (hcell 2 _ rfl)
      have hbx : Below w.heap.size w (wr.alloc (.cells #[.int .i64 l[k].1, .int .i64 l[k].2.1, .int .i64 l[k].2.2] 31)) := hbel.alloc hsz _
      have hdA := (hbx.cell (p := ⟨b1, o1 + 0, none⟩) hb1).trans (hcell1 0 _ rfl)
      have hdB := (hbx.cell (p := ⟨b1, o1 + 1, none⟩) hb1).trans (hcell1 1 _ rfl)
      have hdC := (hbx.cell (p := ⟨b1, o1 + 2, none⟩) hb1).trans (hcell1 2 _ rfl)
      rw [Nat.add_zero] at hcA hdA
      clear hcell hcell1
      generalize l[k].1 = s1 at *
      generalize l[k].2.1 = s2 at *
      generalize l[k].2.2 = s3 at *
      have Hbx := Lib.hid hbx; clear hbx
      go_wp2_with fail
      go_quiet (fail)
      go_wp2_with fail
      go_roundw
      case rel => exact ⟨k + 1, by omega, by simp, Below.drewN Hbx.out _⟩
      case measure => simp [intOf]; omega
    · obtain rfl : k = n := by omega
      go_wp2_with fail
      go_ret
      exact ⟨rfl, hbel⟩

end Go.Proofs.Ytlilamlolnkboaa
