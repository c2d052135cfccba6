/- Parts of slices: 's[:i]', 's[i:]', 's[i:j]', whether the slice is nil or not. -/
import Derived.Test.YtiopcdbginnflaaGreatDoorHeap
namespace Go.Proofs.YtiopcdbginnflaaGreatDoor
open Go.RowKit
set_option linter.unusedVariables false
set_option linter.unusedSimpArgs false

/-- the address of a part -/
def partAt (a : Option Addr) (cap lo s : Nat) : Option Addr := if cap = lo then a else a.map (fun p => p.add (lo * s))

theorem run_to {P : Program} {t s : Nat} {a : Option Addr} {n cap i : Nat} (ht : P.underlying t = some (.slice (P.elem t))) (hs : ∀ w, (Go.sizeOf (P.elem t)).run P w = .ok s w) (hi : i ≤ cap) (ha : a = none → cap = 0) (w : World) :
    (Instr.slice t (.slice a n cap) none (some (.int .i64 (i : Int))) none).run P w = .ok (.slice a i cap) w := by
  have hs' := hs w
  unfold Program.elem at hs'
  cases a with
  | none =>
    have := ha rfl
    subst this
    obtain rfl : i = 0 := by omega
    simp [Instr.slice, run_underlying ht, Instr.sliceBounds, run_sliceBound, sliced, hs', go_sem]
  | some p =>
    simp [Instr.slice, run_underlying ht, Instr.sliceBounds, run_sliceBound, sliced, hs', go_sem]
    intro h; omega

theorem run_from {P : Program} {t s : Nat} {a : Option Addr} {n cap i : Nat} (ht : P.underlying t = some (.slice (P.elem t))) (hs : ∀ w, (Go.sizeOf (P.elem t)).run P w = .ok s w) (hi : i ≤ n) (hn : n ≤ cap) (ha : a = none → cap = 0) (w : World) :
    (Instr.slice t (.slice a n cap) (some (.int .i64 (i : Int))) none none).run P w = .ok (.slice (partAt a cap i s) (n - i) (cap - i)) w := by
  have hs' := hs w
  unfold Program.elem at hs'
  cases a with
  | none =>
    have := ha rfl
    subst this
    obtain rfl : n = 0 := by omega
    obtain rfl : i = 0 := by omega
    simp [Instr.slice, run_underlying ht, Instr.sliceBounds, run_sliceBound, sliced, hs', go_sem, partAt]
  | some p =>
    simp [Instr.slice, run_underlying ht, Instr.sliceBounds, run_sliceBound, sliced, hs', go_sem, partAt]
    intro h; omega

theorem run_mid {P : Program} {t s : Nat} {a : Option Addr} {n cap i j : Nat} (ht : P.underlying t = some (.slice (P.elem t))) (hs : ∀ w, (Go.sizeOf (P.elem t)).run P w = .ok s w) (hi : i ≤ j) (hn : j ≤ cap) (ha : a = none → cap = 0) (w : World) :
    (Instr.slice t (.slice a n cap) (some (.int .i64 (i : Int))) (some (.int .i64 (j : Int))) none).run P w = .ok (.slice (partAt a cap i s) (j - i) (cap - i)) w := by
  have hs' := hs w
  unfold Program.elem at hs'
  cases a with
  | none =>
    have := ha rfl
    subst this
    obtain rfl : j = 0 := by omega
    obtain rfl : i = 0 := by omega
    simp [Instr.slice, run_underlying ht, Instr.sliceBounds, run_sliceBound, sliced, hs', go_sem, partAt]
  | some p =>
    simp [Instr.slice, run_underlying ht, Instr.sliceBounds, run_sliceBound, sliced, hs', go_sem, partAt]
    rw [if_pos hn, if_pos hi]

/-- the cells of a part: s cells an element -/
theorem HRow.part {h : Frag} {a : Option Addr} {xs : List Value} {cap i s : Nat} (hr : HRow h a xs) (hc : xs.length ≤ cap * s) : HRow h (partAt a cap i s) (xs.drop (i * s)) := by
  by_cases e : cap = i
  · left
    subst e
    exact List.drop_of_length_le hc
  · rcases hr with rfl | ⟨b, off, cur, t, fr, rfl, hb, hcur⟩
    · left; simp
    · right
      refine ⟨b, off + i * s, cur, t, fr, ?_, hb, fun j hj => ?_⟩
      · unfold partAt; rw [if_neg e]; simp [Addr.add_none]
      · rw [List.length_drop] at hj
        rw [Nat.add_assoc, hcur _ (by omega), List.getElem?_drop]

theorem partAt_none {a : Option Addr} {cap i s : Nat} (h : partAt a cap i s = none) : a = none := by
  unfold partAt at h
  split at h
  · exact h
  · cases a <;> simp_all

end Go.Proofs.YtiopcdbginnflaaGreatDoor
