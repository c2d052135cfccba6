/- Slices of elements of more than one cell. -/
import Derived.Test.YtiopcdbginnflaaGreatDoorSlice
import Derived.Test.YtiopcdbginnflaaGreatDoorAppend
namespace Go.Proofs.YtiopcdbginnflaaGreatDoor
open Go.RowKit
set_option linter.unusedVariables false

theorem flat_len {α : Type} {f : α → List Value} {s : Nat} (hf : ∀ x, (f x).length = s) : ∀ xs : List α, (xs.flatMap f).length = xs.length * s
  | [] => by simp
  | x :: r => by rw [List.flatMap_cons, List.length_append, flat_len hf r, hf, List.length_cons, Nat.succ_mul, Nat.add_comm]
theorem flat_at {α : Type} {f : α → List Value} {s : Nat} (hf : ∀ x, (f x).length = s) : ∀ (xs : List α) (i j : Nat) (h : i < xs.length), j < s → (xs.flatMap f)[i * s + j]? = (f xs[i])[j]?
  | x :: r, 0, j, h, hj => by
    rw [List.flatMap_cons, List.getElem?_append_left (by rw [hf]; omega)]; simp
  | x :: r, i + 1, j, h, hj => by
    rw [List.flatMap_cons, List.getElem?_append_right (by rw [hf, Nat.succ_mul]; omega), hf]
    have : (i + 1) * s + j - s = i * s + j := by rw [Nat.succ_mul]; omega
    rw [this, flat_at hf r i j (by simpa using h) hj]; simp

/-- a slice value of elements of s cells each -/
def FlatV {α : Type} (f : α → List Value) (h : Frag) (v : Value) (xs : List α) : Prop :=
  ∃ a cap, v = .slice a xs.length cap ∧ xs.length ≤ cap ∧ cap ≤ maxLen ∧ (a = none → cap = 0) ∧ HRow h a (xs.flatMap f)

theorem FlatV.mono {α : Type} {f : α → List Value} {h h' : Frag} {v : Value} {xs : List α} (hl : FlatV f h v xs) (hle : FLe h h') : FlatV f h' v xs := by
  obtain ⟨a, cap, rfl, h1, h2, h0, h3⟩ := hl
  exact ⟨a, cap, rfl, h1, h2, h0, h3.mono hle⟩
theorem FlatV.len {α : Type} {f : α → List Value} {h : Frag} {v : Value} {xs : List α} (hl : FlatV f h v xs) : ∃ a cap, v = .slice a xs.length cap ∧ xs.length ≤ cap ∧ cap ≤ maxLen ∧ (a = none → cap = 0) := by
  obtain ⟨a, cap, rfl, h1, h2, h0, _⟩ := hl
  exact ⟨a, cap, rfl, h1, h2, h0⟩

theorem FlatV.at {α : Type} {f : α → List Value} {s : Nat} {P : Program} {t : TypeId} {w : World} {a : Option Addr} {n cap : Nat} {xs : List α} (hl : FlatV f (frag w) (.slice a n cap) xs) (hf : ∀ x, (f x).length = s) (hs0 : 0 < s) {i : Nat} (hi : i < xs.length)
    (ht : P.underlying t = some (.slice (P.elem t))) (hs : ∀ w, (sizeOf (P.elem t)).run P w = .ok s w) :
    ∃ b o, b < w.heap.size ∧ (∀ w', (Instr.indexAt t (.slice a n cap) (.int .i64 i)).run P w' = .ok (.pointer (some ⟨b, o, none⟩)) w') ∧ ∀ j u, (f xs[i])[j]? = some u → w.cell? ⟨b, o + j, none⟩ = some u := by
  obtain ⟨a', cap', e, h1, h2, h0, h3⟩ := hl
  cases e
  have hl := flat_len hf xs
  rcases h3 with hnil | ⟨b, off, cur, t', fr, rfl, hb, hc⟩
  · exfalso
    rw [hnil] at hl
    have : xs.length * s = 0 := by simpa using hl.symm
    rcases Nat.mul_eq_zero.1 this with h | h <;> omega
  · refine ⟨b, off + i * s, heap_lt hb, fun w' => ?_, fun j u hu => ?_⟩
    · rw [run_indexAt_slice (h := ht), if_pos (by omega), hs]
      simp [Result.andThen, Addr.add_none]
    · have hj : j < s := by
        have := (List.getElem?_eq_some_iff.1 hu).1
        rw [hf] at this; exact this
      have hlt : i * s + j < xs.length * s := by
        have : (i + 1) * s ≤ xs.length * s := Nat.mul_le_mul_right _ (by omega)
        rw [Nat.succ_mul] at this; omega
      rw [Nat.add_assoc, cell_of_row w b _ cur t' fr hb, hc _ (by rw [hl]; exact hlt), flat_at hf xs i j hi hj, hu]

theorem FlatV.of_owns {α : Type} {f : α → List Value} {s : Nat} {w : World} {base : Nat} {e : TypeId} {v : Value} {n : Nat} {xs : List α} {E : List (Option Nat)} (ho : w.ownsRow base e s v n (xs.flatMap f)) (hn : xs.length = n) (hX : v.ownBlock = none ∨ ¬ v.ownBlock ∈ E) : FlatV f (fragE w E) v xs := by
  obtain ⟨a, cap, rfl, hrow, h1, h2, h0⟩ := HRow.of_owns ho hX
  subst hn
  exact ⟨a, cap, rfl, h1, h2, h0, hrow⟩

/-- element i of a row of the call's own -/
theorem own_idx {P : Program} {t : TypeId} {s g n cap i : Nat} (hi : i < n) (ht : P.underlying t = some (.slice (P.elem t))) (hs : ∀ w, (sizeOf (P.elem t)).run P w = .ok s w) (w : World) :
    (Instr.indexAt t (.slice (some ⟨g, 0, none⟩) n cap) (.int .i64 i)).run P w = .ok (.pointer (some ⟨g, i * s, none⟩)) w := by
  rw [run_indexAt_slice (h := ht), if_pos (by omega), hs]
  simp [Result.andThen, Addr.add_none]

end Go.Proofs.YtiopcdbginnflaaGreatDoor
