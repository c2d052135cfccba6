/- What stays as a call of another function makes its own row grow; structs laid in a block of their own. -/
import Derived.Test.YtiopcdbginnflaaGreatDoorAppend
namespace Go.Proofs.YtiopcdbginnflaaGreatDoor
open Go.RowKit
set_option linter.unusedVariables false

theorem struct2_cells {wr w3 : World} {u v : Value} {t : TypeId} (hb : Below (wr.alloc (.cells #[u, v] t)).heap.size (wr.alloc (.cells #[u, v] t)) w3) : w3.cell? ⟨wr.heap.size, 0, none⟩ = some u ∧ w3.cell? ⟨wr.heap.size, 1, none⟩ = some v := by
  constructor
  · exact (hb.cell (p := ⟨wr.heap.size, 0, none⟩) (by simp)).trans (by rw [World.cell?_alloc_at _ _ _ _ rfl]; rfl)
  · exact (hb.cell (p := ⟨wr.heap.size, 1, none⟩) (by simp)).trans (by rw [World.cell?_alloc_at _ _ _ _ rfl]; rfl)
theorem struct3_cells {wr w3 : World} {u v x : Value} {t : TypeId} (hb : Below (wr.alloc (.cells #[u, v, x] t)).heap.size (wr.alloc (.cells #[u, v, x] t)) w3) : w3.cell? ⟨wr.heap.size, 0, none⟩ = some u ∧ w3.cell? ⟨wr.heap.size, 1, none⟩ = some v ∧ w3.cell? ⟨wr.heap.size, 2, none⟩ = some x := by
  refine ⟨?_, ?_, ?_⟩
  · exact (hb.cell (p := ⟨wr.heap.size, 0, none⟩) (by simp)).trans (by rw [World.cell?_alloc_at _ _ _ _ rfl]; rfl)
  · exact (hb.cell (p := ⟨wr.heap.size, 1, none⟩) (by simp)).trans (by rw [World.cell?_alloc_at _ _ _ _ rfl]; rfl)
  · exact (hb.cell (p := ⟨wr.heap.size, 2, none⟩) (by simp)).trans (by rw [World.cell?_alloc_at _ _ _ _ rfl]; rfl)

/-- what a call answers that makes a row grow -/
def OwnPost (w : World) (base : Nat) (e : TypeId) (size : Nat) (v : Value) (n : Nat) (xs : List Value) (en : Ending) (w' : World) : Prop :=
  ∃ v', en = .returned v' ∧ w'.ownsRow base e size v' n xs ∧ w.grownBy w' v.ownBlock ∧ (v'.ownBlock = v.ownBlock ∨ ∃ g, v'.ownBlock = some g ∧ w.heap.size ≤ g)

theorem own_carry {w wr w4 : World} {e : TypeId} {s n : Nat} {v v' : Value} {xs : List Value} (hbel : Below w.heap.size w wr) (hown : wr.ownsRow w.heap.size e s v n xs) (hg : wr.grownBy w4 v.ownBlock) (hat : v'.ownBlock = v.ownBlock ∨ ∃ g, v'.ownBlock = some g ∧ wr.heap.size ≤ g) :
    Below w.heap.size w w4 ∧ FLe (fragE wr [v.ownBlock]) (fragE w4 [v'.ownBlock]) := by
  refine ⟨Below.of_grown hbel hown hg hbel.size (Nat.le_refl _), grownE hg (.inr (by simp)) (fun k hk => ?_)⟩
  simp only [List.mem_cons, List.not_mem_nil, or_false] at hk ⊢
  rcases hat with h | ⟨g, h, hg2⟩
  · left; rw [hk, h]
  · right; rw [h] at hk; cases hk; exact hg2

theorem grown_cell {w w' : World} {X : Option Nat} {b o : Nat} (hg : w.grownBy w' X) (hb : b < w.heap.size) (hne : X ≠ some b) : w'.cell? ⟨b, o, none⟩ = w.cell? ⟨b, o, none⟩ := by
  unfold World.cell?
  rw [hg.block b hb (fun e => hne e.symm)]
theorem own_ne {w : World} {base : Nat} {e : TypeId} {size n b : Nat} {v : Value} {xs : List Value} (h : w.ownsRow base e size v n xs) (hb : w.heap.size ≤ b) : v.ownBlock ≠ some b := by
  intro e2
  have := (h.lt b e2).2
  omega
theorem ne_carry {w : World} {v v' : Value} {b : Nat} (h : v.ownBlock ≠ some b) (hb : b < w.heap.size) (hat : v'.ownBlock = v.ownBlock ∨ ∃ g, v'.ownBlock = some g ∧ w.heap.size ≤ g) : v'.ownBlock ≠ some b := by
  rcases hat with h2 | ⟨g, h2, h3⟩
  · rw [h2]; exact h
  · rw [h2]; intro e; cases e; omega

end Go.Proofs.YtiopcdbginnflaaGreatDoor
