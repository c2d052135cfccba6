/- Lists that were just made; beginnings of lists. -/
import Derived.Test.YtlilamlolnkboaaHeap
namespace Go.Proofs.Ytlilamlolnkboaa
open Go.RowKit
set_option linter.unusedVariables false

/-- a list that was just made -/
theorem ListV.made {α : Type} {R : Frag → Value → α → Prop} {w : World} {e : TypeId} (new : Array Value) (xs : List α) {n : Nat} (hn : new.size = n) (hx : xs.length = n) (hm : n ≤ maxLen)
    (hR : ∀ i (hv : i < new.toList.length) (hx : i < xs.length), R (frag (w.alloc (.cells new e))) new.toList[i] xs[i]) : ListV R (frag (w.alloc (.cells new e))) (.slice (some ⟨w.heap.size, 0, none⟩) n n) xs := by
  subst hx
  have h1 := World.ownsRow_lit (base := w.heap.size) (e := e) (size := 1) w new xs.length (Nat.le_refl _) hm (by simpa using hn)
  have := ListV.of_owns (R := R) (E := []) h1 (.inr (by simp)) (fun i hv hx => by rw [fragE_nil]; exact hR i hv hx)
  rw [fragE_nil] at this
  exact this

theorem ListV.take {α : Type} {R : Frag → Value → α → Prop} {h : Frag} {a : Option Addr} {n cap k : Nat} {xs : List α} (hl : ListV R h (.slice a n cap) xs) (hk : k ≤ n) : ListV R h (.slice a k cap) (xs.take k) := by
  obtain ⟨a', cap', vs, e, h1, h2, h0, h3, h4, h5⟩ := hl
  cases e
  have hlen : (xs.take k).length = k := by rw [List.length_take]; omega
  refine ⟨a, cap, vs.take k, by rw [hlen], by omega, h2, h0, h3.take k, by rw [List.length_take, List.length_take, h4], fun i hv hx => ?_⟩
  rw [List.getElem_take, List.getElem_take]
  exact h5 i (by rw [List.length_take] at hv; omega) (by rw [List.length_take] at hx; omega)

end Go.Proofs.Ytlilamlolnkboaa
