/- For regions that draw their order: what is held of the world, kept behind calls that make memory. -/
import Derived.Test.YtiopcdbginnflaaGreatDoorBase2
namespace Go.Proofs.YtiopcdbginnflaaGreatDoor
open Go.RowKit
set_option linter.unusedVariables false

/-- C follows where nothing below B was turned -/
structure Held (B : Nat) (W0 : World) (C : World → Prop) : Prop where
  le : B ≤ W0.heap.size
  of : ∀ w', Below B W0 w' → C w'
theorem Held.start {B : Nat} {W0 : World} {C : World → Prop} (h : Held B W0 C) : C W0.drew ∧ Below B W0 W0.drew := ⟨h.of _ (Below.refl _ _).drew, (Below.refl _ _).drew⟩
theorem Held.call {B : Nat} {W0 : World} {C : World → Prop} (h : Held B W0 C) {w1 w2 : World} (h2 : Below w1.heap.size w1 w2) (h1 : C w1 ∧ Below B W0 w1) : C w2 ∧ Below B W0 w2 :=
  have hb := h1.2.trans (h2.mono (Nat.le_trans h.le h1.2.size))
  ⟨h.of _ hb, hb⟩
theorem Held.alloc {B : Nat} {W0 : World} {C : World → Prop} (h : Held B W0 C) {w1 : World} (h1 : C w1 ∧ Below B W0 w1) (o : Obj) : C (w1.alloc o) ∧ Below B W0 (w1.alloc o) :=
  have hb := h1.2.alloc (Nat.le_trans h.le h1.2.size) o
  ⟨h.of _ hb, hb⟩
theorem Held.draw {B : Nat} {W0 : World} {C : World → Prop} (h : Held B W0 C) {w1 : World} (h1 : C w1 ∧ Below B W0 w1) : C w1.drew ∧ Below B W0 w1.drew :=
  ⟨h.of _ h1.2.drew, h1.2.drew⟩

end Go.Proofs.YtiopcdbginnflaaGreatDoor
