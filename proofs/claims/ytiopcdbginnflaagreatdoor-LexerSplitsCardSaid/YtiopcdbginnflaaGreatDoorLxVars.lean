/- What the lexer's walks need of package-level variables; the library's contracts over bytes. -/
import Derived.Test.YtiopcdbginnflaaGreatDoorLxBytes
import Derived.Test.YtiopcdbginnflaaGreatDoorShelf
import Derived.Lib.IndexAny
namespace Go.Proofs.YtiopcdbginnflaaGreatDoor
open Go.RowKit
set_option linter.unusedVariables false

def errV (a : Addr) : Value := .iface 125 (.pointer (some a))
/-- the variables that the lexer reads -/
structure Vars (A : Nat → Addr) (w : World) : Prop where
  range : w.cell? ⟨3, 0, none⟩ = some (errV (A 0))
  long : w.cell? ⟨0, 0, none⟩ = some (errV (A 2))
  form : w.cell? ⟨1, 0, none⟩ = some (errV (A 8))
  conv : ∃ te pe, w.cell? ⟨22, 0, none⟩ = some (.iface te pe)
  most : ∃ m, w.cell? ⟨20, 0, none⟩ = some (.int .i64 m)
theorem Vars.keep {A : Nat → Addr} {w w' : World} (h : Vars A w) {B : Nat} (hb : Below B w w') (hB : 3 < B ∧ 0 < B ∧ 1 < B ∧ 22 < B ∧ 20 < B) : Vars A w' :=
  ⟨(hb.cell (p := ⟨_, _, _⟩) hB.1).trans h.range, (hb.cell (p := ⟨_, _, _⟩) hB.2.1).trans h.long, (hb.cell (p := ⟨_, _, _⟩) hB.2.2.1).trans h.form,
    by obtain ⟨a, b, e⟩ := h.conv; exact ⟨a, b, (hb.cell (p := ⟨_, _, _⟩) hB.2.2.2.1).trans e⟩, by obtain ⟨m, e⟩ := h.most; exact ⟨m, (hb.cell (p := ⟨_, _, _⟩) hB.2.2.2.2).trans e⟩⟩
theorem Vars.lt {A : Nat → Addr} {w : World} (h : Vars A w) : 3 < w.heap.size ∧ 0 < w.heap.size ∧ 1 < w.heap.size ∧ 22 < w.heap.size ∧ 20 < w.heap.size :=
  ⟨World.block_lt_of_cell? w _ h.range, World.block_lt_of_cell? w _ h.long, World.block_lt_of_cell? w _ h.form, by obtain ⟨a, b, e⟩ := h.conv; exact World.block_lt_of_cell? w _ e, by obtain ⟨m, e⟩ := h.most; exact World.block_lt_of_cell? w _ e⟩
theorem Vars.below {A : Nat → Addr} {w w' : World} (h : Vars A w) (hb : Below w.heap.size w w') : Vars A w' := h.keep hb h.lt

/- the library's words and ours -/
theorem idx1_index (c : UInt8) : ∀ (l : Lx.Bs), Lib.indexByte l c = match Lx.idx1 c l with | some n => (n : Int) | none => -1
  | [] => rfl
  | b :: r => by
    rw [Lib.indexByte, Lx.idx1, idx1_index c r]
    by_cases h : b = c
    · subst h; simp
    · rw [if_neg (by simpa using h), if_neg h]
      cases Lx.idx1 c r with
      | none => rfl
      | some n =>
        have : ¬ (((n : Int) == -1) = true) := by rw [beq_iff_eq]; omega
        simp only [Option.map_some]
        rw [if_neg this]; push_cast; rfl
theorem index_mem (c : UInt8) (l : Lx.Bs) : decide (0 ≤ Lib.indexByte l c) = l.contains c := by
  rw [Lib.contains_iff_indexByte]

end Go.Proofs.YtiopcdbginnflaaGreatDoor
