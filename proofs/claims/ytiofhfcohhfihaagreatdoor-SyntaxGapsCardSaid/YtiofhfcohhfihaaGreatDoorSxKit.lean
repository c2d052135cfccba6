/- Package syntax, walked: worlds that differ in few blocks; the parser's block. -/
import Derived.Test.YtiofhfcohhfihaaGreatDoorLxSplit
import Derived.Test.YtiofhfcohhfihaaGreatDoorGroupB
namespace Go.Proofs.YtiofhfcohhfihaaGreatDoor
open Go.RowKit
set_option linter.unusedVariables false
set_option linter.unusedSimpArgs false

theorem fragE_some {w : World} {E : List (Option Nat)} {k : Nat} {o : Obj} : fragE w E k = some o ↔ some k ∉ E ∧ w.heap[k]? = some o := by
  unfold fragE; split <;> simp_all
/-- all blocks but those of S are as they were -/
structure Kept (S : List Nat) (w w' : World) : Prop where
  os : w'.os = w.os
  tape : w'.tape = w.tape
  output : w'.output = w.output
  size : w.heap.size ≤ w'.heap.size
  block : ∀ k, k < w.heap.size → k ∉ S → w'.heap[k]? = w.heap[k]?
theorem Kept.refl (S : List Nat) (w : World) : Kept S w w := ⟨rfl, rfl, rfl, Nat.le_refl _, fun _ _ _ => rfl⟩
theorem Kept.trans {S : List Nat} {a b c : World} (h : Kept S a b) (k : Kept S b c) : Kept S a c :=
  ⟨k.os.trans h.os, k.tape.trans h.tape, k.output.trans h.output, Nat.le_trans h.size k.size, fun i hi hS => (k.block i (Nat.lt_of_lt_of_le hi h.size) hS).trans (h.block i hi hS)⟩
theorem Kept.mono {S S' : List Nat} {a b : World} (h : Kept S a b) (hs : ∀ k ∈ S, k < a.heap.size → k ∈ S') : Kept S' a b :=
  ⟨h.os, h.tape, h.output, h.size, fun k hk hn => h.block k hk (fun hm => hn (hs k hm hk))⟩
theorem Kept.of_below {S : List Nat} {a b : World} (h : Below a.heap.size a b) : Kept S a b := ⟨h.os, h.tape, h.output, h.size, fun k hk _ => h.block k hk⟩
theorem Kept.of_grown {S : List Nat} {a b : World} {p : Nat} (h : a.grownBy b (some p)) (hp : p ∈ S) : Kept S a b :=
  ⟨h.os, h.tape, h.output, h.size, fun k hk hn => h.block k hk (fun e => hn (by cases e; exact hp))⟩
theorem Kept.drew {S : List Nat} {a b : World} (h : Kept S a b) : Kept S a b.drew := ⟨h.os, h.tape, h.output, h.size, h.block⟩
theorem Kept.drewN {S : List Nat} {a b : World} (h : Kept S a b) (n : Nat) : Kept S a (b.drewN n) := ⟨h.os, h.tape, h.output, h.size, h.block⟩
/-- seen from below B, where none of S lies -/
theorem Kept.below {S : List Nat} {a b : World} {B : Nat} (h : Kept S a b) (hB : B ≤ a.heap.size) (hS : ∀ k ∈ S, B ≤ k) : Below B a b :=
  ⟨h.os, h.tape, h.output, h.size, fun k hk => h.block k (Nat.lt_of_lt_of_le hk hB) (fun hm => by have := hS k hm; omega)⟩
theorem Kept.blk {S : List Nat} {a b : World} {g : Nat} {cs : List Value} (h : Kept S a b) (hb : Blk a g cs) (hg : g ∉ S) : Blk b g cs := by
  obtain ⟨t, e⟩ := hb
  exact ⟨t, (h.block g (heap_lt e) hg).trans e⟩
/-- the heap without the blocks of S goes on -/
theorem Kept.fle {S : List Nat} {a b : World} (h : Kept S a b) : FLe (fragE a (S.map some)) (fragE b (S.map some)) := fun k o e => by
  obtain ⟨h1, h2⟩ := fragE_some.1 e
  exact fragE_some.2 ⟨h1, (h.block k (heap_lt h2) (fun hm => h1 (List.mem_map.2 ⟨k, hm, rfl⟩))).trans h2⟩

/-- a block's cells and its type -/
def BlkT (w : World) (g : Nat) (t : TypeId) (cs : List Value) : Prop := w.heap[g]? = some (.cells cs.toArray t (0, 0))
theorem BlkT.blk {w : World} {g : Nat} {t : TypeId} {cs : List Value} (h : BlkT w g t cs) : Blk w g cs := ⟨t, h⟩
theorem BlkT.lt {w : World} {g : Nat} {t : TypeId} {cs : List Value} (h : BlkT w g t cs) : g < w.heap.size := heap_lt h
theorem BlkT.grown {w w' : World} {g : Nat} {t : TypeId} {X : Option Nat} {cs : List Value} (h : BlkT w g t cs) (hb : w.grownBy w' X) (hg : some g ≠ X) : BlkT w' g t cs := (hb.block g h.lt hg).trans h
theorem BlkT.below {w w' : World} {g B : Nat} {t : TypeId} {cs : List Value} (h : BlkT w g t cs) (hb : Below B w w') (hg : g < B) : BlkT w' g t cs := (hb.block g hg).trans h
theorem Kept.blkT {S : List Nat} {a b : World} {g : Nat} {t : TypeId} {cs : List Value} (h : Kept S a b) (hb : BlkT a g t cs) (hg : g ∉ S) : BlkT b g t cs := (h.block g hb.lt hg).trans hb
theorem wpList_box_layT {P : Program} {ops : Array Oper} {rest : List Oper} {op : Oper} {a : Act} {w : World} {Q : Exit → Act → World → Prop} (hgd : Region.wanted op (yielded ops a.tmps) = true) (ty : TypeId) (x : Operand) (ho : op.op = .box ty x) (cs : List Value) (hx : a.eval x = .agg cs.toArray)
    (h : ∀ w2 g, w.heap.size ≤ g → BlkT w2 g ty cs → Below w.heap.size w w2 → wpList P ops Q rest (a.put op.dst (.pointer (some ⟨g, 0, none⟩))) w2) : wpList P ops Q (op :: rest) a w := by
  refine BigFrame.wpList_want hgd fun K hK => ?_
  unfold Oper.wp execOp
  simp only [ho, hx, Instr.box, newVar, newRow, Value.cells, Sem.run_bind, Sem.run_pure, run_newObj, Result.andThen_ok]
  exact hK _ _ (h _ _ (Nat.le_refl _) (heap_alloc_last w _) ((Below.refl _ _).alloc (Nat.le_refl _) _))
/-- the parser's fault -/
def ErrAt (A : Nat → Addr) (p : Nat) (w : World) : Option (Nat × Nat × Nat) → Value → Prop
  | none, ev => ev = .nilIface
  | some x, ev => ∃ g, ev = .iface 80 (.pointer (some ⟨g, 0, none⟩)) ∧ BlkT w g 82 [.int .i64 (x.2.1 : Nat), .int .i64 (x.2.2 : Nat), errV (A (x.1 - 1))] ∧ g ≠ p
/-- the parser's block -/
def Par (A : Nat → Addr) (p : Nat) (v : Value) (ts : List Lx.Tok) (s : Sx.St) (w : World) : Prop :=
  ∃ ev, Blk w p [v, .int .i64 (s.pos : Nat), ev] ∧ ErrAt A p w s.err ev ∧ FlatV tC (fragE w [some p]) v ts ∧ s.pos ≤ ts.length
theorem ErrAt.kept {A : Nat → Addr} {p : Nat} {S : List Nat} {w w' : World} {x : Option (Nat × Nat × Nat)} {ev : Value} (h : ErrAt A p w x ev) (hk : Kept S w w') (hS : ∀ k ∈ S, k < w.heap.size → k = p) : ErrAt A p w' x ev := by
  cases x with
  | none => exact h
  | some x =>
    obtain ⟨g, e, hb, hne⟩ := h
    exact ⟨g, e, hk.blkT hb (fun hm => hne (hS g hm hb.lt)), hne⟩

end Go.Proofs.YtiofhfcohhfihaaGreatDoor
