/- append onto a row of the call's own, with where the new row lies. -/
import Derived.Test.YtgimlgipjjkmhaaHeap
namespace Go.Proofs.Ytgimlgipjjkmhaa
open Go.RowKit
set_option linter.unusedVariables false

/-- 'append(v, x)' where v is a row of the call's own: x lies in the block that was laid last; the row stays or lies in a new block. -/
theorem wpList_append_at {P : Program} {t e : TypeId} {z : Value} {size bytes : Nat} (T : SliceT P t e z size bytes) {ops : Array Oper} {rest : List Oper} {o : Oper} {a : Act} {Q : Exit → Act → World → Prop} (hgd : o.guard = none) (s x : Operand)
    (ho : o.op = .call { callee := .builtin .append, args := #[s, x], argTypes := #[t, t] }) {W : World} {base n : Nat} {v : Value} {xs : List Value} (new : Array Value)
    (hs : a.eval s = v) (hown : W.ownsRow base e size v n xs) (hx : a.eval x = .slice (some ⟨W.heap.size, 0, none⟩) 1 1) (hnew : new.size = size) (h1 : ∀ u ∈ new.toList, u.oneCell' = true)
    (hn : (n + 1) * bytes ≤ 140737488355328) (hbase : base ≤ W.heap.size)
    (h : ∀ v' w', w'.ownsRow base e size v' (n + 1) (xs ++ new.toList) → W.grownBy w' v.ownBlock → (v'.ownBlock = v.ownBlock ∨ v'.ownBlock = some (W.heap.size + 1)) → wpList P ops Q rest (a.put o.dst v') w') : wpList P ops Q (o :: rest) a (W.alloc (.cells new e)) := by
  obtain ⟨i, hi, hz0, hz1, hz2⟩ := info_parts T.info
  have hb := T.bpos
  have hn' : n + 1 ≤ (n + 1) * bytes := Nat.le_mul_of_pos_right _ hb
  have hcell : ∀ j u, new.toList[j]? = some u → (W.alloc (.cells new e)).cell? ((⟨W.heap.size, 0, none⟩ : Addr).add j) = some u := by
    intro j u hu
    rw [Addr.add_none, Nat.zero_add, World.cell?_alloc_at _ _ _ _ rfl]
    simpa using hu
  refine wpList_append_own_at _ hgd s x t ho base e i z size bytes T.und hi hz0 hz1 hz2 T.cells T.pos v n xs hs (hown.alloc _) ⟨W.heap.size, 0, none⟩ 1 1 new.toList hx (by simpa using hnew) hcell h1 (by unfold maxLen; omega) hn (by simp; omega) ?_
  intro v' w' h2 h3 _ h4
  refine h v' w' h2 ?_ (by simpa using h4)
  exact ⟨h3.os, h3.tape, h3.output, Nat.le_trans (by simp) h3.size, fun k hk hne => (h3.block k (by simp; omega) hne).trans (Below.heap_alloc W _ k hk)⟩

end Go.Proofs.Ytgimlgipjjkmhaa
