/- append onto a row of the call's own, with where the new row lies. -/
import Derived.Test.YtiopcdbginnflaaGreatDoorHeap
namespace Go.Proofs.YtiopcdbginnflaaGreatDoor
open Go.RowKit
set_option linter.unusedVariables false

/-- 'append(v, x)' where v is a row of the call's own: x lies in the block that was laid last; the row stays or lies in a new block. -/
theorem wpList_append_at {P : Program} {t e : TypeId} {z : Value} {size bytes : Nat} (T : SliceT P t e z size bytes) {ops : Array Oper} {rest : List Oper} {o : Oper} {a : Act} {Q : Exit → Act → World → Prop} (hgd : o.guard = none) (s x : Operand)
    (ho : o.op = .call { callee := .builtin .append, args := #[s, x], argTypes := #[t, t] }) {W : World} {base n : Nat} {v : Value} {xs : List Value} (new : Array Value)
    (hs : a.eval s = v) (hown : W.ownsRow base e size v n xs) (hx : a.eval x = .slice (some ⟨W.heap.size, 0, none⟩) 1 1) (hnew : new.size = size) (h1 : ∀ u ∈ new.toList, u.oneCell' = true)
    (hn : (n + 1) * bytes ≤ 140737488355328) (hbase : base ≤ W.heap.size)
    (h : ∀ v' w', w'.ownsRow base e size v' (n + 1) (xs ++ new.toList) → W.grownBy w' v.ownBlock → (v'.ownBlock = v.ownBlock ∨ v'.ownBlock = some (W.heap.size + 1)) → wpList P ops Q rest (a.put o.dst v') w') : wpList P ops Q (o :: rest) a (W.alloc (.cells new e)) := by
  obtain ⟨i, hi, hz0, hz1, hz2⟩ := info_parts T.info
  have hb := T.bpos
  have hn' : n + 1 ≤ (n + 1) * bytes := Nat.le_mul_of_pos_right _ hb
  have hcell : ∀ j u, new.toList[j]? = some u → (W.alloc (.cells new e)).cell? ((⟨W.heap.size, 0, none⟩ : Addr).add j) = some u := by
    intro j u hu
    rw [Addr.add_none, Nat.zero_add, World.cell?_alloc_at _ _ _ _ rfl]
    simpa using hu
  refine wpList_append_own_at _ hgd s x t ho base e i z size bytes T.und hi hz0 hz1 hz2 T.cells T.pos v n xs hs (hown.alloc _) ⟨W.heap.size, 0, none⟩ 1 1 new.toList hx (by simpa using hnew) hcell h1 (by unfold maxLen; omega) hn (by simp; omega) ?_
  intro v' w' h2 h3 _ h4
  refine h v' w' h2 ?_ (by simpa using h4)
  exact ⟨h3.os, h3.tape, h3.output, Nat.le_trans (by simp) h3.size, fun k hk hne => (h3.block k (by simp; omega) hne).trans (Below.heap_alloc W _ k hk)⟩

/-- 'append(v, x...)' where v is a row of the call's own and x any row that is not nil -/
theorem wpList_append_row {P : Program} {t e : TypeId} {z : Value} {size bytes : Nat} (T : SliceT P t e z size bytes) {ops : Array Oper} {rest : List Oper} {o : Oper} {a : Act} {Q : Exit → Act → World → Prop} (hgd : o.guard = none) (s x : Operand)
    (ho : o.op = .call { callee := .builtin .append, args := #[s, x], argTypes := #[t, t] }) {W : World} {base n m c : Nat} {ad : Addr} {v : Value} {xs news : List Value}
    (hs : a.eval s = v) (hown : W.ownsRow base e size v n xs) (hx : a.eval x = .slice (some ad) m c) (hrow : HRow (frag W) (some ad) news) (hl : news.length = m * size) (h1 : ∀ u ∈ news, u.oneCell' = true)
    (hn : (n + m) * bytes ≤ 140737488355328) (hbase : base ≤ W.heap.size)
    (h : ∀ v' w', w'.ownsRow base e size v' (n + m) (xs ++ news) → W.grownBy w' v.ownBlock → (v'.ownBlock = v.ownBlock ∨ v'.ownBlock = some W.heap.size) → (v' = .slice none 0 0 ↔ v = .slice none 0 0 ∧ m = 0) → wpList P ops Q rest (a.put o.dst v') w') : wpList P ops Q (o :: rest) a W := by
  obtain ⟨i, hi, hz0, hz1, hz2⟩ := info_parts T.info
  have hb := T.bpos
  have hn' : n + m ≤ (n + m) * bytes := Nat.le_mul_of_pos_right _ hb
  have hcell : ∀ j u, news[j]? = some u → W.cell? (ad.add j) = some u := by
    intro j u hu
    rcases hrow with rfl | ⟨b, off, cur, t', fr, e2, hb2, hc⟩
    · simp at hu
    · cases e2
      have hj := (List.getElem?_eq_some_iff.1 hu).1
      rw [Addr.add_none, cell_of_row W b _ cur t' fr hb2, hc j hj, hu]
  refine wpList_append_own_at _ hgd s x t ho base e i z size bytes T.und hi hz0 hz1 hz2 T.cells T.pos v n xs hs hown ad m c news hx hl hcell h1 (by unfold maxLen; omega) hn hbase ?_
  intro v' w' h2 h3 h5 h4
  exact h v' w' h2 h3 h4 h5

theorem own_take {w : World} {base : Nat} {e : TypeId} {size g n cap k : Nat} {xs : List Value} (h : w.ownsRow base e size (.slice (some ⟨g, 0, none⟩) n cap) n xs) (hk : k ≤ n) : w.ownsRow base e size (.slice (some ⟨g, 0, none⟩) k cap) k (xs.take (k * size)) := by
  have hlen := h.1
  have hks : k * size ≤ n * size := Nat.mul_le_mul_right _ hk
  rcases h.2 with ⟨h', _⟩ | ⟨g', cap', cur, h', hb, hg, hnc, hcm, hcs, htake⟩
  · simp at h'
  · cases h'
    refine ⟨by rw [List.length_take]; omega, .inr ⟨g, cap, cur, rfl, hb, hg, by omega, hcm, hcs, ?_⟩⟩
    rw [← htake, List.take_take, Nat.min_eq_left hks]

end Go.Proofs.YtiopcdbginnflaaGreatDoor
