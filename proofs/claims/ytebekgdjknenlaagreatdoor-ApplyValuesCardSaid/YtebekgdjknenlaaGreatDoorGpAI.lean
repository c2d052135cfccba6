/- Blocks that hold structs: parts of them loaded and stored as one step. -/
import Derived.Deep.MidRow
import Derived.Deep.WholeRow
import Derived.Test.YtebekgdjknenlaaGreatDoorGpAH
set_option linter.unusedVariables false
set_option linter.unusedSimpArgs false
namespace Go.Proofs.YtebekgdjknenlaaGreatDoor
open Go.RowKit
def patch (cs : List Value) (o : Nat) (vs : List Value) : List Value := cs.take o ++ (vs ++ cs.drop (o + vs.length))
theorem patch_len {cs : List Value} {o : Nat} {vs : List Value} (h : o + vs.length ≤ cs.length) : (patch cs o vs).length = cs.length := by
 unfold patch; simp only [List.length_append, List.length_take, List.length_drop]; omega
theorem patch_nil (cs : List Value) (o : Nat) : patch cs o [] = cs := by simp [patch]
theorem patch_cons {cs : List Value} {o : Nat} {v : Value} {r : List Value} (h : o < cs.length) : patch (cs.set o v) (o + 1) r = patch cs o (v :: r) := by
 unfold patch
 rw [List.take_set, List.drop_set, if_pos (by omega), List.length_cons, show o + 1 + r.length = o + (r.length + 1) by omega]
 rw [List.take_succ_eq_append_getElem h, List.set_append_right _ _ (by simp; omega)]
 simp only [List.length_take, Nat.min_eq_left (Nat.le_of_lt h), Nat.sub_self, List.set_cons_zero, List.append_assoc, List.cons_append, List.nil_append]
theorem patch_at {p q r vs : List Value} {o : Nat} (hp : p.length = o) (hq : q.length = vs.length) : patch (p ++ (q ++ r)) o vs = p ++ (vs ++ r) := by
 subst hp
 unfold patch
 rw [List.take_left', List.drop_append, List.drop_of_length_le (by omega), List.drop_append, List.drop_of_length_le (by omega)]
 ·have : p.length + vs.length - p.length - q.length = 0 := by omega
  rw [this]; rfl
 ·rfl
def Blk (w : World) (g : Nat) (cs : List Value) : Prop := ∃ t, w.heap[g]? = some (.cells cs.toArray t (0, 0))
theorem Blk.new (w : World) (t : TypeId) (cs : List Value) : Blk (w.alloc (.cells cs.toArray t)) w.heap.size cs := ⟨t, heap_alloc_last w _⟩
theorem Blk.lt {w : World} {g : Nat} {cs : List Value} (h : Blk w g cs) : g < w.heap.size := by obtain ⟨t, h⟩ := h; exact heap_lt h
theorem Blk.below {w w' : World} {g B : Nat} {cs : List Value} (h : Blk w g cs) (hb : Below B w w') (hg : g < B) : Blk w' g cs := by obtain ⟨t, h⟩ := h; exact ⟨t, (hb.block g hg).trans h⟩
theorem Blk.grown {w w' : World} {g : Nat} {X : Option Nat} {cs : List Value} (h : Blk w g cs) (hb : w.grownBy w' X) (hg : some g ≠ X) : Blk w' g cs := by
 have hl := h.lt
 obtain ⟨t, h⟩ := h; exact ⟨t, (hb.block g hl hg).trans h⟩
theorem Blk.alloc {w : World} {g : Nat} {cs : List Value} (h : Blk w g cs) (o : Obj) : Blk (w.alloc o) g cs := h.grown (World.grownBy_alloc w o none) (by simp)
theorem Blk.cell {w : World} {g o : Nat} {cs : List Value} {u : Value} (h : Blk w g cs) (hu : cs[o]? = some u) : w.cell? ⟨g, o, none⟩ = some u := by
 obtain ⟨t, h⟩ := h
 rw [cell_of_row w g o _ t _ h, List.getElem?_toArray, hu]
theorem Blk.frozen {w : World} {g : Nat} {cs : List Value} (h : Blk w g cs) (o : Nat) : w.frozen? ⟨g, o, none⟩ = false := by
 obtain ⟨t, h⟩ := h
 exact frozen_of_row w g o _ t h
theorem Blk.range {w : World} {g o : Nat} {cs p q r : List Value} (h : Blk w g cs) (e : cs = p ++ (q ++ r)) (hp : p.length = o) : w.rangeAt g o q := by
 intro j v hj
 have hl := (List.getElem?_eq_some_iff.1 hj).1
 refine h.cell ?_
 subst hp
 rw [e, List.getElem?_append_right (by omega), Nat.add_sub_cancel_left, List.getElem?_append_left hl, hj]
theorem Blk.whole {w : World} {g : Nat} {cs : List Value} (h : Blk w g cs) : w.rangeAt g 0 cs := h.range (p := []) (r := []) (by simp) rfl
theorem range_below {w w' : World} {b o B : Nat} {cs : List Value} (h : w.rangeAt b o cs) (hb : Below B w w') (hg : b < B) : w'.rangeAt b o cs := fun j v hj => (hb.cell (p := ⟨b, o + j, none⟩) hg).trans (h j v hj)
theorem range_part {w : World} {b o k : Nat} {cs p q r : List Value} (h : w.rangeAt b o cs) (e : cs = p ++ (q ++ r)) (hp : p.length = k) : w.rangeAt b (o + k) q := by
 intro j v hj
 have hl := (List.getElem?_eq_some_iff.1 hj).1
 subst hp
 rw [Nat.add_assoc]
 refine h (p.length + j) v ?_
 rw [e, List.getElem?_append_right (by omega), Nat.add_sub_cancel_left, List.getElem?_append_left hl, hj]
theorem setRow_same {w : World} {g : Nat} {c : Array Value} {t : TypeId} {fr : Nat × Nat} (h : w.heap[g]? = some (.cells c t fr)) : w.setRow g c = w := by
 have e : (w.setRow g c).heap = w.heap := by
  unfold World.setRow
  apply Array.ext_getElem?
  intro i
  rw [Array.getElem?_modify]
  split
  ·rename_i hi; subst hi; rw [h]; rfl
  ·rfl
 unfold World.setRow at e ⊢
 cases w
 simp only at e ⊢
 rw [e]
theorem setRow_twice (w : World) (g : Nat) (c d : Array Value) : (w.setRow g c).setRow g d = w.setRow g d := by
 simp only [World.setRow]
 congr 1
 apply Array.ext_getElem?
 intro i
 rw [Array.getElem?_modify, Array.getElem?_modify, Array.getElem?_modify]
 split
 ·cases w.heap[i]? with
  | none => rfl
  | some o => cases o <;> rfl
 ·rfl
theorem setRow_grown {w : World} {g : Nat} (c : Array Value) : w.grownBy (w.setRow g c) (some g) := by
 refine ⟨rfl, rfl, rfl, by simp, fun k hk hne => ?_⟩
 exact setRow_other w g k c (fun e => hne (by rw [e]))
theorem Blk.set {w : World} {g : Nat} {cs : List Value} (h : Blk w g cs) (ds : List Value) : Blk (w.setRow g ds.toArray) g ds := by
 obtain ⟨t, h⟩ := h
 exact ⟨t, setRow_heap w g _ _ t _ h⟩
theorem setCells_row {g : Nat} {t : TypeId} : ∀ (vs : List Value) (o : Nat) (w : World) (cs : List Value), w.heap[g]? = some (.cells cs.toArray t (0, 0)) → o + vs.length ≤ cs.length → w.setCells g o vs = w.setRow g (patch cs o vs).toArray
 | [], o, w, cs, h, _ => by rw [patch_nil, World.setCells, setRow_same h]
 | v :: r, o, w, cs, h, hl => by
  have hl' : o < cs.length := by simp at hl; omega
  rw [World.setCells, setCell_eq_setRow w g o _ t _ v h]
  have e : cs.toArray.setIfInBounds o v = (cs.set o v).toArray := by simp
  rw [e]
  rw [setCells_row r (o + 1) _ (cs.set o v) (setRow_heap w g _ _ t _ h) (by simp at hl ⊢; omega), setRow_twice, patch_cons hl']
theorem run_storeVar_blk {P : Program} (w : World) (g o : Nat) (ty : TypeId) (v : Value) (vs cs : List Value) (hv : v.cells = vs.toArray) (hb : Blk w g cs) (hi : (P.info? ty).map (·.size) = some vs.length) (hle : o + vs.length ≤ cs.length) (h1 : ∀ u ∈ vs, u.oneCell' = true) :
  (storeVar ty ⟨g, o, none⟩ v).run P w = .ok () (w.setRow g (patch cs o vs).toArray) := by
 obtain ⟨t, hb⟩ := hb
 have this := run_storeCells_cells (P := P) g o vs 0 w (fun j hj => by
   rw [cell_of_row w g _ _ t _ hb]; simp; omega) (fun j hj => frozen_of_row w g _ _ t hb) h1
 cases hq : P.info? ty with
 | none => simp [hq] at hi
 | some i =>
  have hs : vs.length = i.size := by simp [hq] at hi; omega
  simp only [Nat.add_zero] at this
  rw [setCells_row vs o w cs hb hle] at this
  simp [storeVar, sizeOf, typeInfo, hq, hv, hs, this]
theorem wp_store_blk {P : Program} {op : Oper} {a : Act} {w : World} {K : Act → World → Prop} {Q : Exit → Act → World → Prop} (ty : TypeId) (x y : Operand) (ho : op.op = .store ty x y)
  (g o : Nat) (v : Value) (vs cs : List Value) (hx : a.eval x = .pointer (some ⟨g, o, none⟩)) (hy : a.eval y = v) (hv : v.cells = vs.toArray)
  (hb : Blk w g cs) (hi : (P.info? ty).map (·.size) = some vs.length) (hle : o + vs.length ≤ cs.length) (h1 : ∀ u ∈ vs, u.oneCell' = true)
  (h : K (a.put op.dst undef) (w.setRow g (patch cs o vs).toArray)) : op.wp P a w K Q := by
 unfold Oper.wp execOp
 simp only [ho, hx, hy, Instr.storeAt, Instr.sureAddr, Sem.run_bind, Sem.run_pure, Result.andThen_ok, run_storeVar_blk w g o ty v vs cs hv hb hi hle h1]
 exact h
theorem wpList_load_seg {P : Program} {ops : Array Oper} {rest : List Oper} {op : Oper} {a : Act} {w : World} {Q : Exit → Act → World → Prop} (hgd : Region.wanted op (yielded ops a.tmps) = true) (ty : TypeId) (x : Operand) (ho : op.op = .load ty x)
  (b o : Nat) (hx : a.eval x = .pointer (some ⟨b, o, none⟩)) (cs : List Value) (d : TypeDesc) (hc : w.rangeAt b o cs)
  (hu : P.underlying ty = some d) (hd : d.isRow = true) (hi : (P.info? ty).map (·.size) = some cs.length)
  (h : wpList P ops Q rest (a.put op.dst (.agg cs.toArray)) w) : wpList P ops Q (op :: rest) a w :=
 BigFrame.wpList_want hgd fun _ hK => wp_load_mid ty x ho b o hx cs d hc hu hd hi (hK _ _ h)
theorem wpList_store_blk {P : Program} {ops : Array Oper} {rest : List Oper} {op : Oper} {a : Act} {w : World} {Q : Exit → Act → World → Prop} (hgd : Region.wanted op (yielded ops a.tmps) = true) (ty : TypeId) (x y : Operand) (ho : op.op = .store ty x y)
  (g o : Nat) (vs : List Value) (hx : a.eval x = .pointer (some ⟨g, o, none⟩)) (hy : a.eval y = .agg vs.toArray) (cs : List Value) (hb : Blk w g cs)
  (hi : (P.info? ty).map (·.size) = some vs.length) (hle : o + vs.length ≤ cs.length) (h1 : ∀ u ∈ vs, u.oneCell' = true)
  (h : ∀ w2, Blk w2 g (patch cs o vs) → w.grownBy w2 (some g) → w2.heap.size = w.heap.size → wpList P ops Q rest (a.put op.dst undef) w2) : wpList P ops Q (op :: rest) a w :=
 BigFrame.wpList_want hgd fun _ hK => wp_store_blk ty x y ho g o _ vs cs hx hy rfl hb hi hle h1 (hK _ _ (h _ (hb.set _) (setRow_grown _) (by simp)))
theorem wpList_store_blk1 {P : Program} {ops : Array Oper} {rest : List Oper} {op : Oper} {a : Act} {w : World} {Q : Exit → Act → World → Prop} (hgd : Region.wanted op (yielded ops a.tmps) = true) (ty : TypeId) (x y : Operand) (ho : op.op = .store ty x y)
  (g o : Nat) (v : Value) (hx : a.eval x = .pointer (some ⟨g, o, none⟩)) (hy : a.eval y = v) (cs : List Value) (hb : Blk w g cs)
  (hi : (P.info? ty).map (·.size) = some 1) (hle : o + 1 ≤ cs.length) (h1 : v.oneCell' = true)
  (h : ∀ w2, Blk w2 g (patch cs o [v]) → w.grownBy w2 (some g) → w2.heap.size = w.heap.size → wpList P ops Q rest (a.put op.dst undef) w2) : wpList P ops Q (op :: rest) a w :=
 BigFrame.wpList_want hgd fun _ hK => wp_store_blk ty x y ho g o v [v] cs hx hy (by cases v <;> first | rfl | cases h1) hb hi hle (by simpa using h1) (hK _ _ (h _ (hb.set _) (setRow_grown _) (by simp)))
theorem setRow_alloc_first (W : World) (c c' : Array Value) (t : TypeId) (ob : Obj) : ((W.alloc (.cells c t)).alloc ob).setRow W.heap.size c' = (W.alloc (.cells c' t)).alloc ob := by
 simp only [World.setRow, World.alloc]
 congr 1
 apply Array.ext_getElem?
 intro i
 rw [Array.getElem?_modify]
 by_cases h : W.heap.size = i
 ·subst h
  simp [Array.getElem?_push]
 ·have h' : ¬ i = W.heap.size := fun e => h e.symm
  simp [h, h', Array.getElem?_push]
theorem wpList_store_first {P : Program} {ops : Array Oper} {rest : List Oper} {op : Oper} {a : Act} {W : World} {Q : Exit → Act → World → Prop} {cs : List Value} {t : TypeId} {ob : Obj} (hgd : Region.wanted op (yielded ops a.tmps) = true) (ty : TypeId) (x y : Operand) (ho : op.op = .store ty x y)
  (o : Nat) (vs : List Value) (hx : a.eval x = .pointer (some ⟨W.heap.size, o, none⟩)) (hy : a.eval y = .agg vs.toArray)
  (hi : (P.info? ty).map (·.size) = some vs.length) (hle : o + vs.length ≤ cs.length) (h1 : ∀ u ∈ vs, u.oneCell' = true)
  (h : wpList P ops Q rest (a.put op.dst undef) ((W.alloc (.cells (patch cs o vs).toArray t)).alloc ob)) : wpList P ops Q (op :: rest) a ((W.alloc (.cells cs.toArray t)).alloc ob) :=
 BigFrame.wpList_want hgd fun _ hK => wp_store_blk ty x y ho W.heap.size o _ vs cs hx hy rfl ((Blk.new W t cs).alloc ob) hi hle h1 (by rw [setRow_alloc_first]; exact hK _ _ h)
theorem wpList_store_first1 {P : Program} {ops : Array Oper} {rest : List Oper} {op : Oper} {a : Act} {W : World} {Q : Exit → Act → World → Prop} {cs : List Value} {t : TypeId} {ob : Obj} (hgd : Region.wanted op (yielded ops a.tmps) = true) (ty : TypeId) (x y : Operand) (ho : op.op = .store ty x y)
  (o : Nat) (v : Value) (hx : a.eval x = .pointer (some ⟨W.heap.size, o, none⟩)) (hy : a.eval y = v)
  (hi : (P.info? ty).map (·.size) = some 1) (hle : o + 1 ≤ cs.length) (h1 : v.oneCell' = true)
  (h : wpList P ops Q rest (a.put op.dst undef) ((W.alloc (.cells (patch cs o [v]).toArray t)).alloc ob)) : wpList P ops Q (op :: rest) a ((W.alloc (.cells cs.toArray t)).alloc ob) :=
 BigFrame.wpList_want hgd fun _ hK => wp_store_blk ty x y ho W.heap.size o v [v] cs hx hy (by cases v <;> first | rfl | cases h1) ((Blk.new W t cs).alloc ob) hi hle (by simpa using h1) (by rw [setRow_alloc_first]; exact hK _ _ h)
theorem wpList_load_first {P : Program} {ops : Array Oper} {rest : List Oper} {op : Oper} {a : Act} {W : World} {Q : Exit → Act → World → Prop} {cs : List Value} {t : TypeId} {ob : Obj} (hgd : Region.wanted op (yielded ops a.tmps) = true) (ty : TypeId) (x : Operand) (ho : op.op = .load ty x)
  (hx : a.eval x = .pointer (some ⟨W.heap.size, 0, none⟩)) (d : TypeDesc) (hu : P.underlying ty = some d) (hd : d.isRow = true) (hi : (P.info? ty).map (·.size) = some cs.length)
  (h : wpList P ops Q rest (a.put op.dst (.agg cs.toArray)) ((W.alloc (.cells cs.toArray t)).alloc ob)) : wpList P ops Q (op :: rest) a ((W.alloc (.cells cs.toArray t)).alloc ob) :=
 wpList_load_seg hgd ty x ho W.heap.size 0 hx cs d ((Blk.new W t cs).alloc ob).whole hu hd hi h
theorem wpList_load_new {P : Program} {ops : Array Oper} {rest : List Oper} {op : Oper} {a : Act} {W : World} {Q : Exit → Act → World → Prop} {cs : List Value} {t : TypeId} (hgd : Region.wanted op (yielded ops a.tmps) = true) (ty : TypeId) (x : Operand) (ho : op.op = .load ty x)
  (hx : a.eval x = .pointer (some ⟨W.heap.size, 0, none⟩)) (d : TypeDesc) (hu : P.underlying ty = some d) (hd : d.isRow = true) (hi : (P.info? ty).map (·.size) = some cs.length)
  (h : wpList P ops Q rest (a.put op.dst (.agg cs.toArray)) (W.alloc (.cells cs.toArray t))) : wpList P ops Q (op :: rest) a (W.alloc (.cells cs.toArray t)) :=
 wpList_load_seg hgd ty x ho W.heap.size 0 hx cs d (Blk.new W t cs).whole hu hd hi h
theorem wpList_store_new {P : Program} {ops : Array Oper} {rest : List Oper} {op : Oper} {a : Act} {W : World} {Q : Exit → Act → World → Prop} {t : TypeId} {old : Array Value} (hgd : Region.wanted op (yielded ops a.tmps) = true) (ty : TypeId) (x y : Operand) (ho : op.op = .store ty x y)
  (g : Nat) (hx : a.eval x = .pointer (some ⟨g, 0, none⟩)) (cs : List Value) (hy : a.eval y = .agg cs.toArray) (hG : W.heap.size = g) (hi : (P.info? ty).map (·.size) = some cs.length) (hold : old.size = cs.length) (h1 : ∀ u ∈ cs, u.oneCell' = true)
  (h : wpList P ops Q rest (a.put op.dst undef) (W.alloc (.cells cs.toArray t))) : wpList P ops Q (op :: rest) a (W.alloc (.cells old t)) := by
 subst hG
 have hb : Blk (W.alloc (.cells old t)) W.heap.size old.toList := ⟨t, heap_alloc_last W _⟩
 refine BigFrame.wpList_want hgd fun _ hK => wp_store_blk ty x y ho W.heap.size 0 _ cs old.toList hx hy rfl hb hi (by simp [hold]) h1 ?_
 have e : patch old.toList 0 cs = cs := by unfold patch; simp; omega
 rw [e, World.setRow_alloc_new]
 exact hK _ _ h
theorem wpList_store_lay {P : Program} {ops : Array Oper} {rest : List Oper} {op : Oper} {a : Act} {W : World} {Q : Exit → Act → World → Prop} {t : TypeId} {old : Array Value} (hgd : Region.wanted op (yielded ops a.tmps) = true) (ty : TypeId) (x y : Operand) (ho : op.op = .store ty x y)
  (hx : a.eval x = .pointer (some ⟨W.heap.size, 0, none⟩)) (cs : List Value) (hy : a.eval y = .agg cs.toArray) (hi : (P.info? ty).map (·.size) = some cs.length) (hold : old.size = cs.length) (h1 : ∀ u ∈ cs, u.oneCell' = true)
  (h : ∀ w2, Blk w2 W.heap.size cs → Below W.heap.size W w2 → wpList P ops Q rest (a.put op.dst undef) w2) : wpList P ops Q (op :: rest) a (W.alloc (.cells old t)) :=
 wpList_store_new hgd ty x y ho W.heap.size hx cs hy rfl hi hold h1 (h _ (Blk.new W t cs) ((Below.refl _ _).alloc (Nat.le_refl _) _))
theorem wpList_box_lay {P : Program} {ops : Array Oper} {rest : List Oper} {op : Oper} {a : Act} {w : World} {Q : Exit → Act → World → Prop} (hgd : Region.wanted op (yielded ops a.tmps) = true) (ty : TypeId) (x : Operand) (ho : op.op = .box ty x) (cs : List Value) (hx : a.eval x = .agg cs.toArray)
  (h : ∀ w2 g, w.heap.size ≤ g → Blk w2 g cs → Below w.heap.size w w2 → wpList P ops Q rest (a.put op.dst (.pointer (some ⟨g, 0, none⟩))) w2) : wpList P ops Q (op :: rest) a w := by
 refine BigFrame.wpList_want hgd fun K hK => ?_
 unfold Oper.wp execOp
 simp only [ho, hx, Instr.box, newVar, newRow, Value.cells, Sem.run_bind, Sem.run_pure, run_newObj, Result.andThen_ok]
 exact hK _ _ (h _ _ (Nat.le_refl _) (Blk.new w ty cs) ((Below.refl _ _).alloc (Nat.le_refl _) _))
theorem wpList_alloc_lay {P : Program} {ops : Array Oper} {rest : List Oper} {op : Oper} {a : Act} {w : World} {Q : Exit → Act → World → Prop} (hgd : Region.wanted op (yielded ops a.tmps) = true) (ty : TypeId) (ho : op.op = .alloc ty) (zs : List Value)
  (hz : (P.info? ty).map (·.zero) = some (some (.agg zs.toArray)))
  (h : ∀ w2 g, w.heap.size ≤ g → Blk w2 g zs → Below w.heap.size w w2 → wpList P ops Q rest (a.put op.dst (.pointer (some ⟨g, 0, none⟩))) w2) : wpList P ops Q (op :: rest) a w := by
 refine BigFrame.wpList_want hgd fun K hK => ?_
 unfold Oper.wp execOp
 cases hq : P.info? ty with
 | none => simp [hq] at hz
 | some i =>
  have hs : i.zero = some (.agg zs.toArray) := by simpa [hq] using hz
  simp only [ho, Instr.alloc, zeroValue, typeInfo, hq, hs, newVar, newRow, Value.cells, Sem.run_bind, Sem.run_pure, run_newObj, Result.andThen_ok]
  simp [hq, hs, newVar, newRow, Value.cells]
  exact hK _ _ (h _ _ (Nat.le_refl _) (Blk.new w ty zs) ((Below.refl _ _).alloc (Nat.le_refl _) _))
theorem wpList_store_all {P : Program} {ops : Array Oper} {rest : List Oper} {op : Oper} {a : Act} {w : World} {Q : Exit → Act → World → Prop} (hgd : Region.wanted op (yielded ops a.tmps) = true) (ty : TypeId) (x y : Operand) (ho : op.op = .store ty x y)
  (g : Nat) (vs : List Value) (hx : a.eval x = .pointer (some ⟨g, 0, none⟩)) (hy : a.eval y = .agg vs.toArray) (cs : List Value) (hb : Blk w g cs)
  (hi : (P.info? ty).map (·.size) = some vs.length) (hle : vs.length = cs.length) (h1 : ∀ u ∈ vs, u.oneCell' = true)
  (h : ∀ w2, Blk w2 g vs → w.grownBy w2 (some g) → wpList P ops Q rest (a.put op.dst undef) w2) : wpList P ops Q (op :: rest) a w :=
 wpList_store_blk hgd ty x y ho g 0 vs hx hy cs hb hi (by omega) h1 (fun w2 h2 h3 _ => h w2 (by
  have e : patch cs 0 vs = vs := by unfold patch; simp; omega
  rw [e] at h2; exact h2) h3)
theorem results_blk {P : Program} {fn : Func} {p : Tmp} {ty : TypeId} (h : fn.results = #[.cell p ty]) (tmps : Array Value) (w : World) (g : Nat) (cs : List Value) (hp : tmps.getD p undef = .pointer (some ⟨g, 0, none⟩)) (hb : Blk w g cs) (d : TypeDesc)
  (hu : P.underlying ty = some d) (hd : (match d with | .struct _ | .array _ _ => true | _ => false) = true) (hi : (P.info? ty).map (·.size) = some cs.length) :
  (results fn tmps).run P w = .ok (.agg cs.toArray) w := by
 obtain ⟨t, hb⟩ := hb
 exact results_cell_row h tmps w g t cs.toArray (0, 0) d hp hb hu hd (by simpa using hi)
def zV : List Value := [.int .i64 0, .int .u64 0, .string ⟨#[]⟩, .slice none 0 0, .string ⟨#[]⟩, .slice none 0 0, .slice none 0 0]
def zE : List Value := .int .i64 0 :: (zV ++ (zV ++ [.slice none 0 0, .bool false, .string ⟨#[]⟩, .string ⟨#[]⟩, .slice none 0 0, .slice none 0 0]))
def zES : List Value := .int .i64 0 :: .int .i64 0 :: (zV ++ zE)
theorem zeroV : (Tryz.prog.info? 27).map (·.zero) = some (some (.agg zV.toArray)) := by kernel_rfl
theorem zeroE : (Tryz.prog.info? 32).map (·.zero) = some (some (.agg zE.toArray)) := by kernel_rfl
theorem zeroEF : (Tryz.prog.info? 74).map (·.zero) = some (some (.agg (Value.int .i64 0 :: zE).toArray)) := by kernel_rfl
theorem zeroES : (Tryz.prog.info? 87).map (·.zero) = some (some (.agg zES.toArray)) := by kernel_rfl
theorem zeroEK : (Tryz.prog.info? 78).map (·.zero) = some (some (.agg (zV ++ zE).toArray)) := by kernel_rfl
theorem infoV : (Tryz.prog.info? 27).map (·.size) = some 7 := by kernel_rfl
theorem infoE : (Tryz.prog.info? 32).map (·.size) = some 21 := by kernel_rfl
theorem infoEF : (Tryz.prog.info? 74).map (·.size) = some 22 := by kernel_rfl
theorem infoES : (Tryz.prog.info? 87).map (·.size) = some 30 := by kernel_rfl
theorem infoEK : (Tryz.prog.info? 78).map (·.size) = some 28 := by kernel_rfl
end Go.Proofs.YtebekgdjknenlaaGreatDoor
