/- A call under way: the blocks that it laid, its own rows, what was read of the. -/
import Derived.Test.YtebekgdjknenlaaGreatDoorGpAO
set_option linter.unusedVariables false
set_option linter.unusedSimpArgs false
namespace Go.Proofs.YtebekgdjknenlaaGreatDoor
open Go.RowKit
def MonoF (RD : Frag → Prop) : Prop := ∀ h h', FLe h h' → RD h → RD h'
def lbs (l : List (Nat × List Value)) : List (Option Nat) := l.map (fun x => some x.1)
structure OwnR (w0 : World) (l : List (Nat × List Value)) (L : List ORow) (RD : Frag → Prop) (w : World) : Prop where
 own : Own w0 l w
 rows : Rows w0.heap.size w L
 off : ∀ x ∈ l, some x.1 ∉ obs L
 rd : RD (fragU w w0.heap.size (obs L ++ lbs l))
 mono : MonoF RD
theorem OwnR.below {w0 w : World} {l : List (Nat × List Value)} {L : List ORow} {RD : Frag → Prop} (h : OwnR w0 l L RD w) : Below w0.heap.size w0 w := h.own.below
theorem OwnR.start {w0 w : World} {l : List (Nat × List Value)} (h : Own w0 l w) (L : List ORow) (hL : ∀ r ∈ L, r.v = .slice .none 0 0 ∧ r.n = 0 ∧ r.xs = []) : OwnR w0 l L (fun _ => True) w :=
 ⟨h, Rows.nil _ _ _ hL, (fun x _ hx => by
  obtain ⟨r, hr, e⟩ := List.mem_map.1 hx
  rw [(hL r hr).1] at e; cases e), trivial, fun _ _ _ h => h⟩
theorem OwnR.rowNe {w0 w : World} {l : List (Nat × List Value)} {L : List ORow} {RD : Frag → Prop} (h : OwnR w0 l L RD w) {r : ORow} (hr : r ∈ L) {x : Nat × List Value} (hx : x ∈ l) : some x.1 ≠ r.v.ownBlock := fun e => h.off x hx (List.mem_map.2 ⟨r, hr, e.symm⟩)
theorem OwnR.call {w0 w w' : World} {l : List (Nat × List Value)} {L : List ORow} {RD : Frag → Prop} (h : OwnR w0 l L RD w) (hb : Below w.heap.size w w') : OwnR w0 l L RD w' :=
 have hg := grown_of_below hb .none
 ⟨h.own.call hb, h.rows.grown hg (fun k e => by cases e), h.off, h.mono _ _ (fragU_grown hg (fun k e => by cases e) (fun k hk => .inl hk)) h.rd, h.mono⟩
theorem OwnR.fresh {w0 w w' : World} {l : List (Nat × List Value)} {L : List ORow} {RD : Frag → Prop} (h : OwnR w0 l L RD w) (hb : Below w.heap.size w w') : FLe (fragU w' w.heap.size []) (fragU w' w0.heap.size (obs L ++ lbs l)) := fun k o e => by
 unfold fragU at e ⊢
 split at e
 ·rename_i hk
  have := h.below.size
  rw [if_pos (by omega)]
  unfold fragE at e ⊢
  rw [if_neg (by simp)] at e
  rw [if_neg (fun hm => by
   rcases List.mem_append.1 hm with h1 | h1
   ·have := (h.rows.ge k h1).2; omega
   ·obtain ⟨x, hx, e2⟩ := List.mem_map.1 h1
    have := (h.own.blk x hx).2.lt
    cases e2; omega)]
  exact e
 ·cases e
theorem OwnR.read {w0 w : World} {l : List (Nat × List Value)} {L : List ORow} {RD RD' : Frag → Prop} (h : OwnR w0 l L RD w) (hm : MonoF RD') (hr : RD (fragU w w0.heap.size (obs L ++ lbs l)) → RD' (fragU w w0.heap.size (obs L ++ lbs l))) : OwnR w0 l L RD' w := ⟨h.own, h.rows, h.off, hr h.rd, hm⟩
theorem OwnR.drew {w0 w : World} {l : List (Nat × List Value)} {L : List ORow} {RD : Frag → Prop} (h : OwnR w0 l L RD w) : OwnR w0 l L RD w.drew :=
 have hg : w.grownBy w.drew .none := grown_of_below (Below.refl _ _).drew .none
 ⟨h.own.drew, h.rows.grown hg (fun k e => by cases e), h.off, h.mono _ _ (fragU_grown hg (fun k e => by cases e) (fun k hk => .inl hk)) h.rd, h.mono⟩
theorem OwnR.lay {w0 w : World} {l : List (Nat × List Value)} {L : List ORow} {RD : Frag → Prop} (h : OwnR w0 l L RD w) (cs : List Value) (t : TypeId) : OwnR w0 ((w.heap.size, cs) :: l) L RD (w.alloc (.cells cs.toArray t)) :=
 have hg := World.grownBy_alloc w (.cells cs.toArray t) none
 ⟨h.own.lay cs t, h.rows.grown hg (fun k e => by cases e), fun x hx => by
  rcases List.mem_cons.1 hx with rfl | hx
  ·exact fun hm => by have := (h.rows.ge _ hm).2; simp at this
  ·exact h.off x hx, h.mono _ _ (fragU_grown hg (fun k e => by cases e) (fun k hk => by
   simp only [lbs, List.map_cons, List.mem_append, List.mem_cons] at hk ⊢
   rcases hk with hk | hk | hk
   ·exact .inl (.inl hk)
   ·cases hk; exact .inr (Nat.le_refl _)
   ·exact .inl (.inr hk))) h.rd, h.mono⟩
theorem lbs_set {l : List (Nat × List Value)} {i g : Nat} {cs ds : List Value} (hi : l[i]? = some (g, cs)) : lbs (l.set i (g, ds)) = lbs l := by
 have := map_set_fst (ds := ds) hi
 unfold lbs
 have h2 : ∀ m : List (Nat × List Value), m.map (fun x => some x.1) = (m.map (·.1)).map some := fun m => by rw [List.map_map]; rfl
 rw [h2, h2, this]
theorem OwnR.set {w0 w w' : World} {l : List (Nat × List Value)} {L : List ORow} {RD : Frag → Prop} (h : OwnR w0 l L RD w) (i : Nat) {g : Nat} {cs ds : List Value} (hi : l[i]? = some (g, cs)) (hB : Blk w' g ds) (hg : w.grownBy w' (some g)) : OwnR w0 (l.set i (g, ds)) L RD w' := by
 have hm := List.mem_of_getElem? hi
 have hgm : some g ∈ lbs l := List.mem_map.2 ⟨_, hm, rfl⟩
 refine ⟨h.own.set i hi hB hg, ⟨fun r hr => (h.rows.own r hr).kept hg (.inr (fun e => h.rowNe hr hm e.symm)), h.rows.apart⟩, fun x hx hmo => ?_, ?_, h.mono⟩
 ·rcases List.mem_or_eq_of_mem_set hx with hx | rfl
  ·exact h.off x hx hmo
  ·exact h.off _ hm hmo
 ·rw [lbs_set hi]
  exact h.mono _ _ (fragU_grown hg (fun k e => .inr (by cases e; exact List.mem_append_right _ hgm)) (fun k hk => .inl hk)) h.rd
theorem OwnR.sub {w0 w : World} {l l' : List (Nat × List Value)} {L : List ORow} {RD : Frag → Prop} (h : OwnR w0 l L RD w) (hs : l'.Sublist l) : OwnR w0 l' L RD w :=
 ⟨h.own.sub hs, h.rows, fun x hx => h.off x (hs.subset hx), h.mono _ _ (fragU_sub _ _ (fun k hk => by
  rcases List.mem_append.1 hk with hk | hk
  ·exact List.mem_append_left _ hk
  ·exact List.mem_append_right _ ((hs.map _).subset hk))) h.rd, h.mono⟩
theorem OwnR.push {w0 w w' : World} {l : List (Nat × List Value)} {L M : List ORow} {RD : Frag → Prop} {r : ORow} {v' : Value} {n' : Nat} {xs' : List Value} (h : OwnR w0 l (L ++ r :: M) RD w)
  (ho : w'.ownsRow w0.heap.size r.ty r.size v' n' xs') (hg : w.grownBy w' r.v.ownBlock) (hat : v'.ownBlock = r.v.ownBlock ∨ ∃ g, v'.ownBlock = some g ∧ w.heap.size ≤ g) : OwnR w0 l (L ++ ⟨r.ty, r.size, v', n', xs'⟩ :: M) RD w' := by
 obtain ⟨hr8, _⟩ := Rows.push h.rows ho hg hat
 have hr : r ∈ L ++ r :: M := by simp
 have hge : ∀ k, r.v.ownBlock = some k → w0.heap.size ≤ k := fun k e => ((h.rows.own r hr).lt k e).1
 refine ⟨⟨Below.grown h.below hg h.below.size (fun k e => hge k e), h.own.nodup, fun x hx => ⟨(h.own.blk x hx).1, (h.own.blk x hx).2.grown hg (h.rowNe hr hx)⟩⟩, hr8, fun x hx hm => ?_, ?_, h.mono⟩
 ·unfold obs at hm
  simp only [List.map_append, List.map_cons, List.mem_append, List.mem_cons] at hm
  have ho2 := h.off x hx
  unfold obs at ho2
  simp only [List.map_append, List.map_cons, List.mem_append, List.mem_cons, not_or] at ho2
  rcases hm with hm | hm | hm
  ·exact ho2.1 hm
  ·rcases hat with h2 | ⟨g, h2, h3⟩
   ·exact ho2.2.1 (hm.trans h2)
   ·have := (h.own.blk x hx).2.lt
    rw [h2] at hm; cases hm; omega
  ·exact ho2.2.2 hm
 ·refine h.mono _ _ (fragU_grown hg (fun k e => .inr ?_) (fun k hk => ?_)) h.rd
  ·refine List.mem_append_left _ ?_
   unfold obs; simp
  ·unfold obs at hk ⊢
   simp only [List.map_append, List.map_cons, List.mem_append, List.mem_cons] at hk ⊢
   rcases hk with (hk | hk | hk) | hk
   ·exact .inl (.inl (.inl hk))
   ·rcases hat with h2 | ⟨g, h2, h3⟩
    ·left; left; right; left; rw [hk]; exact h2
    ·right; rw [h2] at hk; cases hk; exact h3
   ·exact .inl (.inl (.inr (.inr hk)))
   ·exact .inl (.inr hk)
theorem OwnR.lit {w0 w : World} {l : List (Nat × List Value)} {L : List ORow} {RD : Frag → Prop} (h : OwnR w0 l L RD w) (t : TypeId) (size : Nat) : OwnR w0 l (⟨t, size, .slice (some ⟨w.heap.size, 0, none⟩) 0 0, 0, []⟩ :: L) RD (w.alloc (.cells #[] t)) := by
 have hb : Below w.heap.size w (w.alloc (.cells #[] t)) := (Below.refl _ _).alloc (Nat.le_refl _) _
 have hg := World.grownBy_alloc w (.cells #[] t) none
 have h2 := h.rows.grown hg (fun k e => by cases e)
 refine ⟨h.own.call hb, ⟨fun r hr => ?_, List.pairwise_cons.2 ⟨fun r hr => .inr (fun e => ?_), h.rows.apart⟩⟩, fun x hx hm => ?_, ?_, h.mono⟩
 ·rcases List.mem_cons.1 hr with rfl | hr
  ·exact World.ownsRow_lit w #[] 0 h.below.size (by decide) (by simp)
  ·exact h2.own r hr
 ·have := ((h.rows.own r hr).lt w.heap.size e.symm).2; omega
 ·rcases List.mem_cons.1 hm with e | hm
  ·have h3 := (h.own.blk x hx).2.lt
   have h4 : x.1 = w.heap.size := Option.some.inj e
   omega
  ·exact h.off x hx hm
 ·exact h.mono _ _ (fragU_grown hg (fun k e => by cases e) (fun k hk => by
   simp only [obs, List.map_cons, List.cons_append, List.mem_cons] at hk
   rcases hk with hk | hk
   ·exact .inr (by cases hk; exact Nat.le_refl _)
   ·exact .inl hk)) h.rd
theorem OwnR.done {w0 w : World} {l : List (Nat × List Value)} {L : List ORow} {RD : Frag → Prop} (h : OwnR w0 l L RD w) : RD (fragU w w0.heap.size []) := h.mono _ _ (fragU_sub _ _ (fun k hk => by cases hk)) h.rd
section
variable {P : Program} {ops : Array Oper} {rest : List Oper} {op : Oper} {a : Act} {w w0 : World} {Q : Exit → Act → World → Prop} {l : List (Nat × List Value)} {L M : List ORow} {RD : Frag → Prop}
theorem wpList_alloc_ownR (hgd : Region.wanted op (yielded ops a.tmps) = true) (ty : TypeId) (ho : op.op = .alloc ty) (zs : List Value) (hz : (P.info? ty).map (·.zero) = some (some (.agg zs.toArray))) (HO : OwnR w0 l L RD w)
  (h : ∀ w2 g, OwnR w0 ((g, zs) :: l) L RD w2 → wpList P ops Q rest (a.put op.dst (.pointer (some ⟨g, 0, none⟩))) w2) : wpList P ops Q (op :: rest) a w := by
 refine BigFrame.wpList_want hgd fun K hK => ?_
 unfold Oper.wp execOp
 cases hq : P.info? ty with
 | none => simp [hq] at hz
 | some i =>
  have hs : i.zero = some (.agg zs.toArray) := by simpa [hq] using hz
  simp only [ho, Instr.alloc, zeroValue, typeInfo, hq, hs, newVar, newRow, Value.cells, Sem.run_bind, Sem.run_pure, run_newObj, Result.andThen_ok]
  simp [hq, hs, newVar, newRow, Value.cells]
  exact hK _ _ (h _ _ (HO.lay zs ty))
theorem wpList_store_ownR (i : Nat) (hgd : Region.wanted op (yielded ops a.tmps) = true) (ty : TypeId) (x y : Operand) (ho : op.op = .store ty x y) (g o : Nat) (vs : List Value) (hx : a.eval x = .pointer (some ⟨g, o, none⟩)) (hy : a.eval y = .agg vs.toArray)
  (HO : OwnR w0 l L RD w) {cs ds : List Value} (hi : l[i]? = some (g, cs)) (hs : (P.info? ty).map (·.size) = some vs.length) (hle : o + vs.length ≤ cs.length) (h1 : ∀ u ∈ vs, u.oneCell' = true) (hd : patch cs o vs = ds)
  (h : ∀ w2, OwnR w0 (l.set i (g, ds)) L RD w2 → wpList P ops Q rest (a.put op.dst undef) w2) : wpList P ops Q (op :: rest) a w :=
 wpList_store_blk hgd ty x y ho g o vs hx hy cs (HO.own.at i hi) hs hle h1 (fun w2 h2 h3 _ => h w2 (HO.set i hi (hd ▸ h2) h3))
theorem wpList_store_ownR1 (i : Nat) (hgd : Region.wanted op (yielded ops a.tmps) = true) (ty : TypeId) (x y : Operand) (ho : op.op = .store ty x y) (g o : Nat) (v : Value) (hx : a.eval x = .pointer (some ⟨g, o, none⟩)) (hy : a.eval y = v)
  (HO : OwnR w0 l L RD w) {cs ds : List Value} (hi : l[i]? = some (g, cs)) (hs : (P.info? ty).map (·.size) = some 1) (hle : o + 1 ≤ cs.length) (h1 : v.oneCell' = true) (hd : patch cs o [v] = ds)
  (h : ∀ w2, OwnR w0 (l.set i (g, ds)) L RD w2 → wpList P ops Q rest (a.put op.dst undef) w2) : wpList P ops Q (op :: rest) a w :=
 wpList_store_blk1 hgd ty x y ho g o v hx hy cs (HO.own.at i hi) hs hle h1 (fun w2 h2 h3 _ => h w2 (HO.set i hi (hd ▸ h2) h3))
theorem wpList_load_ownR (i : Nat) (hgd : Region.wanted op (yielded ops a.tmps) = true) (ty : TypeId) (x : Operand) (ho : op.op = .load ty x) (g : Nat) (hx : a.eval x = .pointer (some ⟨g, 0, none⟩)) (HO : OwnR w0 l L RD w) {cs : List Value} (hi : l[i]? = some (g, cs)) (d : TypeDesc)
  (hu : P.underlying ty = some d) (hd : d.isRow = true) (hs : (P.info? ty).map (·.size) = some cs.length)
  (h : wpList P ops Q rest (a.put op.dst (.agg cs.toArray)) w) : wpList P ops Q (op :: rest) a w :=
 wpList_load_own i hgd ty x ho g hx HO.own hi d hu hd hs h
theorem wpList_append_ownR {t e : TypeId} {z : Value} {size bytes : Nat} (T : SliceT P t e z size bytes) (hgd : op.guard = .none) (s x : Operand)
  (ho : op.op = .call { callee := .builtin .append, args := #[s, x], argTypes := #[t, t] }) {n : Nat} {v : Value} {xs : List Value} (cs : List Value) (H : OwnR w0 l (L ++ ⟨e, size, v, n, xs⟩ :: M) RD w)
  (hs : a.eval s = v) (hx : a.eval x = .slice (some ⟨w.heap.size, 0, .none⟩) 1 1) (hl : cs.length = size) (h1 : ∀ u ∈ cs, u.oneCell' = true) (hn : (n + 1) * bytes ≤ 140737488355328)
  (h : ∀ v' w', OwnR w0 l (L ++ ⟨e, size, v', n + 1, xs ++ cs⟩ :: M) RD w' → v'.oneCell' = true → wpList P ops Q rest (a.put op.dst v') w') : wpList P ops Q (op :: rest) a (w.alloc (.cells cs.toArray e)) :=
 wpList_append_own1 T hgd s x ho cs hs (H.rows.own ⟨e, size, v, n, xs⟩ (by simp)) hx hl h1 hn H.below.size (fun v' w' q1 q2 q3 q4 => h v' w' (H.push (r := ⟨e, size, v, n, xs⟩) q1 q2 q3) q4)
end
end Go.Proofs.YtebekgdjknenlaaGreatDoor
namespace Go.Proofs.YtebekgdjknenlaaGreatDoor
open Go.RowKit
theorem MonoF.and {A B : Frag → Prop} (ha : MonoF A) (hb : MonoF B) : MonoF (fun h => A h ∧ B h) := fun h h' hle hx => ⟨ha h h' hle hx.1, hb h h' hle hx.2⟩
theorem MonoF.tt : MonoF (fun _ => True) := fun _ _ _ h => h
def exF (F : List (Option Nat)) (l : List (Nat × List Value)) (L : List ORow) : List (Option Nat) := obs L ++ (lbs l ++ F)
structure OwnF (F : List (Option Nat)) (w0 : World) (l : List (Nat × List Value)) (L : List ORow) (RD : Frag → Prop) (w : World) : Prop where
 r : OwnR w0 l L (fun _ => True) w
 rd : RD (fragE w (exF F l L))
 mono : MonoF RD
section
variable {F : List (Option Nat)} {w0 w w' : World} {l l' : List (Nat × List Value)} {L M : List ORow} {RD RD' : Frag → Prop}
theorem OwnF.below (h : OwnF F w0 l L RD w) : Below w0.heap.size w0 w := h.r.below
theorem OwnF.own (h : OwnF F w0 l L RD w) : Own w0 l w := h.r.own
theorem OwnF.rows (h : OwnF F w0 l L RD w) : Rows w0.heap.size w L := h.r.rows
theorem OwnF.at (h : OwnF F w0 l L RD w) (i : Nat) {g : Nat} {cs : List Value} (hi : l[i]? = some (g, cs)) : Blk w g cs := h.r.own.at i hi
theorem exF_ge (h : OwnR w0 l L RD w) : ∀ k, some k ∈ exF F l L → some k ∈ F ∨ w0.heap.size ≤ k := fun k hk => by
 rcases List.mem_append.1 hk with hk | hk
 ·exact .inr (h.rows.ge k hk).1
 ·rcases List.mem_append.1 hk with hk | hk
  ·obtain ⟨x, hx, e⟩ := List.mem_map.1 hk
   cases e; exact .inr (h.own.blk x hx).1
  ·exact .inl hk
theorem OwnF.lt (h : OwnF F w0 l L RD w) (hF : ∀ k, some k ∈ F → k < w0.heap.size) : ∀ k, some k ∈ exF F l L → k < w.heap.size := fun k hk => by
 rcases List.mem_append.1 hk with hk | hk
 ·exact (h.r.rows.ge k hk).2
 ·rcases List.mem_append.1 hk with hk | hk
  ·obtain ⟨x, hx, e⟩ := List.mem_map.1 hk
   cases e; exact (h.r.own.blk x hx).2.lt
  ·exact Nat.lt_of_lt_of_le (hF k hk) h.below.size
theorem OwnF.args (h : OwnF F w0 l L RD w) : FLe (fragE w0 F) (fragE w (exF F l L)) := belowE h.below (exF_ge h.r)
theorem OwnF.start {w0 w : World} {l : List (Nat × List Value)} (h : Own w0 l w) (F : List (Option Nat)) (L : List ORow) (hL : ∀ r ∈ L, r.v = .slice .none 0 0 ∧ r.n = 0 ∧ r.xs = []) : OwnF F w0 l L (fun _ => True) w :=
 ⟨.start h L hL, trivial, fun _ _ _ h => h⟩
theorem OwnF.read (h : OwnF F w0 l L RD w) (hm : MonoF RD') (hr : RD (fragE w (exF F l L)) → RD' (fragE w (exF F l L))) : OwnF F w0 l L RD' w := ⟨h.r, hr h.rd, hm⟩
theorem OwnF.call (h : OwnF F w0 l L RD w) (hb : Below w.heap.size w w') : OwnF F w0 l L RD w' :=
 ⟨h.r.call hb, h.mono _ _ (belowE hb (fun _ hk => .inl hk)) h.rd, h.mono⟩
theorem OwnF.drew (h : OwnF F w0 l L RD w) : OwnF F w0 l L RD w.drew := h.call (Below.refl _ _).drew
theorem OwnF.lay (h : OwnF F w0 l L RD w) (cs : List Value) (t : TypeId) : OwnF F w0 ((w.heap.size, cs) :: l) L RD (w.alloc (.cells cs.toArray t)) :=
 ⟨h.r.lay cs t, h.mono _ _ (grownE (World.grownBy_alloc w (.cells cs.toArray t) none) (.inl rfl) (fun k hk => by
  simp only [exF, lbs, List.map_cons, List.cons_append, List.mem_append, List.mem_cons] at hk ⊢
  rcases hk with hk | hk | hk | hk
  ·exact .inl (.inl hk)
  ·cases hk; exact .inr (Nat.le_refl _)
  ·exact .inl (.inr (.inl hk))
  ·exact .inl (.inr (.inr hk)))) h.rd, h.mono⟩
theorem OwnF.set (h : OwnF F w0 l L RD w) (i : Nat) {g : Nat} {cs ds : List Value} (hi : l[i]? = some (g, cs)) (hB : Blk w' g ds) (hg : w.grownBy w' (some g)) : OwnF F w0 (l.set i (g, ds)) L RD w' := by
 have hm : some g ∈ lbs l := List.mem_map.2 ⟨_, List.mem_of_getElem? hi, rfl⟩
 refine ⟨h.r.set i hi hB hg, ?_, h.mono⟩
 unfold exF
 rw [lbs_set hi]
 exact h.mono _ _ (grownE hg (.inr (by simp only [exF, List.mem_append]; exact .inr (.inl hm))) (fun k hk => .inl hk)) h.rd
theorem OwnF.sub (h : OwnF F w0 l L RD w) (hs : l'.Sublist l) : OwnF F w0 l' L RD w :=
 ⟨h.r.sub hs, h.mono _ _ (subE w (fun k hk => by
  simp only [exF, List.mem_append] at hk ⊢
  rcases hk with hk | hk | hk
  ·exact .inl hk
  ·exact .inr (.inl ((hs.map _).subset hk))
  ·exact .inr (.inr hk))) h.rd, h.mono⟩
theorem OwnF.push {r : ORow} {v' : Value} {n' : Nat} {xs' : List Value} (h : OwnF F w0 l (L ++ r :: M) RD w)
  (ho : w'.ownsRow w0.heap.size r.ty r.size v' n' xs') (hg : w.grownBy w' r.v.ownBlock) (hat : v'.ownBlock = r.v.ownBlock ∨ ∃ g, v'.ownBlock = some g ∧ w.heap.size ≤ g) : OwnF F w0 l (L ++ ⟨r.ty, r.size, v', n', xs'⟩ :: M) RD w' := by
 refine ⟨h.r.push ho hg hat, h.mono _ _ (grownE hg (.inr (by simp [exF, obs])) (fun k hk => ?_)) h.rd, h.mono⟩
 simp only [exF, obs, List.map_append, List.map_cons, List.mem_append, List.mem_cons] at hk ⊢
 rcases hk with (hk | hk | hk) | hk
 ·exact .inl (.inl (.inl hk))
 ·rcases hat with h2 | ⟨g, h2, h3⟩
  ·exact .inl (.inl (.inr (.inl (hk.trans h2))))
  ·rw [h2] at hk; cases hk; exact .inr h3
 ·exact .inl (.inl (.inr (.inr hk)))
 ·exact .inl (.inr hk)
theorem OwnF.lit (h : OwnF F w0 l L RD w) (t : TypeId) (size : Nat) : OwnF F w0 l (⟨t, size, .slice (some ⟨w.heap.size, 0, none⟩) 0 0, 0, []⟩ :: L) RD (w.alloc (.cells #[] t)) :=
 ⟨h.r.lit t size, h.mono _ _ (grownE (World.grownBy_alloc w (.cells #[] t) none) (.inl rfl) (fun k hk => by
  simp only [exF, obs, List.map_cons, List.cons_append, List.mem_append, List.mem_cons] at hk ⊢
  rcases hk with hk | hk
  ·exact .inr (by cases hk; exact Nat.le_refl _)
  ·exact .inl hk)) h.rd, h.mono⟩
theorem OwnF.done (h : OwnF F w0 l L RD w) : RD (fragE w F) := h.mono _ _ (subE w (fun k hk => by
 simp only [exF, List.mem_append]; exact .inr (.inr hk))) h.rd
theorem OwnF.flat (h : OwnF F w0 l L RD w) (hF : ∀ k, some k ∈ F → k < w0.heap.size) {e : TypeId} {s : Nat} {v : Value} {es : List (List Value)} (hm : (⟨e, s, v, es.length, es.flatten⟩ : ORow) ∈ L) (hs : ∀ c ∈ es, c.length = s) : FlatC s (fragE w F) v es :=
 FlatC.of_owns (h.r.rows.own _ hm) rfl hs (by
  cases ho : v.ownBlock with
  | none => exact .inl rfl
  | some k => exact .inr (fun hk => by
    have h1 := hF k hk
    have h2 := (h.r.rows.ge k (List.mem_map.2 ⟨_, hm, ho⟩)).1
    omega))
end
section
variable {P : Program} {ops : Array Oper} {rest : List Oper} {op : Oper} {a : Act} {w w0 : World} {Q : Exit → Act → World → Prop} {F : List (Option Nat)} {l : List (Nat × List Value)} {L M : List ORow} {RD : Frag → Prop} {K : Act → World → Prop}
theorem wpList_alloc_ownF (hgd : Region.wanted op (yielded ops a.tmps) = true) (ty : TypeId) (ho : op.op = .alloc ty) (zs : List Value) (hz : (P.info? ty).map (·.zero) = some (some (.agg zs.toArray))) (HO : OwnF F w0 l L RD w)
  (h : ∀ w2 g, OwnF F w0 ((g, zs) :: l) L RD w2 → wpList P ops Q rest (a.put op.dst (.pointer (some ⟨g, 0, none⟩))) w2) : wpList P ops Q (op :: rest) a w := by
 refine BigFrame.wpList_want hgd fun K hK => ?_
 unfold Oper.wp execOp
 cases hq : P.info? ty with
 | none => simp [hq] at hz
 | some i =>
  have hs : i.zero = some (.agg zs.toArray) := by simpa [hq] using hz
  simp only [ho, Instr.alloc, zeroValue, typeInfo, hq, hs, newVar, newRow, Value.cells, Sem.run_bind, Sem.run_pure, run_newObj, Result.andThen_ok]
  simp [hq, hs, newVar, newRow, Value.cells]
  exact hK _ _ (h _ _ (HO.lay zs ty))
theorem wp_alloc_ownF (ty : TypeId) (ho : op.op = .alloc ty) (zs : List Value) (hz : (P.info? ty).map (·.zero) = some (some (.agg zs.toArray))) (HO : OwnF F w0 l L RD w)
  (h : ∀ w2 g, OwnF F w0 ((g, zs) :: l) L RD w2 → Below w.heap.size w w2 → w.heap.size ≤ g → K (a.put op.dst (.pointer (some ⟨g, 0, none⟩))) w2) : op.wp P a w K Q := by
 unfold Oper.wp execOp
 cases hq : P.info? ty with
 | none => simp [hq] at hz
 | some i =>
  have hs : i.zero = some (.agg zs.toArray) := by simpa [hq] using hz
  simp only [ho, Instr.alloc, zeroValue, typeInfo, hq, hs, newVar, newRow, Value.cells, Sem.run_bind, Sem.run_pure, run_newObj, Result.andThen_ok]
  simp [hq, hs, newVar, newRow, Value.cells]
  exact h _ _ (HO.lay zs ty) ((Below.refl _ _).alloc (Nat.le_refl _) _) (Nat.le_refl _)
theorem wpList_box_ownF (hgd : Region.wanted op (yielded ops a.tmps) = true) (ty : TypeId) (x : Operand) (ho : op.op = .box ty x) (cs : List Value) (hx : a.eval x = .agg cs.toArray) (HO : OwnF F w0 l L RD w)
  (h : ∀ w2 g, OwnF F w0 ((g, cs) :: l) L RD w2 → wpList P ops Q rest (a.put op.dst (.pointer (some ⟨g, 0, none⟩))) w2) : wpList P ops Q (op :: rest) a w := by
 refine BigFrame.wpList_want hgd fun K hK => ?_
 unfold Oper.wp execOp
 simp only [ho, hx, Instr.box, newVar, newRow, Value.cells, Sem.run_bind, Sem.run_pure, run_newObj, Result.andThen_ok]
 exact hK _ _ (h _ _ (HO.lay cs ty))
theorem wpList_store_ownF (i : Nat) (hgd : Region.wanted op (yielded ops a.tmps) = true) (ty : TypeId) (x y : Operand) (ho : op.op = .store ty x y) (g o : Nat) (vs : List Value) (hx : a.eval x = .pointer (some ⟨g, o, none⟩)) (hy : a.eval y = .agg vs.toArray)
  (HO : OwnF F w0 l L RD w) {cs ds : List Value} (hi : l[i]? = some (g, cs)) (hs : (P.info? ty).map (·.size) = some vs.length) (hle : o + vs.length ≤ cs.length) (h1 : ∀ u ∈ vs, u.oneCell' = true) (hd : patch cs o vs = ds)
  (h : ∀ w2, OwnF F w0 (l.set i (g, ds)) L RD w2 → wpList P ops Q rest (a.put op.dst undef) w2) : wpList P ops Q (op :: rest) a w :=
 wpList_store_blk hgd ty x y ho g o vs hx hy cs (HO.at i hi) hs hle h1 (fun w2 h2 h3 _ => h w2 (HO.set i hi (hd ▸ h2) h3))
theorem wpList_store_ownF1 (i : Nat) (hgd : Region.wanted op (yielded ops a.tmps) = true) (ty : TypeId) (x y : Operand) (ho : op.op = .store ty x y) (g o : Nat) (v : Value) (hx : a.eval x = .pointer (some ⟨g, o, none⟩)) (hy : a.eval y = v)
  (HO : OwnF F w0 l L RD w) {cs ds : List Value} (hi : l[i]? = some (g, cs)) (hs : (P.info? ty).map (·.size) = some 1) (hle : o + 1 ≤ cs.length) (h1 : v.oneCell' = true) (hd : patch cs o [v] = ds)
  (h : ∀ w2, OwnF F w0 (l.set i (g, ds)) L RD w2 → wpList P ops Q rest (a.put op.dst undef) w2) : wpList P ops Q (op :: rest) a w :=
 wpList_store_blk1 hgd ty x y ho g o v hx hy cs (HO.at i hi) hs hle h1 (fun w2 h2 h3 _ => h w2 (HO.set i hi (hd ▸ h2) h3))
theorem wp_store_ownF (i : Nat) (ty : TypeId) (x y : Operand) (ho : op.op = .store ty x y) (g o : Nat) (v : Value) (vs : List Value) (hx : a.eval x = .pointer (some ⟨g, o, none⟩)) (hy : a.eval y = v) (hv : v.cells = vs.toArray)
  (HO : OwnF F w0 l L RD w) {cs ds : List Value} (hi : l[i]? = some (g, cs)) (hs : (P.info? ty).map (·.size) = some vs.length) (hle : o + vs.length ≤ cs.length) (h1 : ∀ u ∈ vs, u.oneCell' = true) (hd : patch cs o vs = ds)
  (h : ∀ w2, OwnF F w0 (l.set i (g, ds)) L RD w2 → K (a.put op.dst undef) w2) : op.wp P a w K Q :=
 wp_store_lay ty x y ho g o v vs cs hx hy hv (HO.at i hi) hs hle h1 (fun w2 h2 h3 _ => h w2 (HO.set i hi (hd ▸ h2) h3))
theorem wpList_append_ownF {t e : TypeId} {z : Value} {size bytes : Nat} (T : SliceT P t e z size bytes) (hgd : op.guard = .none) (s x : Operand)
  (ho : op.op = .call { callee := .builtin .append, args := #[s, x], argTypes := #[t, t] }) {n : Nat} {v : Value} {xs : List Value} (cs : List Value) (H : OwnF F w0 l (L ++ ⟨e, size, v, n, xs⟩ :: M) RD w)
  (hs : a.eval s = v) (hx : a.eval x = .slice (some ⟨w.heap.size, 0, .none⟩) 1 1) (hl : cs.length = size) (h1 : ∀ u ∈ cs, u.oneCell' = true) (hn : (n + 1) * bytes ≤ 140737488355328)
  (h : ∀ v' w', OwnF F w0 l (L ++ ⟨e, size, v', n + 1, xs ++ cs⟩ :: M) RD w' → v'.oneCell' = true → wpList P ops Q rest (a.put op.dst v') w') : wpList P ops Q (op :: rest) a (w.alloc (.cells cs.toArray e)) :=
 wpList_append_own1 T hgd s x ho cs hs (H.rows.own ⟨e, size, v, n, xs⟩ (by simp)) hx hl h1 hn H.below.size (fun v' w' q1 q2 q3 q4 => h v' w' (H.push (r := ⟨e, size, v, n, xs⟩) q1 q2 q3) q4)
theorem wp_append_ownF {t e : TypeId} {z : Value} {size bytes : Nat} (T : SliceT P t e z size bytes) (s x : Operand)
  (ho : op.op = .call { callee := .builtin .append, args := #[s, x], argTypes := #[t, t] }) {n : Nat} {v : Value} {xs : List Value} (cs : List Value) (H : OwnF F w0 l (L ++ ⟨e, size, v, n, xs⟩ :: M) RD w)
  (hs : a.eval s = v) (hx : a.eval x = .slice (some ⟨w.heap.size, 0, .none⟩) 1 1) (hl : cs.length = size) (h1 : ∀ u ∈ cs, u.oneCell' = true) (hn : (n + 1) * bytes ≤ 140737488355328)
  (h : ∀ v' w', OwnF F w0 l (L ++ ⟨e, size, v', n + 1, xs ++ cs⟩ :: M) RD w' → v'.oneCell' = true → K (a.put op.dst v') w') : op.wp P a (w.alloc (.cells cs.toArray e)) K Q :=
 wp_append_own1 T s x ho cs hs (H.rows.own ⟨e, size, v, n, xs⟩ (by simp)) hx hl h1 hn H.below.size (fun v' w' q1 q2 q3 q4 => h v' w' (H.push (r := ⟨e, size, v, n, xs⟩) q1 q2 q3) q4)
theorem wp_append_ownFs {t e : TypeId} {z : Value} {size bytes : Nat} (T : SliceT P t e z size bytes) (s x : Operand)
  (ho : op.op = .call { callee := .builtin .append, args := #[s, x], argTypes := #[t, t] }) {n m c : Nat} {ad : Option Addr} {v : Value} {xs news : List Value} (H : OwnF F w0 l (L ++ ⟨e, size, v, n, xs⟩ :: M) RD w)
  (hs : a.eval s = v) (hx : a.eval x = .slice ad m c) (hnil : ad = none → c = 0) (hmc : m ≤ c) (hrow : HRow (frag w) ad news) (hl : news.length = m * size) (h1 : ∀ u ∈ news, u.oneCell' = true) (hn : (n + m) * bytes ≤ 140737488355328)
  (h : ∀ v' w', OwnF F w0 l (L ++ ⟨e, size, v', n + m, xs ++ news⟩ :: M) RD w' → v'.oneCell' = true → K (a.put op.dst v') w') : op.wp P a w K Q := by
 refine wp_append_opt T s x ho hs (H.rows.own ⟨e, size, v, n, xs⟩ (by simp)) hx hnil hmc hrow hl h1 hn H.below.size (fun v' w' q1 q2 q3 => h v' w' (H.push (r := ⟨e, size, v, n, xs⟩) q1 q2 ?_) (own_one q1))
 rcases q3 with e | e
 ·exact .inl e
 ·exact .inr ⟨_, e, Nat.le_refl _⟩
end
section
variable {P : Program} {ops : Array Oper} {Q : Exit → Act → World → Prop} {rest : List Oper} {a : Act} {w : World} {o : Oper}
theorem atOp (k : Op) {d t p af g} (h : wpList P ops Q (⟨d, k, t, p, af, g⟩ :: rest) a w) : wpList P ops Q (⟨d, k, t, p, af, g⟩ :: rest) a w := h
end
theorem patch_whole' (c z : List Value) (h : z.length = c.length) : patch z 0 c = c := by simp [patch, ← h]
def rowC (e : TypeId) (s : Nat) (u : Value) (es : List (List Value)) : ORow := ⟨e, s, u, es.length, es.flatten⟩
theorem rowC_snoc (e : TypeId) (s : Nat) (u : Value) (es : List (List Value)) (c : List Value) : rowC e s u (es ++ [c]) = ⟨e, s, u, es.length + 1, es.flatten ++ c⟩ := by simp [rowC]
end Go.Proofs.YtebekgdjknenlaaGreatDoor
namespace Go.Proofs.YtebekgdjknenlaaGreatDoor
open Go.RowKit
theorem patch_app {pre rest vs : List Value} {off : Nat} (h : pre.length = off) : patch (pre ++ rest) off vs = (pre ++ vs) ++ rest.drop vs.length := by
 subst h
 unfold patch
 rw [List.take_left' rfl, List.drop_append, List.drop_of_length_le (by omega)]
 simp
def placesOf (P : Program) (fs : Array Field) (pl : Array (Nat × Nat)) : Prop := ∀ w : World, (fs.mapM (fun f => do pure (f.offset, ← Go.sizeOf f.type) : Field → Sem (Nat × Nat))).run P w = .ok pl w
theorem run_build_of {P : Program} {t : TypeId} {zs cs : List Value} {pl : Array (Nat × Nat)} {parts : List (Nat × Value)} (hpl : ∃ fs, P.underlying t = some (.struct fs) ∧ placesOf P fs pl) (hz : (P.info? t).map (·.zero) = some (some (.agg zs.toArray)))
  (hf : Instr.fill (pl[·]?) zs.toArray parts = some cs.toArray) (w : World) : (Instr.build t parts.toArray).run P w = .ok (.agg cs.toArray) w := by
 obtain ⟨i, hi, hzi⟩ := Option.map_eq_some_iff.1 hz
 obtain ⟨fs, ht, hp⟩ := hpl
 have hp1 := hp w
 unfold Instr.build
 simp only [Go.zeroValue, typeInfo, hi, hzi, run_underlying ht, Sem.run_bind, Sem.run_pure, Result.andThen_ok, Value.cells]
 simp [Go.zeroValue, typeInfo, hi, hzi, run_underlying ht, Result.andThen, Value.cells, Sem.run_bind, Sem.run_pure] at hp1 ⊢
 simp [hp1, Result.andThen, hf]
theorem fill_next {place : Nat → Option (Nat × Nat)} {i : Nat} {v : Value} {pre vs rest out : List Value} {more : List (Nat × Value)} (hp : place i = some (pre.length, vs.length)) (hv : v.cells = vs.toArray) (hl : vs.length ≤ rest.length)
  (h : Instr.fill place ((pre ++ vs) ++ rest.drop vs.length).toArray more = some out.toArray) : Instr.fill place (pre ++ rest).toArray ((i, v) :: more) = some out.toArray := by
 rw [fill_part hp hv (by simp; exact hl), patch_app rfl]; exact h
section
variable {P : Program} {ops : Array Oper} {Q : Exit → Act → World → Prop} {S : World → Prop}
theorem yieldsIf_buildN {op : Oper} {a : Act} (hw : Region.wanted op (yielded ops a.tmps) = true) (t : TypeId) (parts : List (Nat × Operand)) (ho : op.op = .build t parts.toArray) (vals : List (Nat × Value)) (v : Value)
  (he : parts.map (fun p => (p.1, a.eval p.2)) = vals) (hr : ∀ w, (Instr.build t vals.toArray).run P w = .ok v w) : YieldsIf P ops S op v a :=
 .inl ⟨hw, fun w _ => by
  unfold execOp
  have e : (parts.toArray.map fun x => (x.1, a.eval x.2)) = vals.toArray := by rw [List.map_toArray, he]
  simp only [ho, e, Sem.run_bind, Sem.run_pure, hr w, Result.andThen_ok]⟩
end
end Go.Proofs.YtebekgdjknenlaaGreatDoor
