/- Rows of the call's own that are read as lists of structs, and grow by one. -/
import Derived.Test.YtebekgdjknenlaaGreatDoorGpAN
import Derived.Deep.AppendLies
import Derived.Laws.OwnMore
set_option linter.unusedVariables false
set_option linter.unusedSimpArgs false
namespace Go.Proofs.YtebekgdjknenlaaGreatDoor
open Go.RowKit
structure RowR (B : Nat) (e : TypeId) (size : Nat) (X : List (Option Nat)) (R : Frag → List (List Value) → Prop) (w : World) (v : Value) (es : List (List Value)) : Prop where
 own : w.ownsRow B e size v es.length es.flatten
 sizes : ∀ x ∈ es, x.length = size
 rd : R (fragE w (v.ownBlock :: X)) es
theorem RowR.nil {B : Nat} {e : TypeId} {size : Nat} {X : List (Option Nat)} {R : Frag → List (List Value) → Prop} {w : World} (hR : ∀ h, R h []) : RowR B e size X R w (.slice none 0 0) [] :=
 ⟨⟨by simp, .inl ⟨rfl, rfl⟩⟩, fun x h => by simp at h, hR _⟩
theorem RowR.below {B : Nat} {e : TypeId} {size : Nat} {X : List (Option Nat)} {R : Frag → List (List Value) → Prop} {w w' : World} {v : Value} {es : List (List Value)} (hR : ∀ h h', FLe h h' → R h es → R h' es) (h : RowR B e size X R w v es) (hb : Below w.heap.size w w') : RowR B e size X R w' v es :=
 ⟨h.own.kept (grown_of_below hb none) (by
  rcases h.own.2 with ⟨rfl, _⟩ | ⟨g, cap, cur, rfl, _⟩
  ·exact .inl rfl
  ·exact .inr (by simp [Value.ownBlock])), h.sizes, hR _ _ (belowE hb (fun _ h => .inl h)) h.rd⟩
theorem RowR.to {B : Nat} {e : TypeId} {size : Nat} {X : List (Option Nat)} {R R' : Frag → List (List Value) → Prop} {w : World} {v : Value} {es : List (List Value)} (h : RowR B e size X R w v es) (hR : ∀ h, R h es → R' h es) : RowR B e size X R' w v es :=
 ⟨h.own, h.sizes, hR _ h.rd⟩
theorem RowR.flat {B : Nat} {e : TypeId} {size : Nat} {X : List (Option Nat)} {R : Frag → List (List Value) → Prop} {w : World} {v : Value} {es : List (List Value)} (h : RowR B e size X R w v es) (hX : ∀ k, some k ∈ X → k < B) : FlatC size (fragE w X) v es :=
 FlatC.of_owns h.own rfl h.sizes (by
  rcases h.own.2 with ⟨rfl, _⟩ | ⟨g, cap, cur, rfl, hb, _⟩
  ·exact .inl rfl
  ·right; intro hm
   have := hX g hm
   omega)
theorem RowR.read {B : Nat} {e : TypeId} {size : Nat} {X : List (Option Nat)} {R : Frag → List (List Value) → Prop} {w : World} {v : Value} {es : List (List Value)} (hR : ∀ h h', FLe h h' → R h es → R h' es) (h : RowR B e size X R w v es) : R (fragE w X) es :=
 hR _ _ (subE w (fun k hk => by simp [hk])) h.rd
theorem RowR.lt {B : Nat} {e : TypeId} {size : Nat} {X : List (Option Nat)} {R : Frag → List (List Value) → Prop} {w : World} {v : Value} {es : List (List Value)} (h : RowR B e size X R w v es) (hX : ∀ k, some k ∈ X → k < w.heap.size) : ∀ k, some k ∈ v.ownBlock :: X → k < w.heap.size := fun k hk => by
 rcases List.mem_cons.1 hk with hk | hk
 ·exact (h.own.lt k hk.symm).2
 ·exact hX k hk
theorem RowR.ge {B : Nat} {e : TypeId} {size : Nat} {X : List (Option Nat)} {R : Frag → List (List Value) → Prop} {w : World} {v : Value} {es : List (List Value)} (h : RowR B e size X R w v es) : ∀ k, v.ownBlock = some k → B ≤ k := fun k hk => (h.own.lt k hk).1
theorem RowR.one {B : Nat} {e : TypeId} {size : Nat} {X : List (Option Nat)} {R : Frag → List (List Value) → Prop} {w : World} {v : Value} {es : List (List Value)} (h : RowR B e size X R w v es) : v.oneCell' = true := by
 rcases h.own.2 with ⟨rfl, _⟩ | ⟨g, cap, cur, rfl, _⟩ <;> rfl
theorem RowR.push {B : Nat} {e : TypeId} {size : Nat} {X : List (Option Nat)} {R R' : Frag → List (List Value) → Prop} {w w8 : World} {v : Value} {es : List (List Value)} {cs : List Value} {g cap : Nat} (h : RowR B e size X R w v es) (hl : cs.length = size)
  (hown : w8.ownsRow B e size (.slice (some ⟨g, 0, none⟩) (es.length + 1) cap) (es.length + 1) (es.flatten ++ cs)) (hg : (w.alloc (.cells cs.toArray e)).grownBy w8 v.ownBlock) (hat : v.ownBlock = some g ∨ g = w.heap.size + 1)
  (hR : ∀ h', FLe (fragE w (v.ownBlock :: X)) h' → R' h' (es ++ [cs])) : RowR B e size X R' w8 (.slice (some ⟨g, 0, none⟩) (es.length + 1) cap) (es ++ [cs]) ∧ w.grownBy w8 v.ownBlock := by
 have hg2 : w.grownBy w8 v.ownBlock := ⟨hg.os, hg.tape, hg.output, Nat.le_trans (by simp) hg.size, fun k hk hne => (hg.block k (by simp; omega) hne).trans (Below.heap_alloc w _ k hk)⟩
 refine ⟨⟨by simpa using hown, fun x hx => ?_, hR _ (grownE hg2 (.inr (by simp)) (fun k hk => ?_))⟩, hg2⟩
 ·rcases List.mem_append.1 hx with hx | hx
  ·exact h.sizes x hx
  ·simp only [List.mem_singleton] at hx; rw [hx]; exact hl
 ·rcases List.mem_cons.1 hk with hk | hk
  ·have hk : k = g := by simpa [Value.ownBlock] using hk
   rcases hat with h2 | h2
   ·left; rw [hk, h2]; exact List.mem_cons_self ..
   ·right; omega
  ·exact .inl (List.mem_cons_of_mem _ hk)
theorem wp_append_one {P : Program} {t e : TypeId} {z : Value} {size bytes : Nat} (T : SliceT P t e z size bytes) {o : Oper} {a : Act} {K : Act → World → Prop} {Q : Exit → Act → World → Prop} (s x : Operand)
  (ho : o.op = .call { callee := .builtin .append, args := #[s, x], argTypes := #[t, t] }) {w : World} {B : Nat} {X : List (Option Nat)} {R : Frag → List (List Value) → Prop} {v : Value} {es : List (List Value)} (R' : Frag → List (List Value) → Prop) (cs : List Value)
  (hs : a.eval s = v) (h : RowR B e size X R w v es) (hx : a.eval x = .slice (some ⟨w.heap.size, 0, none⟩) 1 1) (hl : cs.length = size) (h1 : ∀ u ∈ cs, u.oneCell' = true)
  (hn : (es.length + 1) * bytes ≤ 140737488355328) (hB : B ≤ w.heap.size) (hR : ∀ h', FLe (fragE w (v.ownBlock :: X)) h' → R' h' (es ++ [cs]))
  (hK : ∀ v' w', RowR B e size X R' w' v' (es ++ [cs]) → Below B w w' → w.grownBy w' v.ownBlock → v' ≠ .slice none 0 0 → K (a.put o.dst v') w') : o.wp P a (w.alloc (.cells cs.toArray e)) K Q := by
 obtain ⟨i, hi, hz0, hz1, hz2⟩ := info_parts T.info
 have hb := T.bpos
 have hn' : es.length + 1 ≤ (es.length + 1) * bytes := Nat.le_mul_of_pos_right _ hb
 refine wp_append_lies _ s x t ho B e i z size bytes T.und hi hz0 hz1 hz2 T.cells T.pos v es.length es.flatten hs (h.own.alloc _) ⟨w.heap.size, 0, none⟩ 1 1 cs hx (by simpa using hl) (World.news_of_block (heap_alloc_new w _)) h1 (by decide) (by unfold maxLen; omega) hn (by simp; omega) (w.heap.size + 1) (by simp) ?_
 intro g cap w8 ho8 hg8 hat hlt
 obtain ⟨h8, hg⟩ := h.push hl ho8 hg8 hat hR
 exact hK _ w8 h8 (Below.grown (Below.refl _ _) hg hB (fun k hk => h.ge k hk)) hg (by simp)
theorem wpList_buildSlice1 {P : Program} {ops : Array Oper} {rest : List Oper} {op : Oper} {a : Act} {w : World} {Q : Exit → Act → World → Prop} (hgd : op.guard = none) (t e : TypeId) (x : Operand) (ho : op.op = .buildSlice t 1 #[(0, x)]) (c0 : List Value) (v0 : Value) (hx : a.eval x = v0) (ht : P.underlying t = some (.slice e))
  (hz : (P.info? e).map (fun i => (i.size, i.zero.map (fun z => z.cells.size))) = some (c0.length, some c0.length)) (h0 : 0 < c0.length) (hb : c0.length ≤ 1000) (e0 : v0.cells = c0.toArray)
  (h : wpList P ops Q rest (a.put op.dst (.slice (some ⟨w.heap.size, 0, none⟩) 1 1)) (w.alloc (.cells c0.toArray e))) : wpList P ops Q (op :: rest) a w :=
 wpList_plain hgd fun _ hK => wp_buildSlice1 t e x ho c0 v0 hx ht hz h0 hb e0 (hK _ _ h)
theorem wp_append_opt {P : Program} {t e : TypeId} {z : Value} {size bytes : Nat} (T : SliceT P t e z size bytes) {o : Oper} {a : Act} {K : Act → World → Prop} {Q : Exit → Act → World → Prop} (s x : Operand)
  (ho : o.op = .call { callee := .builtin .append, args := #[s, x], argTypes := #[t, t] }) {W : World} {base n m c : Nat} {ad : Option Addr} {v : Value} {xs news : List Value}
  (hs : a.eval s = v) (hown : W.ownsRow base e size v n xs) (hx : a.eval x = .slice ad m c) (hnil : ad = none → c = 0) (hmc : m ≤ c) (hrow : HRow (frag W) ad news) (hl : news.length = m * size) (h1 : ∀ u ∈ news, u.oneCell' = true)
  (hn : (n + m) * bytes ≤ 140737488355328) (hbase : base ≤ W.heap.size)
  (h : ∀ v' w', w'.ownsRow base e size v' (n + m) (xs ++ news) → W.grownBy w' v.ownBlock → (v'.ownBlock = v.ownBlock ∨ v'.ownBlock = some W.heap.size) → K (a.put o.dst v') w') : o.wp P a W K Q := by
 obtain ⟨i, hi, hz0, hz1, hz2⟩ := info_parts T.info
 have hb := T.bpos
 have hn' : n + m ≤ (n + m) * bytes := Nat.le_mul_of_pos_right _ hb
 cases ad with
 | some p =>
  have hcell : ∀ j u, news[j]? = some u → W.cell? (p.add j) = some u := by
   intro j u hu
   rcases hrow with rfl | ⟨b, off, cur, t', fr, e2, hb2, hc⟩
   ·simp at hu
   ·cases e2
    have hj := (List.getElem?_eq_some_iff.1 hu).1
    rw [Addr.add_none, cell_of_row W b _ cur t' fr hb2, hc j hj, hu]
  obtain ⟨v', w', hr, h2, h3, h4, h5⟩ := run_append_own_at (P := P) W base t o.type e i z size bytes T.und hi hz0 hz1 hz2 T.cells T.pos v n xs hown p m c news hl hcell h1 (by unfold maxLen; omega) hn hbase
  unfold Oper.wp execOp
  simp only [ho, resolve, invoke, builtin, Sem.run_bind, Sem.run_pure, Result.andThen_ok, List.map_toArray, List.map_cons, List.map_nil, hs, hx, hr]
  exact h v' w' h2 h3 h5
 | none =>
  obtain rfl := hnil rfl
  obtain rfl : m = 0 := by omega
  obtain rfl : news = [] := List.eq_nil_of_length_eq_zero (by simpa using hl)
  have hrun := run_append_owned_none (P := P) (w := W) base t o.type e i size T.und hi v n xs hown
  unfold Oper.wp
  simp [execOp, ho, resolve, invoke, builtin, hs, hx, hrun, Result.andThen]
  exact h v W (by simpa using hown) (World.grownBy.refl W _) (.inl rfl)
theorem own_blk {w : World} {B : Nat} {e : TypeId} {size g n c : Nat} {xs : List Value} (h : w.ownsRow B e size (.slice (some ⟨g, 0, none⟩) n c) n xs) {o : Nat} {vs : List Value} (ho : o + vs.length ≤ xs.length) :
  ∃ cs, Blk w g cs ∧ o + vs.length ≤ cs.length ∧ (w.setRow g (patch cs o vs).toArray).ownsRow B e size (.slice (some ⟨g, 0, none⟩) n c) n (patch xs o vs) := by
 rcases h.2 with ⟨hn, _⟩ | ⟨g', cap, cur, hv, hb, hg, hnc, hcm, hcs, htake⟩
 ·cases hn
 ·cases hv
  have hxl := h.1
  have hcl : n * size ≤ cur.toList.length := by rw [Array.length_toList, hcs]; exact Nat.mul_le_mul_right _ hnc
  have hle : o + vs.length ≤ cur.toList.length := by omega
  refine ⟨cur.toList, ⟨e, by simpa using hg⟩, hle, ⟨by rw [patch_len ho]; exact hxl, .inr ⟨g, c, (patch cur.toList o vs).toArray, rfl, hb, setRow_heap w g cur _ e _ hg, hnc, hcm, ?_, ?_⟩⟩⟩
  ·simp only [List.size_toArray]; rw [patch_len hle, Array.length_toList, hcs]
  ·show List.take (n * size) (patch cur.toList o vs) = patch xs o vs
   rw [← htake]
   unfold patch
   have ht : (List.take o cur.toList).length = o := by rw [List.length_take]; omega
   rw [List.take_append, List.take_append, List.take_take, ht, List.take_of_length_le (show vs.length ≤ n * size - o by omega), Nat.min_eq_right (by omega), List.take_take, Nat.min_eq_left (by omega), List.drop_take, Nat.sub_sub]
theorem wp_store_own {P : Program} {op : Oper} {a : Act} {w : World} {K : Act → World → Prop} {Q : Exit → Act → World → Prop} (ty : TypeId) (x y : Operand) (ho : op.op = .store ty x y)
  {B : Nat} {e : TypeId} {size g n c o : Nat} {xs vs : List Value} {v : Value} (hx : a.eval x = .pointer (some ⟨g, o, none⟩)) (hy : a.eval y = v) (hv : v.cells = vs.toArray) (h : w.ownsRow B e size (.slice (some ⟨g, 0, none⟩) n c) n xs)
  (hi : (P.info? ty).map (·.size) = some vs.length) (hle : o + vs.length ≤ xs.length) (h1 : ∀ u ∈ vs, u.oneCell' = true)
  (hK : ∀ w2, w2.ownsRow B e size (.slice (some ⟨g, 0, none⟩) n c) n (patch xs o vs) → w.grownBy w2 (some g) → w2.heap.size = w.heap.size → K (a.put op.dst undef) w2) : op.wp P a w K Q := by
 obtain ⟨cs, hb, hl, h2⟩ := own_blk h hle
 exact wp_store_blk ty x y ho g o v vs cs hx hy hv hb hi hl h1 (hK _ h2 (setRow_grown _) (by simp))
theorem wp_store_lay {P : Program} {op : Oper} {a : Act} {w : World} {K : Act → World → Prop} {Q : Exit → Act → World → Prop} (ty : TypeId) (x y : Operand) (ho : op.op = .store ty x y)
  (g o : Nat) (v : Value) (vs cs : List Value) (hx : a.eval x = .pointer (some ⟨g, o, none⟩)) (hy : a.eval y = v) (hv : v.cells = vs.toArray) (hb : Blk w g cs)
  (hi : (P.info? ty).map (·.size) = some vs.length) (hle : o + vs.length ≤ cs.length) (h1 : ∀ u ∈ vs, u.oneCell' = true)
  (hK : ∀ w2, Blk w2 g (patch cs o vs) → w.grownBy w2 (some g) → w2.heap.size = w.heap.size → K (a.put op.dst undef) w2) : op.wp P a w K Q :=
 wp_store_blk ty x y ho g o v vs cs hx hy hv hb hi hle h1 (hK _ (hb.set _) (setRow_grown _) (by simp))
theorem one_cells {v : Value} (h : v.oneCell' = true) : v.cells = [v].toArray := by cases v <;> first | rfl | cases h
theorem wp_append_own1 {P : Program} {t e : TypeId} {z : Value} {size bytes : Nat} (T : SliceT P t e z size bytes) {o : Oper} {a : Act} {K : Act → World → Prop} {Q : Exit → Act → World → Prop} (s x : Operand)
  (ho : o.op = .call { callee := .builtin .append, args := #[s, x], argTypes := #[t, t] }) {w : World} {B n : Nat} {v : Value} {xs : List Value} (cs : List Value)
  (hs : a.eval s = v) (hown : w.ownsRow B e size v n xs) (hx : a.eval x = .slice (some ⟨w.heap.size, 0, none⟩) 1 1) (hl : cs.length = size) (h1 : ∀ u ∈ cs, u.oneCell' = true)
  (hn : (n + 1) * bytes ≤ 140737488355328) (hB : B ≤ w.heap.size)
  (hK : ∀ v' w', w'.ownsRow B e size v' (n + 1) (xs ++ cs) → w.grownBy w' v.ownBlock → (v'.ownBlock = v.ownBlock ∨ ∃ g, v'.ownBlock = some g ∧ w.heap.size ≤ g) → v'.oneCell' = true → K (a.put o.dst v') w') : o.wp P a (w.alloc (.cells cs.toArray e)) K Q := by
 obtain ⟨i, hi, hz0, hz1, hz2⟩ := info_parts T.info
 have hb := T.bpos
 have hn' : n + 1 ≤ (n + 1) * bytes := Nat.le_mul_of_pos_right _ hb
 refine wp_append_lies _ s x t ho B e i z size bytes T.und hi hz0 hz1 hz2 T.cells T.pos v n xs hs (hown.alloc _) ⟨w.heap.size, 0, none⟩ 1 1 cs hx (by simpa using hl) (World.news_of_block (heap_alloc_new w _)) h1 (by decide) (by unfold maxLen; omega) hn (by simp; omega) (w.heap.size + 1) (by simp) ?_
 intro g cap w8 ho8 hg hat hlt
 have hg2 : w.grownBy w8 v.ownBlock := ⟨hg.os, hg.tape, hg.output, Nat.le_trans (by simp) hg.size, fun k hk hne => (hg.block k (by simp; omega) hne).trans (Below.heap_alloc w _ k hk)⟩
 refine hK _ w8 ho8 hg2 ?_ rfl
 rcases hat with h2 | h2
 ·exact .inl h2.symm
 ·exact .inr ⟨g, rfl, by omega⟩
def fragJ (h0 : Frag) (w : World) (B : Nat) (E : List (Option Nat)) : Frag := fun k => if B ≤ k then fragE w E k else h0 k
theorem fragJ_grown {h0 : Frag} {w w' : World} {B : Nat} {X : Option Nat} {E E' : List (Option Nat)} (hg : w.grownBy w' X) (hX : ∀ k, X = some k → k < B ∨ X ∈ E) (hE : ∀ k, some k ∈ E' → some k ∈ E ∨ w.heap.size ≤ k) : FLe (fragJ h0 w B E) (fragJ h0 w' B E') := fun k o e => by
 unfold fragJ fragE at e ⊢
 split at e
 ·rename_i hB
  rw [if_pos hB]
  split at e
  ·cases e
  ·rename_i h
   have hk := heap_lt e
   rw [if_neg (fun e2 => by rcases hE k e2 with h2 | h2; exact h h2; omega)]
   refine (hg.block k hk ?_).trans e
   intro e2
   rcases hX k e2.symm with h2 | h2
   ·omega
   ·exact h (e2 ▸ h2)
 ·rename_i hB
  rw [if_neg hB]; exact e
theorem fragJ_down {h0 : Frag} {w : World} {B B' : Nat} {E E' : List (Option Nat)} (hd : ∀ k o, h0 k = some o → k < B') (hB : B' ≤ B) (hE : ∀ k, some k ∈ E' → k < B) : FLe (fragJ h0 w B E) (fragJ h0 w B' E') := fun k o e => by
 unfold fragJ at e ⊢
 split at e
 ·rename_i hk
  rw [if_pos (by omega)]
  unfold fragE at e ⊢
  split at e
  ·cases e
  ·rw [if_neg (fun h => by have := hE k h; omega)]; exact e
 ·rw [if_neg (by have := hd k o e; omega)]; exact e
theorem fragJ_sub {h0 : Frag} {w : World} {B : Nat} {E E' : List (Option Nat)} (hE : ∀ k, some k ∈ E' → some k ∈ E) : FLe (fragJ h0 w B E) (fragJ h0 w B E') :=
 fragJ_grown (World.grownBy.refl w .none) (fun k h => by cases h) (fun k h => .inl (hE k h))
structure Built (h0 : Frag) (B g : Nat) (w0 : World) (cs : List Value) (L : List ORow) (RD : Frag → Prop) (w : World) : Prop where
 blk : Blk w g cs
 rows : Rows B w L
 rd : RD (fragJ h0 w B (obs L))
 le : FLe h0 (frag w)
 below : Below w0.heap.size w0 w
 lts : w0.heap.size ≤ g ∧ g < B ∧ B ≤ w.heap.size
 dom : ∀ k o, h0 k = some o → k < w0.heap.size
def Mono (RD : Frag → Prop) : Prop := ∀ h h', FLe h h' → RD h → RD h'
theorem Built.next {h0 : Frag} {B g : Nat} {w0 w w' : World} {cs : List Value} {L : List ORow} {RD : Frag → Prop} (h : Built h0 B g w0 cs L RD w) (hm : Mono RD) (hb : Below w.heap.size w w') : Built h0 B g w0 cs L RD w' :=
 have hg := grown_of_below hb .none
 ⟨h.blk.below hb h.blk.lt, h.rows.grown hg (fun k e => by cases e), hm _ _ (fragJ_grown hg (fun k e => by cases e) (fun k hk => .inl hk)) h.rd, h.le.trans (below_le hb), h.below.trans (hb.mono h.below.size), ⟨h.lts.1, h.lts.2.1, Nat.le_trans h.lts.2.2 hb.size⟩, h.dom⟩
theorem Built.lt {h0 : Frag} {B g : Nat} {w0 w : World} {cs : List Value} {L : List ORow} {RD : Frag → Prop} (h : Built h0 B g w0 cs L RD w) : w0.heap.size ≤ w.heap.size := h.below.size
theorem Built.blk8 {h0 : Frag} {B g : Nat} {w0 w w8 : World} {cs : List Value} {L : List ORow} {RD : Frag → Prop} {r : ORow} (h : Built h0 B g w0 cs L RD w) (hr : r ∈ L) (hg : w.grownBy w8 r.v.ownBlock) : Blk w8 g cs :=
 h.blk.grown hg (fun e => by have h1 := ((h.rows.own r hr).lt g e.symm).1; have := h.lts; omega)
theorem Built.other {h0 : Frag} {B g g2 : Nat} {w0 w w8 w9 : World} {cs ds : List Value} {L : List ORow} {RD : Frag → Prop} {r : ORow} (h : Built h0 B g w0 cs L RD w) (hr : r ∈ L) (hB : Blk w g2 ds) (hg2 : g2 < B) (hne : g2 ≠ g) (hg : w.grownBy w8 r.v.ownBlock) (hg9 : w8.grownBy w9 (some g)) : Blk w9 g2 ds :=
 (hB.grown hg (fun e => by have h1 := ((h.rows.own r hr).lt g2 e.symm).1; omega)).grown hg9 (fun e => hne (Option.some.inj e))
theorem Built.push {h0 : Frag} {B g : Nat} {w0 w w8 w9 : World} {cs cs' : List Value} {L M : List ORow} {RD RD' : Frag → Prop} {r : ORow} {v' : Value} {n' : Nat} {xs' : List Value} (h : Built h0 B g w0 cs (L ++ r :: M) RD w)
  (ho : w8.ownsRow B r.ty r.size v' n' xs') (hg : w.grownBy w8 r.v.ownBlock) (hat : v'.ownBlock = r.v.ownBlock ∨ ∃ g, v'.ownBlock = some g ∧ w.heap.size ≤ g) (hB9 : Blk w9 g cs') (hg9 : w8.grownBy w9 (some g))
  (hRD : ∀ h', FLe (fragJ h0 w B (obs (L ++ r :: M))) h' → RD' h') : Built h0 B g w0 cs' (L ++ ⟨r.ty, r.size, v', n', xs'⟩ :: M) RD' w9 := by
 have hown := h.rows.own r (by simp)
 have hge : ∀ k, r.v.ownBlock = some k → B ≤ k := fun k e => (hown.lt k e).1
 obtain ⟨hr8, _⟩ := Rows.push h.rows ho hg hat
 have hf8 : FLe (fragJ h0 w B (obs (L ++ r :: M))) (fragJ h0 w8 B (obs (L ++ ⟨r.ty, r.size, v', n', xs'⟩ :: M))) := by
  refine fragJ_grown hg (fun k hk => .inr ?_) (fun k hk => ?_)
  ·show r.v.ownBlock ∈ obs (L ++ r :: M)
   unfold obs; simp
  ·unfold obs at hk ⊢
   simp only [List.map_append, List.map_cons, List.mem_append, List.mem_cons] at hk ⊢
   rcases hk with hk | hk | hk
   ·exact .inl (.inl hk)
   ·rcases hat with h2 | ⟨g, h2, h3⟩
    ·left; right; left; rw [hk]; exact h2
    ·right; rw [h2] at hk; cases hk; exact h3
   ·exact .inl (.inr (.inr hk))
 have hf9 : FLe (fragJ h0 w8 B (obs (L ++ ⟨r.ty, r.size, v', n', xs'⟩ :: M))) (fragJ h0 w9 B (obs (L ++ ⟨r.ty, r.size, v', n', xs'⟩ :: M))) := fragJ_grown hg9 (fun k e => by cases e; left; exact h.lts.2.1) (fun k hk => .inl hk)
 have hb : Below w0.heap.size w0 w9 := Below.grown (Below.grown h.below hg h.below.size (fun k e => by have := hge k e; have := h.lts; omega)) hg9 (Nat.le_trans h.below.size hg.size) (fun k e => by cases e; exact h.lts.1)
 exact ⟨hB9, hr8.grown hg9 (fun k e => by cases e; exact h.lts.2.1), hRD _ (hf8.trans hf9), fun k o e => by
   have hk := h.dom k o e
   have h1 := h.le k o e
   have h2 : w.heap[k]? = some o := h1
   have h3 : w8.heap[k]? = some o := (hg.block k (heap_lt h2) (fun e2 => by have := hge k e2.symm; have := h.lts; omega)).trans h2
   exact (hg9.block k (heap_lt h3) (fun e2 => by cases e2; have := h.lts; omega)).trans h3, hb, ⟨h.lts.1, h.lts.2.1, Nat.le_trans h.lts.2.2 (Nat.le_trans hg.size hg9.size)⟩, h.dom⟩
theorem Built.fresh {h0 : Frag} {B g : Nat} {w0 w w' : World} {cs : List Value} {L : List ORow} {RD : Frag → Prop} (h : Built h0 B g w0 cs L RD w) : FLe (fragJ h0 w' w.heap.size []) (fragJ h0 w' B (obs L)) :=
 fragJ_down (fun k o e => by have := h.dom k o e; have := h.lts; omega) h.lts.2.2 (fun k hk => (h.rows.ge k hk).2)
theorem Built.done {h0 : Frag} {B g gr : Nat} {w0 w w' : World} {cs : List Value} {L : List ORow} {RD : Frag → Prop} (h : Built h0 B g w0 cs L RD w) (hm : Mono RD) (hg : w.grownBy w' (some gr)) (hr : w0.heap.size ≤ gr) (hgB : gr < B) :
  RD (fragJ h0 w' w0.heap.size []) ∧ Rows B w' L ∧ Below w0.heap.size w0 w' ∧ FLe h0 (frag w') := by
 have hX : ∀ k, some gr = some k → k < B := fun k e => by cases e; exact hgB
 refine ⟨hm _ _ ((fragJ_grown hg (fun k e => .inl (hX k e)) (fun k hk => .inl hk)).trans ((fragJ_sub (E' := []) (fun k hk => by cases hk)).trans (fragJ_down h.dom (by have := h.lts; omega) (fun k hk => by cases hk)))) h.rd, h.rows.grown hg hX, Below.grown h.below hg h.below.size (fun k e => by cases e; exact hr), fun k o e => ?_⟩
 have h2 : w.heap[k]? = some o := h.le k o e
 exact (hg.block k (heap_lt h2) (fun e2 => by cases e2; have := h.dom _ _ e; omega)).trans h2
theorem HRow.of_ownsJ {h0 : Frag} {w : World} {B base : Nat} {e : TypeId} {size : Nat} {v : Value} {n : Nat} {xs : List Value} (ho : w.ownsRow base e size v n xs) (hB : B ≤ base) : ∃ a cap, v = .slice a n cap ∧ HRow (fragJ h0 w B []) a xs ∧ n ≤ cap ∧ cap ≤ maxLen ∧ (a = .none → cap = 0) := by
 obtain ⟨a, cap, e, hr, h1⟩ := HRow.of_ownsU (B := B) ho hB
 refine ⟨a, cap, e, hr.mono (fun k o e => ?_), h1⟩
 unfold fragU at e
 unfold fragJ
 split at e
 ·rename_i hk; rw [if_pos hk]; exact e
 ·cases e
theorem FlatV.of_ownsJ {α : Type} {f : α → List Value} {s : Nat} {h0 : Frag} {w : World} {B base : Nat} {e : TypeId} {v : Value} {xs : List α} (ho : w.ownsRow base e s v xs.length (xs.flatMap f)) (hB : B ≤ base) : FlatV f (fragJ h0 w B []) v xs := by
 obtain ⟨a, cap, rfl, hrow, h1, h2, h0⟩ := HRow.of_ownsJ ho hB
 exact ⟨a, cap, rfl, h1, h2, h0, hrow⟩
theorem FlatC.of_ownsJ {s : Nat} {h0 : Frag} {w : World} {B base : Nat} {e : TypeId} {v : Value} {es : List (List Value)} (ho : w.ownsRow base e s v es.length es.flatten) (hB : B ≤ base) (hes : ∀ x ∈ es, x.length = s) : FlatC s (fragJ h0 w B []) v es := by
 obtain ⟨a, cap, rfl, hrow, h1, h2, h0⟩ := HRow.of_ownsJ ho hB
 exact ⟨a, cap, rfl, h1, h2, h0, hrow, hes⟩
theorem wpList_append_own1 {P : Program} {t e : TypeId} {z : Value} {size bytes : Nat} (T : SliceT P t e z size bytes) {ops : Array Oper} {rest : List Oper} {o : Oper} {a : Act} {Q : Exit → Act → World → Prop} (hgd : o.guard = .none) (s x : Operand)
  (ho : o.op = .call { callee := .builtin .append, args := #[s, x], argTypes := #[t, t] }) {w : World} {B n : Nat} {v : Value} {xs : List Value} (cs : List Value)
  (hs : a.eval s = v) (hown : w.ownsRow B e size v n xs) (hx : a.eval x = .slice (some ⟨w.heap.size, 0, .none⟩) 1 1) (hl : cs.length = size) (h1 : ∀ u ∈ cs, u.oneCell' = true)
  (hn : (n + 1) * bytes ≤ 140737488355328) (hB : B ≤ w.heap.size)
  (hK : ∀ v' w', w'.ownsRow B e size v' (n + 1) (xs ++ cs) → w.grownBy w' v.ownBlock → (v'.ownBlock = v.ownBlock ∨ ∃ g, v'.ownBlock = some g ∧ w.heap.size ≤ g) → v'.oneCell' = true → wpList P ops Q rest (a.put o.dst v') w') : wpList P ops Q (o :: rest) a (w.alloc (.cells cs.toArray e)) :=
 wpList_plain hgd fun _ hK2 => wp_append_own1 T s x ho cs hs hown hx hl h1 hn hB (fun v' w' q1 q2 q3 q4 => hK2 _ _ (hK v' w' q1 q2 q3 q4))
end Go.Proofs.YtebekgdjknenlaaGreatDoor
