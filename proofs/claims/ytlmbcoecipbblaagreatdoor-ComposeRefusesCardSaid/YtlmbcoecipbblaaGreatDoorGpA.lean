/- What all walks of this seat share: how slices lead to rows of cells; small. -/
import Derived.Test.YtlmbcoecipbblaaGreatDoorRows
import Derived.WalkKit
import Derived.WalkSpells
import Derived.WalkLawsBesides
import Derived.RegionTactic
import Derived.ChangeAlike
import Derived.BigQuiet
import Derived.Deep.QuietTactic
import Derived.Lib.Hide
import Derived.Lib.IndexBytes
import Derived.Deep.RegionWith
import Derived.Deep.RegionHeld3
import Derived.Deep.LoopGhost
import Derived.Deep.Cut
import Derived.Maps.AppendAt
import Derived.Deep.MidRow
import Derived.Deep.WholeRow
import Derived.OrdersHeld
import Derived.Deep.RegionHeld
import Derived.Deep.AppendLies
import Derived.Laws.OwnMore
set_option linter.unusedVariables false
set_option linter.unusedSimpArgs false
namespace Go.Proofs.YtlmbcoecipbblaaGreatDoor
open Go.RowKit
theorem Yq {p : Prop} (h : p) : Hid p := Lib.hid h
theorem iC {P : Program} {t n : Nat} {c : List Value} (h : (P.info? t).map (·.size) = some n) (l : Hid (c.length = n)) : (P.info? t).map (·.size) = some c.length := h.trans (congrArg some l.out.symm)
theorem ret_int {k : IntKind} {a b : Int} (h : a = b) : Ending.returned (.int k a) = .returned (.int k b) := by rw [h]
theorem ret_bool {a b : Bool} (h : a = b) : Ending.returned (.bool a) = .returned (.bool b) := by rw [h]
theorem Below.drewN {B : Nat} {a w : World} (h : Below B a w) (n : Nat) : Below B a (w.drewN n) := ⟨h.os, h.tape, h.output, h.size, h.block⟩
def Row (w : World) (a : Option Addr) (xs : List Value) : Prop :=
 xs = [] ∨ ∃ b off, a = some ⟨b, off, none⟩ ∧ b < w.heap.size ∧ ∀ i, i < xs.length → w.cell? ⟨b, off + i, none⟩ = xs[i]?
theorem Row.at {w : World} {a : Option Addr} {xs : List Value} (h : Row w a xs) {i : Nat} (hi : i < xs.length) :
  ∃ b off, a = some ⟨b, off, none⟩ ∧ b < w.heap.size ∧ w.cell? ⟨b, off + i, none⟩ = some xs[i] := by
 rcases h with rfl | ⟨b, off, rfl, hb, h⟩
 ·simp at hi
 ·exact ⟨b, off, rfl, hb, by rw [h i hi, List.getElem?_eq_getElem hi]⟩
theorem Row.keep {w w' : World} {a : Option Addr} {xs : List Value} (h : Row w a xs) (hb : Below w.heap.size w w') : Row w' a xs := by
 rcases h with rfl | ⟨b, off, rfl, hlt, h⟩
 ·exact .inl rfl
 ·exact .inr ⟨b, off, rfl, Nat.lt_of_lt_of_le hlt hb.size, fun i hi => by rw [← h i hi]; exact hb.cell (p := ⟨b, off + i, none⟩) hlt⟩
theorem Addr.add_none (b off k : Nat) : (⟨b, off, none⟩ : Addr).add k = ⟨b, off + k, none⟩ := by unfold Addr.add; split <;> simp_all
theorem idx {P : Program} {t : TypeId} {a : Option Addr} {n cap i : Nat} {w : World} {xs : List Value} (h : Row w a xs) (hi : i < n) (hn : xs.length = n) (ht : P.underlying t = some (.slice (P.elem t)))
  (hs : ∀ w, (sizeOf (P.elem t)).run P w = .ok 1 w) :
  ∃ b o, b < w.heap.size ∧ (∀ w', (Instr.indexAt t (.slice a n cap) (.int .i64 i)).run P w' = .ok (.pointer (some ⟨b, o, none⟩)) w') ∧ w.cell? ⟨b, o, none⟩ = some (xs[i]'(by omega)) := by
 obtain ⟨b, off, rfl, hb, hc⟩ := h.at (i := i) (by omega)
 refine ⟨b, off + i, hb, fun w' => ?_, hc⟩
 rw [run_indexAt_slice (h := ht), if_pos (by omega), hs]
 simp [Result.andThen, Addr.add_none]
theorem isEmpty_yes {s : ByteArray} (h : s.size = 0) : s.toList.isEmpty = true := by
 rw [Lib.toList_data]
 have : s.data.toList.length = 0 := by simpa using h
 rw [List.length_eq_zero_iff.1 this]; rfl
theorem isEmpty_no {s : ByteArray} (h : s.size ≠ 0) : s.toList.isEmpty = false := by
 rw [Lib.toList_data]
 cases e : s.data.toList with
 | nil => exact absurd (by simpa using congrArg List.length e) h
 | cons => rfl
structure SliceT (P : Program) (t e : TypeId) (z : Value) (size bytes : Nat) : Prop where
 und : P.underlying t = some (.slice e)
 info : (P.info? e).map (fun i => (i.zero, i.size, i.bytes)) = some (some z, size, bytes)
 cells : z.cells.size = size
 pos : 0 < size
 bpos : 0 < bytes
theorem wpList_append_el {P : Program} {t e : TypeId} {z : Value} {size bytes : Nat} (T : SliceT P t e z size bytes) {ops : Array Oper} {rest : List Oper} {o : Oper} {a : Act} {Q : Exit → Act → World → Prop} (hgd : o.guard = none) (s x : Operand)
  (ho : o.op = .call { callee := .builtin .append, args := #[s, x], argTypes := #[t, t] }) {W : World} {base n : Nat} {v : Value} {xs : List Value} (new : Array Value)
  (hs : a.eval s = v) (hown : W.ownsRow base e size v n xs) (hx : a.eval x = .slice (some ⟨W.heap.size, 0, none⟩) 1 1) (hnew : new.size = size) (h1 : ∀ u ∈ new.toList, u.oneCell' = true)
  (hn : (n + 1) * bytes ≤ 140737488355328) (hbase : base ≤ W.heap.size)
  (h : ∀ v' w', w'.ownsRow base e size v' (n + 1) (xs ++ new.toList) → W.grownBy w' v.ownBlock → wpList P ops Q rest (a.put o.dst v') w') : wpList P ops Q (o :: rest) a (W.alloc (.cells new e)) := by
 obtain ⟨i, hi, hz0, hz1, hz2⟩ := info_parts T.info
 have hb := T.bpos
 have hn' : n + 1 ≤ (n + 1) * bytes := Nat.le_mul_of_pos_right _ hb
 have hcell : ∀ j u, new.toList[j]? = some u → (W.alloc (.cells new e)).cell? ((⟨W.heap.size, 0, none⟩ : Addr).add j) = some u := by
  intro j u hu
  rw [Addr.add_none, Nat.zero_add, World.cell?_alloc_at _ _ _ _ rfl]
  simpa using hu
 refine wpList_append_own _ hgd s x t ho base e i z size bytes T.und hi hz0 hz1 hz2 T.cells T.pos v n xs hs (hown.alloc _) ⟨W.heap.size, 0, none⟩ 1 1 new.toList hx (by simpa using hnew) hcell h1 (by unfold maxLen; omega) hn (by simp; omega) ?_
 intro v' w' h2 h3 _
 refine h v' w' h2 ?_
 exact ⟨h3.os, h3.tape, h3.output, Nat.le_trans (by simp) h3.size, fun k hk hne => (h3.block k (by simp; omega) hne).trans (Below.heap_alloc W _ k hk)⟩
theorem Row.of_owns {w : World} {base : Nat} {e : TypeId} {size : Nat} {v : Value} {n : Nat} {xs : List Value} (h : w.ownsRow base e size v n xs) : ∃ a cap, v = .slice a n cap ∧ Row w a xs ∧ n ≤ cap ∧ cap ≤ maxLen := by
 have hlen := h.1
 rcases h.2 with ⟨rfl, rfl⟩ | ⟨g, cap, cur, rfl, hb, hg, hnc, hcm, hcs, htake⟩
 ·exact ⟨none, 0, rfl, .inl (List.eq_nil_of_length_eq_zero (by simpa using hlen)), Nat.le_refl _, Nat.zero_le _⟩
 ·refine ⟨_, cap, rfl, .inr ⟨g, 0, rfl, (Array.getElem?_eq_some_iff.1 hg).1, fun i hi => ?_⟩, hnc, hcm⟩
  have hc := h.cells (g := g) rfl i xs[i] (List.getElem?_eq_getElem hi)
  rw [Addr.add_none] at hc
  rw [hc, List.getElem?_eq_getElem hi]
theorem Below.of_grown {B : Nat} {a w w' : World} {v : Value} {base : Nat} {e : TypeId} {size n : Nat} {xs : List Value} (h : Below B a w) (hown : w.ownsRow base e size v n xs) (hg : w.grownBy w' v.ownBlock) (hB : B ≤ w.heap.size) (hb : B ≤ base) : Below B a w' :=
 h.grown hg hB (fun k hk => Nat.le_trans hb (hown.lt k hk).1)
theorem grown_of_below {w w' : World} (h : Below w.heap.size w w') (row : Option Nat) : w.grownBy w' row :=
 ⟨h.os, h.tape, h.output, h.size, fun k hk _ => h.block k hk⟩
def Frag := Nat → Option Obj
def frag (w : World) : Frag := fun k => w.heap[k]?
def fragE (w : World) (E : List (Option Nat)) : Frag := fun k => if some k ∈ E then none else w.heap[k]?
def FLe (h h' : Frag) : Prop := ∀ k o, h k = some o → h' k = some o
theorem FLe.refl (h : Frag) : FLe h h := fun _ _ e => e
theorem FLe.trans {a b c : Frag} (h : FLe a b) (h' : FLe b c) : FLe a c := fun k o e => h' k o (h k o e)
theorem fragE_le (w : World) (E : List (Option Nat)) : FLe (fragE w E) (frag w) := fun k o e => by
 unfold fragE at e
 split at e
 ·cases e
 ·exact e
theorem fragE_nil (w : World) : fragE w [] = frag w := by
 funext k; unfold fragE; rw [if_neg (by simp)]; rfl
theorem heap_lt {w : World} {k : Nat} {o : Obj} (h : w.heap[k]? = some o) : k < w.heap.size := (Array.getElem?_eq_some_iff.1 h).1
theorem below_le {w w' : World} (hb : Below w.heap.size w w') : FLe (frag w) (frag w') := fun k o e => (hb.block k (heap_lt e)).trans e
theorem alloc_le (w : World) (o : Obj) : FLe (frag w) (frag (w.alloc o)) := fun k _ e => (Below.heap_alloc w o k (heap_lt e)).trans e
theorem below_leE {w w' : World} {E : List (Option Nat)} (hb : Below w.heap.size w w') (hE : ∀ k, some k ∈ E → w.heap.size ≤ k) : FLe (frag w) (fragE w' E) := fun k o e => by
 unfold fragE
 have hk := heap_lt e
 rw [if_neg (fun e2 => by have := hE k e2; omega)]
 exact (hb.block k hk).trans e
theorem grownE {w w' : World} {X : Option Nat} {E E' : List (Option Nat)} (hg : w.grownBy w' X) (hX : X = none ∨ X ∈ E) (hE : ∀ k, some k ∈ E' → some k ∈ E ∨ w.heap.size ≤ k) : FLe (fragE w E) (fragE w' E') := fun k o e => by
 unfold fragE at e ⊢
 split at e
 ·cases e
 ·rename_i h
  have hk := heap_lt e
  rw [if_neg (fun e2 => by rcases hE k e2 with h2 | h2; exact h h2; omega)]
  refine (hg.block k hk ?_).trans e
  rintro rfl
  rcases hX with h2 | h2
  ·cases h2
  ·exact h h2
theorem belowE {w w' : World} {E E' : List (Option Nat)} (hb : Below w.heap.size w w') (hE : ∀ k, some k ∈ E' → some k ∈ E ∨ w.heap.size ≤ k) : FLe (fragE w E) (fragE w' E') :=
 grownE (grown_of_below hb none) (.inl rfl) hE
theorem subE (w : World) {E E' : List (Option Nat)} (hE : ∀ k, some k ∈ E' → some k ∈ E) : FLe (fragE w E) (fragE w E') :=
 grownE (World.grownBy.refl w none) (.inl rfl) (fun k h => .inl (hE k h))
theorem grown_setCell (w : World) (a : Addr) (u : Value) : w.grownBy (w.setCell a u) (some a.block) :=
 ⟨rfl, rfl, rfl, by simp [World.setCell], fun k hk hne => Below.heap_setCell w a u k (fun e => hne (by rw [e]))⟩
def HRow (h : Frag) (a : Option Addr) (xs : List Value) : Prop :=
 xs = [] ∨ ∃ b off cur t fr, a = some ⟨b, off, none⟩ ∧ h b = some (.cells cur t fr) ∧ ∀ i, i < xs.length → cur[off + i]? = xs[i]?
theorem HRow.nil (h : Frag) (a : Option Addr) : HRow h a [] := .inl rfl
theorem HRow.mono {h h' : Frag} {a : Option Addr} {xs : List Value} (hr : HRow h a xs) (hl : FLe h h') : HRow h' a xs := by
 rcases hr with rfl | ⟨b, off, cur, t, fr, rfl, hb, hc⟩
 ·exact .inl rfl
 ·exact .inr ⟨b, off, cur, t, fr, rfl, hl _ _ hb, hc⟩
theorem HRow.row {w : World} {a : Option Addr} {xs : List Value} (hr : HRow (frag w) a xs) : Row w a xs := by
 rcases hr with rfl | ⟨b, off, cur, t, fr, rfl, hb, hc⟩
 ·exact .inl rfl
 ·refine .inr ⟨b, off, rfl, heap_lt hb, fun i hi => ?_⟩
  rw [cell_of_row w b (off + i) cur t fr hb, hc i hi]
theorem HRow.take {h : Frag} {a : Option Addr} {xs : List Value} (hr : HRow h a xs) (n : Nat) : HRow h a (xs.take n) := by
 rcases hr with rfl | ⟨b, off, cur, t, fr, rfl, hb, hc⟩
 ·exact .inl (by simp)
 ·refine .inr ⟨b, off, cur, t, fr, rfl, hb, fun i hi => ?_⟩
  rw [List.length_take] at hi
  rw [hc i (by omega), List.getElem?_take, if_pos (by omega)]
theorem HRow.of_owns {w : World} {base : Nat} {e : TypeId} {size : Nat} {v : Value} {n : Nat} {xs : List Value} {E : List (Option Nat)} (ho : w.ownsRow base e size v n xs) (hX : v.ownBlock = none ∨ ¬ v.ownBlock ∈ E) :
  ∃ a cap, v = .slice a n cap ∧ HRow (fragE w E) a xs ∧ n ≤ cap ∧ cap ≤ maxLen ∧ (a = none → cap = 0) := by
 have hlen := ho.1
 rcases ho.2 with ⟨rfl, rfl⟩ | ⟨g, cap, cur, rfl, hb, hg, hnc, hcm, hcs, htake⟩
 ·exact ⟨none, 0, rfl, .inl (List.eq_nil_of_length_eq_zero (by simpa using hlen)), Nat.le_refl _, Nat.zero_le _, fun _ => rfl⟩
 ·refine ⟨_, cap, rfl, .inr ⟨g, 0, cur, e, (0, 0), rfl, ?_, fun i hi => ?_⟩, hnc, hcm, fun e => by cases e⟩
  ·unfold fragE
   have : ¬ some g ∈ E := by simpa [Value.ownBlock] using hX
   rw [if_neg this]; exact hg
  ·rw [Nat.zero_add, ← htake, List.getElem?_take, if_pos (by omega)]; simp
theorem HRow.of_cells {w : World} {a : Addr} {xs : List Value} (hs : ∀ i, i < xs.length → w.cell? (a.add i) = xs[i]?) : HRow (frag w) (some a) xs := by
 cases hx : xs with
 | nil => exact .inl rfl
 | cons x r =>
  rw [← hx]
  have h0 := hs 0 (by rw [hx]; simp)
  have hsome : ∃ v, w.cell? (a.add 0) = some v := ⟨x, by rw [h0, hx]; rfl⟩
  obtain ⟨v, hv⟩ := hsome
  have hsp := World.cell?_spot hv
  obtain ⟨b, off, spot⟩ := a
  have hsp2 : spot = none := by simpa [Addr.add] using hsp
  subst hsp2
  rw [Addr.add_none, Nat.add_zero] at hv
  have hblk : ∃ cur t fr, w.heap[b]? = some (.cells cur t fr) := by
   unfold World.cell? at hv
   split at hv
   ·rename_i c t fr he; exact ⟨c, t, fr, he⟩
   ·cases hv
  obtain ⟨cur, t, fr, hb⟩ := hblk
  refine .inr ⟨b, off, cur, t, fr, rfl, hb, fun i hi => ?_⟩
  rw [← hs i hi, Addr.add_none, cell_of_row w b (off + i) cur t fr hb]
def ListV {α : Type} (R : Frag → Value → α → Prop) (h : Frag) (v : Value) (xs : List α) : Prop :=
 ∃ a cap vs, v = .slice a xs.length cap ∧ xs.length ≤ cap ∧ cap ≤ maxLen ∧ (a = none → cap = 0) ∧ HRow h a vs ∧ vs.length = xs.length ∧ ∀ i (hv : i < vs.length) (hx : i < xs.length), R h vs[i] xs[i]
theorem ListV.mono {α : Type} {R : Frag → Value → α → Prop} (hR : ∀ h h' v x, FLe h h' → R h v x → R h' v x) {h h' : Frag} {v : Value} {xs : List α} (hl : ListV R h v xs) (hle : FLe h h') : ListV R h' v xs := by
 obtain ⟨a, cap, vs, rfl, h1, h2, h0, h3, h4, h5⟩ := hl
 exact ⟨a, cap, vs, rfl, h1, h2, h0, h3.mono hle, h4, fun i hv hx => hR _ _ _ _ hle (h5 i hv hx)⟩
def StrR (_ : Frag) (v : Value) (s : ByteArray) : Prop := v = .string s ∧ s.size ≤ maxLen
def IntR (_ : Frag) (v : Value) (n : Int) : Prop := v = .int .i64 n
theorem StrR.mono (h h' : Frag) (v : Value) (s : ByteArray) (_ : FLe h h') (hr : StrR h v s) : StrR h' v s := hr
theorem IntR.mono (h h' : Frag) (v : Value) (s : Int) (_ : FLe h h') (hr : IntR h v s) : IntR h' v s := hr
theorem ListV.at {α : Type} {R : Frag → Value → α → Prop} {P : Program} {t : TypeId} {w : World} {a : Option Addr} {n cap : Nat} {xs : List α} (hl : ListV R (frag w) (.slice a n cap) xs) {i : Nat} (hi : i < xs.length)
  (ht : P.underlying t = some (.slice (P.elem t))) (hs : ∀ w, (sizeOf (P.elem t)).run P w = .ok 1 w) :
  ∃ b o u, b < w.heap.size ∧ (∀ w', (Instr.indexAt t (.slice a n cap) (.int .i64 i)).run P w' = .ok (.pointer (some ⟨b, o, none⟩)) w') ∧ w.cell? ⟨b, o, none⟩ = some u ∧ R (frag w) u xs[i] := by
 obtain ⟨a', cap', vs, e, h1, h2, h0, h3, h4, h5⟩ := hl
 cases e
 obtain ⟨b, o, hb, hx, hc⟩ := idx (P := P) (t := t) (cap := cap) h3.row (i := i) (n := xs.length) hi h4 ht hs
 exact ⟨b, o, _, hb, hx, hc, h5 i (by omega) hi⟩
theorem ListV.len {α : Type} {R : Frag → Value → α → Prop} {h : Frag} {v : Value} {xs : List α} (hl : ListV R h v xs) : ∃ a cap, v = .slice a xs.length cap ∧ xs.length ≤ cap ∧ cap ≤ maxLen ∧ (a = none → cap = 0) := by
 obtain ⟨a, cap, vs, rfl, h1, h2, h0, _⟩ := hl
 exact ⟨a, cap, rfl, h1, h2, h0⟩
theorem ListV.of_owns {α : Type} {R : Frag → Value → α → Prop} {w : World} {base : Nat} {e : TypeId} {v : Value} {vs : List Value} {xs : List α} {E : List (Option Nat)} (ho : w.ownsRow base e 1 v xs.length vs) (hX : v.ownBlock = none ∨ ¬ v.ownBlock ∈ E)
  (hR : ∀ i (hv : i < vs.length) (hx : i < xs.length), R (fragE w E) vs[i] xs[i]) : ListV R (fragE w E) v xs := by
 obtain ⟨a, cap, rfl, hrow, h1, h2, h0⟩ := HRow.of_owns ho hX
 have hl := ho.1
 exact ⟨a, cap, vs, rfl, h1, h2, h0, hrow, by omega, hR⟩
theorem owns_apart {w : World} {base base' : Nat} {e e' : TypeId} {size size' : Nat} {v v' : Value} {n n' : Nat} {xs xs' : List Value} (h : w.ownsRow base e size v n xs) (h' : w.ownsRow base' e' size' v' n' xs') (hne : e ≠ e') :
  v.ownBlock = none ∨ v.ownBlock ≠ v'.ownBlock := by
 rcases h.2 with ⟨rfl, _⟩ | ⟨g, cap, cur, rfl, _, hg, _⟩
 ·exact .inl rfl
 ·right
  rcases h'.2 with ⟨rfl, _⟩ | ⟨g', cap', cur', rfl, _, hg', _⟩
  ·simp [Value.ownBlock]
  ·simp only [Value.ownBlock]
   intro e2
   cases e2
   rw [hg] at hg'
   cases hg'
   exact hne rfl
def partAt (a : Option Addr) (cap lo s : Nat) : Option Addr := if cap = lo then a else a.map (fun p => p.add (lo * s))
theorem run_to {P : Program} {t s : Nat} {a : Option Addr} {n cap i : Nat} (ht : P.underlying t = some (.slice (P.elem t))) (hs : ∀ w, (Go.sizeOf (P.elem t)).run P w = .ok s w) (hi : i ≤ cap) (ha : a = none → cap = 0) (w : World) :
  (Instr.slice t (.slice a n cap) none (some (.int .i64 (i : Int))) none).run P w = .ok (.slice a i cap) w := by
 have hs' := hs w
 unfold Program.elem at hs'
 cases a with
 | none =>
  have := ha rfl
  subst this
  obtain rfl : i = 0 := by omega
  simp [Instr.slice, run_underlying ht, Instr.sliceBounds, run_sliceBound, sliced, hs', go_sem]
 | some p =>
  simp [Instr.slice, run_underlying ht, Instr.sliceBounds, run_sliceBound, sliced, hs', go_sem]
  intro h; omega
theorem run_from {P : Program} {t s : Nat} {a : Option Addr} {n cap i : Nat} (ht : P.underlying t = some (.slice (P.elem t))) (hs : ∀ w, (Go.sizeOf (P.elem t)).run P w = .ok s w) (hi : i ≤ n) (hn : n ≤ cap) (ha : a = none → cap = 0) (w : World) :
  (Instr.slice t (.slice a n cap) (some (.int .i64 (i : Int))) none none).run P w = .ok (.slice (partAt a cap i s) (n - i) (cap - i)) w := by
 have hs' := hs w
 unfold Program.elem at hs'
 cases a with
 | none =>
  have := ha rfl
  subst this
  obtain rfl : n = 0 := by omega
  obtain rfl : i = 0 := by omega
  simp [Instr.slice, run_underlying ht, Instr.sliceBounds, run_sliceBound, sliced, hs', go_sem, partAt]
 | some p =>
  simp [Instr.slice, run_underlying ht, Instr.sliceBounds, run_sliceBound, sliced, hs', go_sem, partAt]
  intro h; omega
theorem HRow.part {h : Frag} {a : Option Addr} {xs : List Value} {cap i s : Nat} (hr : HRow h a xs) (hc : xs.length ≤ cap * s) : HRow h (partAt a cap i s) (xs.drop (i * s)) := by
 by_cases e : cap = i
 ·left
  subst e
  exact List.drop_of_length_le hc
 ·rcases hr with rfl | ⟨b, off, cur, t, fr, rfl, hb, hcur⟩
  ·left; simp
  ·right
   refine ⟨b, off + i * s, cur, t, fr, ?_, hb, fun j hj => ?_⟩
   ·unfold partAt; rw [if_neg e]; simp [Addr.add_none]
   ·rw [List.length_drop] at hj
    rw [Nat.add_assoc, hcur _ (by omega), List.getElem?_drop]
theorem partAt_none {a : Option Addr} {cap i s : Nat} (h : partAt a cap i s = none) : a = none := by
 unfold partAt at h
 split at h
 ·exact h
 ·cases a <;> simp_all
theorem wpList_append_at {P : Program} {t e : TypeId} {z : Value} {size bytes : Nat} (T : SliceT P t e z size bytes) {ops : Array Oper} {rest : List Oper} {o : Oper} {a : Act} {Q : Exit → Act → World → Prop} (hgd : o.guard = none) (s x : Operand)
  (ho : o.op = .call { callee := .builtin .append, args := #[s, x], argTypes := #[t, t] }) {W : World} {base n : Nat} {v : Value} {xs : List Value} (new : Array Value)
  (hs : a.eval s = v) (hown : W.ownsRow base e size v n xs) (hx : a.eval x = .slice (some ⟨W.heap.size, 0, none⟩) 1 1) (hnew : new.size = size) (h1 : ∀ u ∈ new.toList, u.oneCell' = true)
  (hn : (n + 1) * bytes ≤ 140737488355328) (hbase : base ≤ W.heap.size)
  (h : ∀ v' w', w'.ownsRow base e size v' (n + 1) (xs ++ new.toList) → W.grownBy w' v.ownBlock → (v'.ownBlock = v.ownBlock ∨ v'.ownBlock = some (W.heap.size + 1)) → wpList P ops Q rest (a.put o.dst v') w') : wpList P ops Q (o :: rest) a (W.alloc (.cells new e)) := by
 obtain ⟨i, hi, hz0, hz1, hz2⟩ := info_parts T.info
 have hb := T.bpos
 have hn' : n + 1 ≤ (n + 1) * bytes := Nat.le_mul_of_pos_right _ hb
 have hcell : ∀ j u, new.toList[j]? = some u → (W.alloc (.cells new e)).cell? ((⟨W.heap.size, 0, none⟩ : Addr).add j) = some u := by
  intro j u hu
  rw [Addr.add_none, Nat.zero_add, World.cell?_alloc_at _ _ _ _ rfl]
  simpa using hu
 refine wpList_append_own_at _ hgd s x t ho base e i z size bytes T.und hi hz0 hz1 hz2 T.cells T.pos v n xs hs (hown.alloc _) ⟨W.heap.size, 0, none⟩ 1 1 new.toList hx (by simpa using hnew) hcell h1 (by unfold maxLen; omega) hn (by simp; omega) ?_
 intro v' w' h2 h3 _ h4
 refine h v' w' h2 ?_ (by simpa using h4)
 exact ⟨h3.os, h3.tape, h3.output, Nat.le_trans (by simp) h3.size, fun k hk hne => (h3.block k (by simp; omega) hne).trans (Below.heap_alloc W _ k hk)⟩
theorem wpList_append_row {P : Program} {t e : TypeId} {z : Value} {size bytes : Nat} (T : SliceT P t e z size bytes) {ops : Array Oper} {rest : List Oper} {o : Oper} {a : Act} {Q : Exit → Act → World → Prop} (hgd : o.guard = none) (s x : Operand)
  (ho : o.op = .call { callee := .builtin .append, args := #[s, x], argTypes := #[t, t] }) {W : World} {base n m c : Nat} {ad : Addr} {v : Value} {xs news : List Value}
  (hs : a.eval s = v) (hown : W.ownsRow base e size v n xs) (hx : a.eval x = .slice (some ad) m c) (hrow : HRow (frag W) (some ad) news) (hl : news.length = m * size) (h1 : ∀ u ∈ news, u.oneCell' = true)
  (hn : (n + m) * bytes ≤ 140737488355328) (hbase : base ≤ W.heap.size)
  (h : ∀ v' w', w'.ownsRow base e size v' (n + m) (xs ++ news) → W.grownBy w' v.ownBlock → (v'.ownBlock = v.ownBlock ∨ v'.ownBlock = some W.heap.size) → (v' = .slice none 0 0 ↔ v = .slice none 0 0 ∧ m = 0) → wpList P ops Q rest (a.put o.dst v') w') : wpList P ops Q (o :: rest) a W := by
 obtain ⟨i, hi, hz0, hz1, hz2⟩ := info_parts T.info
 have hb := T.bpos
 have hn' : n + m ≤ (n + m) * bytes := Nat.le_mul_of_pos_right _ hb
 have hcell : ∀ j u, news[j]? = some u → W.cell? (ad.add j) = some u := by
  intro j u hu
  rcases hrow with rfl | ⟨b, off, cur, t', fr, e2, hb2, hc⟩
  ·simp at hu
  ·cases e2
   have hj := (List.getElem?_eq_some_iff.1 hu).1
   rw [Addr.add_none, cell_of_row W b _ cur t' fr hb2, hc j hj, hu]
 refine wpList_append_own_at _ hgd s x t ho base e i z size bytes T.und hi hz0 hz1 hz2 T.cells T.pos v n xs hs hown ad m c news hx hl hcell h1 (by unfold maxLen; omega) hn hbase ?_
 intro v' w' h2 h3 h5 h4
 exact h v' w' h2 h3 h4 h5
theorem flat_len {α : Type} {f : α → List Value} {s : Nat} (hf : ∀ x, (f x).length = s) : ∀ xs : List α, (xs.flatMap f).length = xs.length * s
 | [] => by simp
 | x :: r => by rw [List.flatMap_cons, List.length_append, flat_len hf r, hf, List.length_cons, Nat.succ_mul, Nat.add_comm]
theorem flat_at {α : Type} {f : α → List Value} {s : Nat} (hf : ∀ x, (f x).length = s) : ∀ (xs : List α) (i j : Nat) (h : i < xs.length), j < s → (xs.flatMap f)[i * s + j]? = (f xs[i])[j]?
 | x :: r, 0, j, h, hj => by
  rw [List.flatMap_cons, List.getElem?_append_left (by rw [hf]; omega)]; simp
 | x :: r, i + 1, j, h, hj => by
  rw [List.flatMap_cons, List.getElem?_append_right (by rw [hf, Nat.succ_mul]; omega), hf]
  have : (i + 1) * s + j - s = i * s + j := by rw [Nat.succ_mul]; omega
  rw [this, flat_at hf r i j (by simpa using h) hj]; simp
def FlatV {α : Type} (f : α → List Value) (h : Frag) (v : Value) (xs : List α) : Prop :=
 ∃ a cap, v = .slice a xs.length cap ∧ xs.length ≤ cap ∧ cap ≤ maxLen ∧ (a = none → cap = 0) ∧ HRow h a (xs.flatMap f)
theorem FlatV.mono {α : Type} {f : α → List Value} {h h' : Frag} {v : Value} {xs : List α} (hl : FlatV f h v xs) (hle : FLe h h') : FlatV f h' v xs := by
 obtain ⟨a, cap, rfl, h1, h2, h0, h3⟩ := hl
 exact ⟨a, cap, rfl, h1, h2, h0, h3.mono hle⟩
theorem FlatV.len {α : Type} {f : α → List Value} {h : Frag} {v : Value} {xs : List α} (hl : FlatV f h v xs) : ∃ a cap, v = .slice a xs.length cap ∧ xs.length ≤ cap ∧ cap ≤ maxLen ∧ (a = none → cap = 0) := by
 obtain ⟨a, cap, rfl, h1, h2, h0, _⟩ := hl
 exact ⟨a, cap, rfl, h1, h2, h0⟩
theorem FlatV.at {α : Type} {f : α → List Value} {s : Nat} {P : Program} {t : TypeId} {w : World} {a : Option Addr} {n cap : Nat} {xs : List α} (hl : FlatV f (frag w) (.slice a n cap) xs) (hf : ∀ x, (f x).length = s) (hs0 : 0 < s) {i : Nat} (hi : i < xs.length)
  (ht : P.underlying t = some (.slice (P.elem t))) (hs : ∀ w, (sizeOf (P.elem t)).run P w = .ok s w) :
  ∃ b o, b < w.heap.size ∧ (∀ w', (Instr.indexAt t (.slice a n cap) (.int .i64 i)).run P w' = .ok (.pointer (some ⟨b, o, none⟩)) w') ∧ ∀ j u, (f xs[i])[j]? = some u → w.cell? ⟨b, o + j, none⟩ = some u := by
 obtain ⟨a', cap', e, h1, h2, h0, h3⟩ := hl
 cases e
 have hl := flat_len hf xs
 rcases h3 with hnil | ⟨b, off, cur, t', fr, rfl, hb, hc⟩
 ·exfalso
  rw [hnil] at hl
  have : xs.length * s = 0 := by simpa using hl.symm
  rcases Nat.mul_eq_zero.1 this with h | h <;> omega
 ·refine ⟨b, off + i * s, heap_lt hb, fun w' => ?_, fun j u hu => ?_⟩
  ·rw [run_indexAt_slice (h := ht), if_pos (by omega), hs]
   simp [Result.andThen, Addr.add_none]
  ·have hj : j < s := by
    have := (List.getElem?_eq_some_iff.1 hu).1
    rw [hf] at this; exact this
   have hlt : i * s + j < xs.length * s := by
    have : (i + 1) * s ≤ xs.length * s := Nat.mul_le_mul_right _ (by omega)
    rw [Nat.succ_mul] at this; omega
   rw [Nat.add_assoc, cell_of_row w b _ cur t' fr hb, hc _ (by rw [hl]; exact hlt), flat_at hf xs i j hi hj, hu]
theorem FlatV.of_owns {α : Type} {f : α → List Value} {s : Nat} {w : World} {base : Nat} {e : TypeId} {v : Value} {n : Nat} {xs : List α} {E : List (Option Nat)} (ho : w.ownsRow base e s v n (xs.flatMap f)) (hn : xs.length = n) (hX : v.ownBlock = none ∨ ¬ v.ownBlock ∈ E) : FlatV f (fragE w E) v xs := by
 obtain ⟨a, cap, rfl, hrow, h1, h2, h0⟩ := HRow.of_owns ho hX
 subst hn
 exact ⟨a, cap, rfl, h1, h2, h0, hrow⟩
theorem own_idx {P : Program} {t : TypeId} {s g n cap i : Nat} (hi : i < n) (ht : P.underlying t = some (.slice (P.elem t))) (hs : ∀ w, (sizeOf (P.elem t)).run P w = .ok s w) (w : World) :
  (Instr.indexAt t (.slice (some ⟨g, 0, none⟩) n cap) (.int .i64 i)).run P w = .ok (.pointer (some ⟨g, i * s, none⟩)) w := by
 rw [run_indexAt_slice (h := ht), if_pos (by omega), hs]
 simp [Result.andThen, Addr.add_none]
def FlatC (s : Nat) (h : Frag) (v : Value) (es : List (List Value)) : Prop :=
 ∃ a cap, v = .slice a es.length cap ∧ es.length ≤ cap ∧ cap ≤ maxLen ∧ (a = none → cap = 0) ∧ HRow h a es.flatten ∧ ∀ e ∈ es, e.length = s
theorem FlatC.mono {s : Nat} {h h' : Frag} {v : Value} {es : List (List Value)} (hl : FlatC s h v es) (hle : FLe h h') : FlatC s h' v es := by
 obtain ⟨a, cap, rfl, h1, h2, h0, h3, h4⟩ := hl
 exact ⟨a, cap, rfl, h1, h2, h0, h3.mono hle, h4⟩
theorem FlatC.len {s : Nat} {h : Frag} {v : Value} {es : List (List Value)} (hl : FlatC s h v es) : ∃ a cap, v = .slice a es.length cap ∧ es.length ≤ cap ∧ cap ≤ maxLen ∧ (a = none → cap = 0) := by
 obtain ⟨a, cap, rfl, h1, h2, h0, _⟩ := hl
 exact ⟨a, cap, rfl, h1, h2, h0⟩
theorem flatten_len {s : Nat} : ∀ {es : List (List Value)}, (∀ e ∈ es, e.length = s) → es.flatten.length = es.length * s
 | [], _ => by simp
 | e :: r, h => by
  rw [List.flatten_cons, List.length_append, flatten_len (es := r) (fun x hx => h x (by simp [hx])), h e (by simp), List.length_cons, Nat.succ_mul, Nat.add_comm]
theorem flatten_at {s : Nat} : ∀ {es : List (List Value)} (i j : Nat) (_ : ∀ e ∈ es, e.length = s) (h : i < es.length), j < s → es.flatten[i * s + j]? = es[i][j]?
 | e :: r, 0, j, hs, h, hj => by
  rw [List.flatten_cons, List.getElem?_append_left (by rw [hs e (by simp)]; omega)]; simp
 | e :: r, i + 1, j, hs, h, hj => by
  have he := hs e (by simp)
  rw [List.flatten_cons, List.getElem?_append_right (by rw [he, Nat.succ_mul]; omega), he]
  have : (i + 1) * s + j - s = i * s + j := by rw [Nat.succ_mul]; omega
  rw [this, flatten_at i j (fun x hx => hs x (by simp [hx])) (by simpa using h) hj]; simp
theorem FlatC.at {s : Nat} {P : Program} {t : TypeId} {w : World} {a : Option Addr} {n cap : Nat} {es : List (List Value)} (hl : FlatC s (frag w) (.slice a n cap) es) (hs0 : 0 < s) {i : Nat} (hi : i < es.length)
  (ht : P.underlying t = some (.slice (P.elem t))) (hs : ∀ w, (Go.sizeOf (P.elem t)).run P w = .ok s w) :
  ∃ b o, b < w.heap.size ∧ (∀ w', (Instr.indexAt t (.slice a n cap) (.int .i64 i)).run P w' = .ok (.pointer (some ⟨b, o, none⟩)) w') ∧ ∀ j u, es[i][j]? = some u → w.cell? ⟨b, o + j, none⟩ = some u := by
 obtain ⟨a', cap', e, h1, h2, h0, h3, h4⟩ := hl
 cases e
 have hl := flatten_len h4
 rcases h3 with hnil | ⟨b, off, cur, t', fr, rfl, hb, hc⟩
 ·exfalso
  rw [hnil] at hl
  have : es.length * s = 0 := by simpa using hl.symm
  rcases Nat.mul_eq_zero.1 this with h | h <;> omega
 ·refine ⟨b, off + i * s, heap_lt hb, fun w' => ?_, fun j u hu => ?_⟩
  ·rw [run_indexAt_slice (h := ht), if_pos (by omega), hs]
   simp [Result.andThen, Addr.add_none]
  ·have hj : j < s := by
    have := (List.getElem?_eq_some_iff.1 hu).1
    rw [h4 _ (List.getElem_mem _)] at this; exact this
   have hlt : i * s + j < es.length * s := by
    have : (i + 1) * s ≤ es.length * s := Nat.mul_le_mul_right _ (by omega)
    rw [Nat.succ_mul] at this; omega
   rw [Nat.add_assoc, cell_of_row w b _ cur t' fr hb, hc _ (by rw [hl]; exact hlt), flatten_at i j h4 hi hj, hu]
theorem FlatC.of_owns {s : Nat} {w : World} {base : Nat} {e : TypeId} {v : Value} {n : Nat} {es : List (List Value)} {E : List (Option Nat)} (ho : w.ownsRow base e s v n es.flatten) (hn : es.length = n) (hes : ∀ x ∈ es, x.length = s) (hX : v.ownBlock = none ∨ ¬ v.ownBlock ∈ E) : FlatC s (fragE w E) v es := by
 obtain ⟨a, cap, rfl, hrow, h1, h2, h0⟩ := HRow.of_owns ho hX
 subst hn
 exact ⟨a, cap, rfl, h1, h2, h0, hrow, hes⟩
theorem FlatC.nil (s : Nat) (h : Frag) : FlatC s h (.slice none 0 0) [] := ⟨none, 0, rfl, Nat.le_refl _, Nat.zero_le _, fun _ => rfl, .inl rfl, fun e he => by simp at he⟩
theorem FlatC.sizes {s : Nat} {h : Frag} {v : Value} {es : List (List Value)} (hl : FlatC s h v es) : ∀ e ∈ es, e.length = s := by
 obtain ⟨a, cap, rfl, h1, h2, h0, h3, h4⟩ := hl
 exact h4
structure Held (B : Nat) (W0 : World) (C : World → Prop) : Prop where
 le : B ≤ W0.heap.size
 of : ∀ w', Below B W0 w' → C w'
theorem Held.start {B : Nat} {W0 : World} {C : World → Prop} (h : Held B W0 C) : C W0.drew ∧ Below B W0 W0.drew := ⟨h.of _ (Below.refl _ _).drew, (Below.refl _ _).drew⟩
theorem Held.call {B : Nat} {W0 : World} {C : World → Prop} (h : Held B W0 C) {w1 w2 : World} (h2 : Below w1.heap.size w1 w2) (h1 : C w1 ∧ Below B W0 w1) : C w2 ∧ Below B W0 w2 :=
 have hb := h1.2.trans (h2.mono (Nat.le_trans h.le h1.2.size))
 ⟨h.of _ hb, hb⟩
theorem Held.alloc {B : Nat} {W0 : World} {C : World → Prop} (h : Held B W0 C) {w1 : World} (h1 : C w1 ∧ Below B W0 w1) (o : Obj) : C (w1.alloc o) ∧ Below B W0 (w1.alloc o) :=
 have hb := h1.2.alloc (Nat.le_trans h.le h1.2.size) o
 ⟨h.of _ hb, hb⟩
theorem Held.draw {B : Nat} {W0 : World} {C : World → Prop} (h : Held B W0 C) {w1 : World} (h1 : C w1 ∧ Below B W0 w1) : C w1.drew ∧ Below B W0 w1.drew :=
 ⟨h.of _ h1.2.drew, h1.2.drew⟩
def patch (cs : List Value) (o : Nat) (vs : List Value) : List Value := cs.take o ++ (vs ++ cs.drop (o + vs.length))
theorem patch_len {cs : List Value} {o : Nat} {vs : List Value} (h : o + vs.length ≤ cs.length) : (patch cs o vs).length = cs.length := by
 unfold patch; simp only [List.length_append, List.length_take, List.length_drop]; omega
theorem patch_nil (cs : List Value) (o : Nat) : patch cs o [] = cs := by simp [patch]
theorem patch_cons {cs : List Value} {o : Nat} {v : Value} {r : List Value} (h : o < cs.length) : patch (cs.set o v) (o + 1) r = patch cs o (v :: r) := by
 unfold patch
 rw [List.take_set, List.drop_set, if_pos (by omega), List.length_cons, show o + 1 + r.length = o + (r.length + 1) by omega]
 rw [List.take_succ_eq_append_getElem h, List.set_append_right _ _ (by simp; omega)]
 simp only [List.length_take, Nat.min_eq_left (Nat.le_of_lt h), Nat.sub_self, List.set_cons_zero, List.append_assoc, List.cons_append, List.nil_append]
theorem patch_at {p q r vs : List Value} {o : Nat} (hp : p.length = o) (hq : q.length = vs.length) : patch (p ++ (q ++ r)) o vs = p ++ (vs ++ r) := by
 subst hp
 unfold patch
 rw [List.take_left', List.drop_append, List.drop_of_length_le (by omega), List.drop_append, List.drop_of_length_le (by omega)]
 ·have : p.length + vs.length - p.length - q.length = 0 := by omega
  rw [this]; rfl
 ·rfl
def Blk (w : World) (g : Nat) (cs : List Value) : Prop := ∃ t, w.heap[g]? = some (.cells cs.toArray t (0, 0))
theorem Blk.new (w : World) (t : TypeId) (cs : List Value) : Blk (w.alloc (.cells cs.toArray t)) w.heap.size cs := ⟨t, heap_alloc_last w _⟩
theorem Blk.lt {w : World} {g : Nat} {cs : List Value} (h : Blk w g cs) : g < w.heap.size := by obtain ⟨t, h⟩ := h; exact heap_lt h
theorem Blk.below {w w' : World} {g B : Nat} {cs : List Value} (h : Blk w g cs) (hb : Below B w w') (hg : g < B) : Blk w' g cs := by obtain ⟨t, h⟩ := h; exact ⟨t, (hb.block g hg).trans h⟩
theorem Blk.grown {w w' : World} {g : Nat} {X : Option Nat} {cs : List Value} (h : Blk w g cs) (hb : w.grownBy w' X) (hg : some g ≠ X) : Blk w' g cs := by
 have hl := h.lt
 obtain ⟨t, h⟩ := h; exact ⟨t, (hb.block g hl hg).trans h⟩
theorem Blk.alloc {w : World} {g : Nat} {cs : List Value} (h : Blk w g cs) (o : Obj) : Blk (w.alloc o) g cs := h.grown (World.grownBy_alloc w o none) (by simp)
theorem Blk.cell {w : World} {g o : Nat} {cs : List Value} {u : Value} (h : Blk w g cs) (hu : cs[o]? = some u) : w.cell? ⟨g, o, none⟩ = some u := by
 obtain ⟨t, h⟩ := h
 rw [cell_of_row w g o _ t _ h, List.getElem?_toArray, hu]
theorem Blk.frozen {w : World} {g : Nat} {cs : List Value} (h : Blk w g cs) (o : Nat) : w.frozen? ⟨g, o, none⟩ = false := by
 obtain ⟨t, h⟩ := h
 exact frozen_of_row w g o _ t h
theorem Blk.range {w : World} {g o : Nat} {cs p q r : List Value} (h : Blk w g cs) (e : cs = p ++ (q ++ r)) (hp : p.length = o) : w.rangeAt g o q := by
 intro j v hj
 have hl := (List.getElem?_eq_some_iff.1 hj).1
 refine h.cell ?_
 subst hp
 rw [e, List.getElem?_append_right (by omega), Nat.add_sub_cancel_left, List.getElem?_append_left hl, hj]
theorem Blk.whole {w : World} {g : Nat} {cs : List Value} (h : Blk w g cs) : w.rangeAt g 0 cs := h.range (p := []) (r := []) (by simp) rfl
theorem range_below {w w' : World} {b o B : Nat} {cs : List Value} (h : w.rangeAt b o cs) (hb : Below B w w') (hg : b < B) : w'.rangeAt b o cs := fun j v hj => (hb.cell (p := ⟨b, o + j, none⟩) hg).trans (h j v hj)
theorem range_part {w : World} {b o k : Nat} {cs p q r : List Value} (h : w.rangeAt b o cs) (e : cs = p ++ (q ++ r)) (hp : p.length = k) : w.rangeAt b (o + k) q := by
 intro j v hj
 have hl := (List.getElem?_eq_some_iff.1 hj).1
 subst hp
 rw [Nat.add_assoc]
 refine h (p.length + j) v ?_
 rw [e, List.getElem?_append_right (by omega), Nat.add_sub_cancel_left, List.getElem?_append_left hl, hj]
theorem setRow_same {w : World} {g : Nat} {c : Array Value} {t : TypeId} {fr : Nat × Nat} (h : w.heap[g]? = some (.cells c t fr)) : w.setRow g c = w := by
 have e : (w.setRow g c).heap = w.heap := by
  unfold World.setRow
  apply Array.ext_getElem?
  intro i
  rw [Array.getElem?_modify]
  split
  ·rename_i hi; subst hi; rw [h]; rfl
  ·rfl
 unfold World.setRow at e ⊢
 cases w
 simp only at e ⊢
 rw [e]
theorem setRow_twice (w : World) (g : Nat) (c d : Array Value) : (w.setRow g c).setRow g d = w.setRow g d := by
 simp only [World.setRow]
 congr 1
 apply Array.ext_getElem?
 intro i
 rw [Array.getElem?_modify, Array.getElem?_modify, Array.getElem?_modify]
 split
 ·cases w.heap[i]? with
  | none => rfl
  | some o => cases o <;> rfl
 ·rfl
theorem setRow_grown {w : World} {g : Nat} (c : Array Value) : w.grownBy (w.setRow g c) (some g) := by
 refine ⟨rfl, rfl, rfl, by simp, fun k hk hne => ?_⟩
 exact setRow_other w g k c (fun e => hne (by rw [e]))
theorem Blk.set {w : World} {g : Nat} {cs : List Value} (h : Blk w g cs) (ds : List Value) : Blk (w.setRow g ds.toArray) g ds := by
 obtain ⟨t, h⟩ := h
 exact ⟨t, setRow_heap w g _ _ t _ h⟩
theorem setCells_row {g : Nat} {t : TypeId} : ∀ (vs : List Value) (o : Nat) (w : World) (cs : List Value), w.heap[g]? = some (.cells cs.toArray t (0, 0)) → o + vs.length ≤ cs.length → w.setCells g o vs = w.setRow g (patch cs o vs).toArray
 | [], o, w, cs, h, _ => by rw [patch_nil, World.setCells, setRow_same h]
 | v :: r, o, w, cs, h, hl => by
  have hl' : o < cs.length := by simp at hl; omega
  rw [World.setCells, setCell_eq_setRow w g o _ t _ v h]
  have e : cs.toArray.setIfInBounds o v = (cs.set o v).toArray := by simp
  rw [e]
  rw [setCells_row r (o + 1) _ (cs.set o v) (setRow_heap w g _ _ t _ h) (by simp at hl ⊢; omega), setRow_twice, patch_cons hl']
theorem run_storeVar_blk {P : Program} (w : World) (g o : Nat) (ty : TypeId) (v : Value) (vs cs : List Value) (hv : v.cells = vs.toArray) (hb : Blk w g cs) (hi : (P.info? ty).map (·.size) = some vs.length) (hle : o + vs.length ≤ cs.length) (h1 : ∀ u ∈ vs, u.oneCell' = true) :
  (storeVar ty ⟨g, o, none⟩ v).run P w = .ok () (w.setRow g (patch cs o vs).toArray) := by
 obtain ⟨t, hb⟩ := hb
 have this := run_storeCells_cells (P := P) g o vs 0 w (fun j hj => by
   rw [cell_of_row w g _ _ t _ hb]; simp; omega) (fun j hj => frozen_of_row w g _ _ t hb) h1
 cases hq : P.info? ty with
 | none => simp [hq] at hi
 | some i =>
  have hs : vs.length = i.size := by simp [hq] at hi; omega
  simp only [Nat.add_zero] at this
  rw [setCells_row vs o w cs hb hle] at this
  simp [storeVar, sizeOf, typeInfo, hq, hv, hs, this]
theorem wp_store_blk {P : Program} {op : Oper} {a : Act} {w : World} {K : Act → World → Prop} {Q : Exit → Act → World → Prop} (ty : TypeId) (x y : Operand) (ho : op.op = .store ty x y)
  (g o : Nat) (v : Value) (vs cs : List Value) (hx : a.eval x = .pointer (some ⟨g, o, none⟩)) (hy : a.eval y = v) (hv : v.cells = vs.toArray)
  (hb : Blk w g cs) (hi : (P.info? ty).map (·.size) = some vs.length) (hle : o + vs.length ≤ cs.length) (h1 : ∀ u ∈ vs, u.oneCell' = true)
  (h : K (a.put op.dst undef) (w.setRow g (patch cs o vs).toArray)) : op.wp P a w K Q := by
 unfold Oper.wp execOp
 simp only [ho, hx, hy, Instr.storeAt, Instr.sureAddr, Sem.run_bind, Sem.run_pure, Result.andThen_ok, run_storeVar_blk w g o ty v vs cs hv hb hi hle h1]
 exact h
theorem wpList_load_seg {P : Program} {ops : Array Oper} {rest : List Oper} {op : Oper} {a : Act} {w : World} {Q : Exit → Act → World → Prop} (hgd : Region.wanted op (yielded ops a.tmps) = true) (ty : TypeId) (x : Operand) (ho : op.op = .load ty x)
  (b o : Nat) (hx : a.eval x = .pointer (some ⟨b, o, none⟩)) (cs : List Value) (d : TypeDesc) (hc : w.rangeAt b o cs)
  (hu : P.underlying ty = some d) (hd : d.isRow = true) (hi : (P.info? ty).map (·.size) = some cs.length)
  (h : wpList P ops Q rest (a.put op.dst (.agg cs.toArray)) w) : wpList P ops Q (op :: rest) a w :=
 BigFrame.wpList_want hgd fun _ hK => wp_load_mid ty x ho b o hx cs d hc hu hd hi (hK _ _ h)
theorem wpList_store_blk {P : Program} {ops : Array Oper} {rest : List Oper} {op : Oper} {a : Act} {w : World} {Q : Exit → Act → World → Prop} (hgd : Region.wanted op (yielded ops a.tmps) = true) (ty : TypeId) (x y : Operand) (ho : op.op = .store ty x y)
  (g o : Nat) (vs : List Value) (hx : a.eval x = .pointer (some ⟨g, o, none⟩)) (hy : a.eval y = .agg vs.toArray) (cs : List Value) (hb : Blk w g cs)
  (hi : (P.info? ty).map (·.size) = some vs.length) (hle : o + vs.length ≤ cs.length) (h1 : ∀ u ∈ vs, u.oneCell' = true)
  (h : ∀ w2, Blk w2 g (patch cs o vs) → w.grownBy w2 (some g) → w2.heap.size = w.heap.size → wpList P ops Q rest (a.put op.dst undef) w2) : wpList P ops Q (op :: rest) a w :=
 BigFrame.wpList_want hgd fun _ hK => wp_store_blk ty x y ho g o _ vs cs hx hy rfl hb hi hle h1 (hK _ _ (h _ (hb.set _) (setRow_grown _) (by simp)))
theorem setRow_alloc_first (W : World) (c c' : Array Value) (t : TypeId) (ob : Obj) : ((W.alloc (.cells c t)).alloc ob).setRow W.heap.size c' = (W.alloc (.cells c' t)).alloc ob := by
 simp only [World.setRow, World.alloc]
 congr 1
 apply Array.ext_getElem?
 intro i
 rw [Array.getElem?_modify]
 by_cases h : W.heap.size = i
 ·subst h
  simp [Array.getElem?_push]
 ·have h' : ¬ i = W.heap.size := fun e => h e.symm
  simp [h, h', Array.getElem?_push]
theorem wpList_store_first {P : Program} {ops : Array Oper} {rest : List Oper} {op : Oper} {a : Act} {W : World} {Q : Exit → Act → World → Prop} {cs : List Value} {t : TypeId} {ob : Obj} (hgd : Region.wanted op (yielded ops a.tmps) = true) (ty : TypeId) (x y : Operand) (ho : op.op = .store ty x y)
  (o : Nat) (vs : List Value) (hx : a.eval x = .pointer (some ⟨W.heap.size, o, none⟩)) (hy : a.eval y = .agg vs.toArray)
  (hi : (P.info? ty).map (·.size) = some vs.length) (hle : o + vs.length ≤ cs.length) (h1 : ∀ u ∈ vs, u.oneCell' = true)
  (h : wpList P ops Q rest (a.put op.dst undef) ((W.alloc (.cells (patch cs o vs).toArray t)).alloc ob)) : wpList P ops Q (op :: rest) a ((W.alloc (.cells cs.toArray t)).alloc ob) :=
 BigFrame.wpList_want hgd fun _ hK => wp_store_blk ty x y ho W.heap.size o _ vs cs hx hy rfl ((Blk.new W t cs).alloc ob) hi hle h1 (by rw [setRow_alloc_first]; exact hK _ _ h)
theorem wpList_store_first1 {P : Program} {ops : Array Oper} {rest : List Oper} {op : Oper} {a : Act} {W : World} {Q : Exit → Act → World → Prop} {cs : List Value} {t : TypeId} {ob : Obj} (hgd : Region.wanted op (yielded ops a.tmps) = true) (ty : TypeId) (x y : Operand) (ho : op.op = .store ty x y)
  (o : Nat) (v : Value) (hx : a.eval x = .pointer (some ⟨W.heap.size, o, none⟩)) (hy : a.eval y = v)
  (hi : (P.info? ty).map (·.size) = some 1) (hle : o + 1 ≤ cs.length) (h1 : v.oneCell' = true)
  (h : wpList P ops Q rest (a.put op.dst undef) ((W.alloc (.cells (patch cs o [v]).toArray t)).alloc ob)) : wpList P ops Q (op :: rest) a ((W.alloc (.cells cs.toArray t)).alloc ob) :=
 BigFrame.wpList_want hgd fun _ hK => wp_store_blk ty x y ho W.heap.size o v [v] cs hx hy (by cases v <;> first | rfl | cases h1) ((Blk.new W t cs).alloc ob) hi hle (by simpa using h1) (by rw [setRow_alloc_first]; exact hK _ _ h)
theorem wpList_load_first {P : Program} {ops : Array Oper} {rest : List Oper} {op : Oper} {a : Act} {W : World} {Q : Exit → Act → World → Prop} {cs : List Value} {t : TypeId} {ob : Obj} (hgd : Region.wanted op (yielded ops a.tmps) = true) (ty : TypeId) (x : Operand) (ho : op.op = .load ty x)
  (hx : a.eval x = .pointer (some ⟨W.heap.size, 0, none⟩)) (d : TypeDesc) (hu : P.underlying ty = some d) (hd : d.isRow = true) (hi : (P.info? ty).map (·.size) = some cs.length)
  (h : wpList P ops Q rest (a.put op.dst (.agg cs.toArray)) ((W.alloc (.cells cs.toArray t)).alloc ob)) : wpList P ops Q (op :: rest) a ((W.alloc (.cells cs.toArray t)).alloc ob) :=
 wpList_load_seg hgd ty x ho W.heap.size 0 hx cs d ((Blk.new W t cs).alloc ob).whole hu hd hi h
theorem wpList_load_new {P : Program} {ops : Array Oper} {rest : List Oper} {op : Oper} {a : Act} {W : World} {Q : Exit → Act → World → Prop} {cs : List Value} {t : TypeId} (hgd : Region.wanted op (yielded ops a.tmps) = true) (ty : TypeId) (x : Operand) (ho : op.op = .load ty x)
  (hx : a.eval x = .pointer (some ⟨W.heap.size, 0, none⟩)) (d : TypeDesc) (hu : P.underlying ty = some d) (hd : d.isRow = true) (hi : (P.info? ty).map (·.size) = some cs.length)
  (h : wpList P ops Q rest (a.put op.dst (.agg cs.toArray)) (W.alloc (.cells cs.toArray t))) : wpList P ops Q (op :: rest) a (W.alloc (.cells cs.toArray t)) :=
 wpList_load_seg hgd ty x ho W.heap.size 0 hx cs d (Blk.new W t cs).whole hu hd hi h
theorem wpList_store_new {P : Program} {ops : Array Oper} {rest : List Oper} {op : Oper} {a : Act} {W : World} {Q : Exit → Act → World → Prop} {t : TypeId} {old : Array Value} (hgd : Region.wanted op (yielded ops a.tmps) = true) (ty : TypeId) (x y : Operand) (ho : op.op = .store ty x y)
  (g : Nat) (hx : a.eval x = .pointer (some ⟨g, 0, none⟩)) (cs : List Value) (hy : a.eval y = .agg cs.toArray) (hG : W.heap.size = g) (hi : (P.info? ty).map (·.size) = some cs.length) (hold : old.size = cs.length) (h1 : ∀ u ∈ cs, u.oneCell' = true)
  (h : wpList P ops Q rest (a.put op.dst undef) (W.alloc (.cells cs.toArray t))) : wpList P ops Q (op :: rest) a (W.alloc (.cells old t)) := by
 subst hG
 have hb : Blk (W.alloc (.cells old t)) W.heap.size old.toList := ⟨t, heap_alloc_last W _⟩
 refine BigFrame.wpList_want hgd fun _ hK => wp_store_blk ty x y ho W.heap.size 0 _ cs old.toList hx hy rfl hb hi (by simp [hold]) h1 ?_
 have e : patch old.toList 0 cs = cs := by unfold patch; simp; omega
 rw [e, World.setRow_alloc_new]
 exact hK _ _ h
theorem wpList_store_lay {P : Program} {ops : Array Oper} {rest : List Oper} {op : Oper} {a : Act} {W : World} {Q : Exit → Act → World → Prop} {t : TypeId} {old : Array Value} (hgd : Region.wanted op (yielded ops a.tmps) = true) (ty : TypeId) (x y : Operand) (ho : op.op = .store ty x y)
  (hx : a.eval x = .pointer (some ⟨W.heap.size, 0, none⟩)) (cs : List Value) (hy : a.eval y = .agg cs.toArray) (hi : (P.info? ty).map (·.size) = some cs.length) (hold : old.size = cs.length) (h1 : ∀ u ∈ cs, u.oneCell' = true)
  (h : ∀ w2, Blk w2 W.heap.size cs → Below W.heap.size W w2 → wpList P ops Q rest (a.put op.dst undef) w2) : wpList P ops Q (op :: rest) a (W.alloc (.cells old t)) :=
 wpList_store_new hgd ty x y ho W.heap.size hx cs hy rfl hi hold h1 (h _ (Blk.new W t cs) ((Below.refl _ _).alloc (Nat.le_refl _) _))
theorem wpList_box_lay {P : Program} {ops : Array Oper} {rest : List Oper} {op : Oper} {a : Act} {w : World} {Q : Exit → Act → World → Prop} (hgd : Region.wanted op (yielded ops a.tmps) = true) (ty : TypeId) (x : Operand) (ho : op.op = .box ty x) (cs : List Value) (hx : a.eval x = .agg cs.toArray)
  (h : ∀ w2 g, w.heap.size ≤ g → Blk w2 g cs → Below w.heap.size w w2 → wpList P ops Q rest (a.put op.dst (.pointer (some ⟨g, 0, none⟩))) w2) : wpList P ops Q (op :: rest) a w := by
 refine BigFrame.wpList_want hgd fun K hK => ?_
 unfold Oper.wp execOp
 simp only [ho, hx, Instr.box, newVar, newRow, Value.cells, Sem.run_bind, Sem.run_pure, run_newObj, Result.andThen_ok]
 exact hK _ _ (h _ _ (Nat.le_refl _) (Blk.new w ty cs) ((Below.refl _ _).alloc (Nat.le_refl _) _))
theorem wpList_alloc_lay {P : Program} {ops : Array Oper} {rest : List Oper} {op : Oper} {a : Act} {w : World} {Q : Exit → Act → World → Prop} (hgd : Region.wanted op (yielded ops a.tmps) = true) (ty : TypeId) (ho : op.op = .alloc ty) (zs : List Value)
  (hz : (P.info? ty).map (·.zero) = some (some (.agg zs.toArray)))
  (h : ∀ w2 g, w.heap.size ≤ g → Blk w2 g zs → Below w.heap.size w w2 → wpList P ops Q rest (a.put op.dst (.pointer (some ⟨g, 0, none⟩))) w2) : wpList P ops Q (op :: rest) a w := by
 refine BigFrame.wpList_want hgd fun K hK => ?_
 unfold Oper.wp execOp
 cases hq : P.info? ty with
 | none => simp [hq] at hz
 | some i =>
  have hs : i.zero = some (.agg zs.toArray) := by simpa [hq] using hz
  simp only [ho, Instr.alloc, zeroValue, typeInfo, hq, hs, newVar, newRow, Value.cells, Sem.run_bind, Sem.run_pure, run_newObj, Result.andThen_ok]
  simp [hq, hs, newVar, newRow, Value.cells]
  exact hK _ _ (h _ _ (Nat.le_refl _) (Blk.new w ty zs) ((Below.refl _ _).alloc (Nat.le_refl _) _))
theorem wpList_store_all {P : Program} {ops : Array Oper} {rest : List Oper} {op : Oper} {a : Act} {w : World} {Q : Exit → Act → World → Prop} (hgd : Region.wanted op (yielded ops a.tmps) = true) (ty : TypeId) (x y : Operand) (ho : op.op = .store ty x y)
  (g : Nat) (vs : List Value) (hx : a.eval x = .pointer (some ⟨g, 0, none⟩)) (hy : a.eval y = .agg vs.toArray) (cs : List Value) (hb : Blk w g cs)
  (hi : (P.info? ty).map (·.size) = some vs.length) (hle : vs.length = cs.length) (h1 : ∀ u ∈ vs, u.oneCell' = true)
  (h : ∀ w2, Blk w2 g vs → w.grownBy w2 (some g) → wpList P ops Q rest (a.put op.dst undef) w2) : wpList P ops Q (op :: rest) a w :=
 wpList_store_blk hgd ty x y ho g 0 vs hx hy cs hb hi (by omega) h1 (fun w2 h2 h3 _ => h w2 (by
  have e : patch cs 0 vs = vs := by unfold patch; simp; omega
  rw [e] at h2; exact h2) h3)
theorem results_blk {P : Program} {fn : Func} {p : Tmp} {ty : TypeId} (h : fn.results = #[.cell p ty]) (tmps : Array Value) (w : World) (g : Nat) (cs : List Value) (hp : tmps.getD p undef = .pointer (some ⟨g, 0, none⟩)) (hb : Blk w g cs) (d : TypeDesc)
  (hu : P.underlying ty = some d) (hd : (match d with | .struct _ | .array _ _ => true | _ => false) = true) (hi : (P.info? ty).map (·.size) = some cs.length) :
  (results fn tmps).run P w = .ok (.agg cs.toArray) w := by
 obtain ⟨t, hb⟩ := hb
 exact results_cell_row h tmps w g t cs.toArray (0, 0) d hp hb hu hd (by simpa using hi)
end Go.Proofs.YtlmbcoecipbblaaGreatDoor
namespace Go.Proofs.YtlmbcoecipbblaaGreatDoor
open Go.RowKit
section
variable {P : Program} {ops : Array Oper} {Q : Exit → Act → World → Prop} {md : Region.Mode} {S : World → Prop} {fin : Nat}
def wpAnyF (P : Program) (md : Region.Mode) (ops : Array Oper) (Q : Exit → Act → World → Prop) (S : World → Prop) (fin : Nat) : Nat → Array Bool → Act → World → Prop
 | 0, listed, a, w => Region.ready md ops listed = [] ∧ Q .normal a w
 | fuel + 1, listed, a, w =>
  (Region.ready md ops listed = [] → Q .normal a w) ∧
  ∀ i ∈ Region.ready md ops listed, wpOp P ops Q i (fun a' w' => ((listed.setIfInBounds i true).getD fin true = false → S w') ∧ wpAnyF P md ops Q S fin fuel (listed.setIfInBounds i true) a' w') a w
theorem wpAny_of_F : ∀ (fuel : Nat) (listed : Array Bool) (a : Act) (w : World), wpAnyF P md ops Q S fin fuel listed a w → wpAny P md ops Q fuel listed a w
 | 0, _, _, _, h => h
 | fuel + 1, _, _, _, h => ⟨h.1, fun i hi => wpOp_mono (fun a' w' h' => wpAny_of_F fuel _ a' w' h'.2) (h.2 i hi)⟩
def waitsB (md : Region.Mode) (ops : Array Oper) (fin i : Nat) : Bool := match ops[fin]? with
 | some o => o.after.any fun e => Region.binds md e && (e.on == i)
 | none => false
def AllReadyF (P : Program) (md : Region.Mode) (ops : Array Oper) (Q : Exit → Act → World → Prop) (S : World → Prop) (fin : Nat) (fuel : Nat) (listed : Array Bool) (a : Act) (w : World) (rs : List Nat) : Prop :=
 ∀ i ∈ rs, wpOp P ops Q i (fun a' w' => ((listed.setIfInBounds i true).getD fin true = false → S w') ∧ wpAnyF P md ops Q S fin fuel (listed.setIfInBounds i true) a' w') a w
theorem AllReadyF.nil {fuel : Nat} {listed : Array Bool} {a : Act} {w : World} : AllReadyF P md ops Q S fin fuel listed a w [] := fun _ h => by cases h
theorem AllReadyF.cons {fuel : Nat} {listed : Array Bool} {a : Act} {w : World} {i : Nat} {o : Oper} {rs : List Nat} (ho : ops[i]? = some o)
  (h : ∀ K' : Act → World → Prop, Shut (∀ a w, ((listed.setIfInBounds i true).getD fin true = false → S w) → (((listed.setIfInBounds i true).getD fin true = false → S w) → wpAnyF P md ops Q S fin fuel (listed.setIfInBounds i true) a w) → K' a w) → if Region.wanted o (yielded ops a.tmps) = true then Oper.wp P o a w K' Q else K' (a.put o.dst undef) w)
  (hs : AllReadyF P md ops Q S fin fuel listed a w rs) : AllReadyF P md ops Q S fin fuel listed a w (i :: rs) := fun j hj => by
 rcases List.mem_cons.1 hj with rfl | hj
 ·exact wpOp_step ho (fun K' hK => h K' (fun a w hS hW => hK a w ⟨hS, hW hS⟩))
 ·exact hs j hj
theorem wp_region_F {id : Nat} {a : Act} {w : World} (fin : Nat) (S : World → Prop) (hm : P.follows .mixedOrders = true) (hS : S w.drew)
  (h : S w.drew → wpAnyF P .any ops Q S fin ops.size (Array.replicate ops.size false) a w.drew) : (Code.region id ops true).wp P Q a w :=
 wp_region_any hm (wpAny_of_F _ _ _ _ (h hS))
end
end Go.Proofs.YtlmbcoecipbblaaGreatDoor
namespace Go.Proofs.YtlmbcoecipbblaaGreatDoor
open Go.RowKit
theorem fold_set (off : Nat) : ∀ (vs : List Value) (k : Nat) (cs : List Value), off + k + vs.length ≤ cs.length →
  (vs.zipIdx k).foldl (fun (cs : Array Value) (x : Value × Nat) => cs.setIfInBounds (off + x.2) x.1) cs.toArray = (patch cs (off + k) vs).toArray
 | [], k, cs, h => by simp [patch_nil]
 | v :: r, k, cs, h => by
  have hl : off + k < cs.length := by simp at h; omega
  rw [List.zipIdx_cons, List.foldl_cons]
  have e : cs.toArray.setIfInBounds (off + k) v = (cs.set (off + k) v).toArray := by simp
  simp only
  rw [e, fold_set off r (k + 1) (cs.set (off + k) v) (by simp at h ⊢; omega), ← Nat.add_assoc, patch_cons hl]
theorem fill_part {place : Nat → Option (Nat × Nat)} {i off : Nat} {v : Value} {vs cs : List Value} {rest : List (Nat × Value)} (hp : place i = some (off, vs.length)) (hv : v.cells = vs.toArray) (hl : off + vs.length ≤ cs.length) :
  Instr.fill place cs.toArray ((i, v) :: rest) = Instr.fill place (patch cs off vs).toArray rest := by
 rw [Instr.fill, hp]
 simp only [hv, List.size_toArray]
 rw [if_neg (by simp; omega)]
 have := fold_set off vs 0 cs (by omega)
 rw [Nat.add_zero] at this
 rw [← this]
 congr 1
 rw [← Array.foldl_toList]
 simp
theorem run_build2 {P : Program} {t : TypeId} {f0 f1 : Field} {zs c0 c1 : List Value} {v0 v1 : Value} (ht : P.underlying t = some (.struct #[f0, f1])) (hz : (P.info? t).map (·.zero) = some (some (.agg zs.toArray)))
  (h0 : f0.offset = 0) (h1 : f1.offset = c0.length) (s0 : (P.info? f0.type).map (·.size) = some c0.length) (s1 : (P.info? f1.type).map (·.size) = some c1.length) (hl : zs.length = c0.length + c1.length)
  (e0 : v0.cells = c0.toArray) (e1 : v1.cells = c1.toArray) (w : World) : (Instr.build t #[(0, v0), (1, v1)]).run P w = .ok (.agg (c0 ++ c1).toArray) w := by
 obtain ⟨i, hi, hzi⟩ := Option.map_eq_some_iff.1 hz
 obtain ⟨i0, hi0, hs0⟩ := Option.map_eq_some_iff.1 s0
 obtain ⟨i1, hi1, hs1⟩ := Option.map_eq_some_iff.1 s1
 have hf : Instr.fill (fun x => ([(f0.offset, i0.size), (f1.offset, i1.size)] : List (Nat × Nat))[x]?) zs.toArray [(0, v0), (1, v1)] = some (c0 ++ c1).toArray := by
  rw [fill_part (off := 0) (vs := c0) (by simp [h0, hs0]) e0 (by omega), fill_part (off := c0.length) (vs := c1) (by simp [h1, hs1]) e1 (by rw [patch_len (by omega)]; omega), Instr.fill]
  congr 2
  unfold patch
  simp only [List.take_zero, List.nil_append, Nat.zero_add]
  rw [List.take_left' rfl, List.drop_append, List.drop_of_length_le (by omega), List.drop_drop, List.drop_of_length_le (by omega)]
  simp
 unfold Instr.build
 simp [Go.zeroValue, typeInfo, hi, hzi, run_underlying ht, Go.sizeOf, hi0, hi1, Result.andThen, Value.cells]
 rw [hf]
 simp
theorem run_buildSlice1 {P : Program} {t e : TypeId} {c0 : List Value} {v0 : Value} (ht : P.underlying t = some (.slice e)) (hz : (P.info? e).map (fun i => (i.size, i.zero.map (fun z => z.cells.size))) = some (c0.length, some c0.length))
  (h0 : 0 < c0.length) (hb : c0.length ≤ 1000) (e0 : v0.cells = c0.toArray) (w : World) : (Instr.buildSlice t 1 #[(0, v0)]).run P w = .ok (.slice (some ⟨w.heap.size, 0, none⟩) 1 1) (w.alloc (.cells c0.toArray e)) := by
 obtain ⟨i, hi, hzi⟩ := Option.map_eq_some_iff.1 hz
 simp only [Prod.mk.injEq, Option.map_eq_some_iff] at hzi
 obtain ⟨hs, z, hz1, hz2⟩ := hzi
 have hf : ∀ zs : List Value, zs.length = c0.length → Instr.fill (fun x => some (x * c0.length, c0.length)) zs.toArray [(0, v0)] = some c0.toArray := fun zs hl => by
  rw [fill_part (off := 0) (vs := c0) (by simp) e0 (by omega), Instr.fill]
  congr 2
  unfold patch
  simp only [List.take_zero, List.nil_append, Nat.zero_add]
  rw [List.drop_of_length_le (by omega)]; simp
 unfold Instr.buildSlice
 simp [run_underlying ht, Go.sizeOf, typeInfo, hi, hs, Result.andThen, Go.zeroValue, hz1]
 rw [if_neg (by omega), if_neg (by intro e; simp [e] at h0)]
 have e := hf (Array.map (fun x => z.cells[x % z.cells.size]!) (Array.range c0.length)).toList (by simp)
 rw [Array.toArray_toList] at e
 rw [e]
 simp [newRow]
section
variable {P : Program} {ops : Array Oper} {Q : Exit → Act → World → Prop} {S : World → Prop}
theorem wp_buildSlice1 {op : Oper} {a : Act} {w : World} {K : Act → World → Prop} (t e : TypeId) (x : Operand) (ho : op.op = .buildSlice t 1 #[(0, x)]) (c0 : List Value) (v0 : Value) (hx : a.eval x = v0) (ht : P.underlying t = some (.slice e))
  (hz : (P.info? e).map (fun i => (i.size, i.zero.map (fun z => z.cells.size))) = some (c0.length, some c0.length)) (h0 : 0 < c0.length) (hb : c0.length ≤ 1000) (e0 : v0.cells = c0.toArray)
  (h : K (a.put op.dst (.slice (some ⟨w.heap.size, 0, none⟩) 1 1)) (w.alloc (.cells c0.toArray e))) : op.wp P a w K Q := by
 unfold Oper.wp execOp
 simp only [ho, List.map_toArray, List.map_cons, List.map_nil, hx, Sem.run_bind, Sem.run_pure, run_buildSlice1 ht hz h0 hb e0 w, Result.andThen_ok]
 exact h
end
end Go.Proofs.YtlmbcoecipbblaaGreatDoor
namespace Go.Proofs.YtlmbcoecipbblaaGreatDoor
open Go.RowKit
section
variable {P : Program} {ops : Array Oper} {Q : Exit → Act → World → Prop} {md : Region.Mode} {P0 P1 : World → Prop} {fin : Nat}
def InvG (P0 P1 : World → Prop) (fin : Nat) (listed : Array Bool) (w : World) : Prop := P0 w ∧ (listed.getD fin false = false → P1 w)
def wpAnyG (P : Program) (md : Region.Mode) (ops : Array Oper) (Q : Exit → Act → World → Prop) (P0 P1 : World → Prop) (fin : Nat) : Nat → Array Bool → Act → World → Prop
 | 0, listed, a, w => Region.ready md ops listed = [] ∧ Q .normal a w
 | fuel + 1, listed, a, w =>
  (Region.ready md ops listed = [] → Q .normal a w) ∧
  ∀ i ∈ Region.ready md ops listed, wpOp P ops Q i (fun a' w' => InvG P0 P1 fin (listed.setIfInBounds i true) w' ∧ wpAnyG P md ops Q P0 P1 fin fuel (listed.setIfInBounds i true) a' w') a w
theorem wpAny_of_G : ∀ (fuel : Nat) (listed : Array Bool) (a : Act) (w : World), wpAnyG P md ops Q P0 P1 fin fuel listed a w → wpAny P md ops Q fuel listed a w
 | 0, _, _, _, h => h
 | fuel + 1, _, _, _, h => ⟨h.1, fun i hi => wpOp_mono (fun a' w' h' => wpAny_of_G fuel _ a' w' h'.2) (h.2 i hi)⟩
def waitsT (md : Region.Mode) (ops : Array Oper) (i : Nat) : Nat → Nat → Bool
 | 0, _ => false
 | n + 1, j => match ops[j]? with
  | some o => o.after.any fun e => Region.binds md e && (e.on == i || waitsT md ops i n e.on)
  | none => false
def ClosedG (md : Region.Mode) (ops : Array Oper) (listed : Array Bool) : Prop := ∀ j oj, ops[j]? = some oj → listed.getD j false = true → ∀ e ∈ oj.after, Region.binds md e = true → listed.getD e.on false = true
def closedB (md : Region.Mode) (ops : Array Oper) (listed : Array Bool) : Bool := (List.range ops.size).all fun j => match ops[j]? with
 | some oj => !(listed.getD j false) || oj.after.all fun e => !(Region.binds md e) || listed.getD e.on false
 | none => true
theorem closedB_spec {listed : Array Bool} (h : closedB md ops listed = true) : ClosedG md ops listed := by
 intro j oj hj hl e he hb
 have h1 := List.all_eq_true.1 h j (List.mem_range.2 (Array.getElem?_eq_some_iff.1 hj).1)
 simp only [hj, hl, Bool.not_true, Bool.false_or] at h1
 have h2 := Array.all_eq_true'.1 h1 e he
 simpa [hb] using h2
theorem getD_set_neG {l : Array Bool} {j k : Nat} {d : Bool} (h : j ≠ k) : (l.setIfInBounds j true).getD k d = l.getD k d := by
 simp [Array.getD_eq_getD_getElem?, h]
theorem getD_set_trueG {l : Array Bool} {j k : Nat} (h : l.getD k false = true) : (l.setIfInBounds j true).getD k false = true := by
 by_cases hjk : j = k
 ·subst hjk
  have : j < l.size := by
   rcases Nat.lt_or_ge j l.size with h' | h'
   ·exact h'
   ·simp [h'] at h
  simp [this]
 ·rw [getD_set_neG hjk]; exact h
theorem not_true_of {l : Array Bool} {i : Nat} (h : l.getD i true = false) : l.getD i false = false := by
 rcases Nat.lt_or_ge i l.size with h' | h'
 ·simp [h'] at h ⊢; exact h
 ·simp [h'] at h
theorem ClosedG.set {i : Nat} {listed : Array Bool} (inv : ClosedG md ops listed) (hi : i ∈ Region.ready md ops listed) : ClosedG md ops (listed.setIfInBounds i true) := by
 obtain ⟨_, oi, hoi, hall⟩ := mem_ready.1 hi
 intro j oj hj hl e he hb
 by_cases hij : i = j
 ·subst hij
  have : oj = oi := Option.some.inj (hj.symm.trans hoi)
  subst this
  exact getD_set_trueG (hall e he hb)
 ·rw [getD_set_neG hij] at hl
  exact getD_set_trueG (inv j oj hj hl e he hb)
theorem waitsT_listed {i : Nat} {listed : Array Bool} (inv : ClosedG md ops listed) (hi : listed.getD i true = false) : ∀ (n j : Nat), waitsT md ops i n j = true → listed.getD j false = false
 | 0, _, h => by cases h
 | n + 1, j, h => by
  unfold waitsT at h
  split at h
  ·next o ho =>
   obtain ⟨e, he, hb⟩ := Array.any_eq_true'.1 h
   simp only [Bool.and_eq_true, Bool.or_eq_true, beq_iff_eq] at hb
   cases hl : listed.getD j false with
   | false => rfl
   | true =>
    have h1 := inv j o ho hl e he hb.1
    rcases hb.2 with h2 | h2
    ·rw [h2, not_true_of hi] at h1; cases h1
    ·rw [waitsT_listed inv hi n _ h2] at h1; cases h1
  ·cases h
theorem wpAnyG_first {S : World → Prop} {i : Nat} {oi : Oper} {v : Value} (hi : ops[i]? = some oi) (hsel : ∀ (j : Nat) (o : Oper) cs b, ops[j]? = some o → o.op ≠ .select cs b)
  (hQ : ∀ c a w, Q (.panic c) (a.put oi.dst v) w → Q (.panic c) a w) (hfi : fin ≠ i) (hS : ∀ L w, ClosedG md ops L → L.getD i true = false → InvG P0 P1 fin L w → S w) :
  ∀ (fuel : Nat) (listed : Array Bool) (a : Act) (w : World), ClosedG md ops listed →
   (∀ j oj, ops[j]? = some oj → j ≠ i → listed.getD j true = false → (∀ e ∈ oj.after, Region.binds md e = true → e.on ≠ i) → oi.apart ops oj = true) →
   i ∈ Region.ready md ops listed → YieldsIf P ops S oi v a → InvG P0 P1 fin listed w →
   wpAnyG P md ops Q P0 P1 fin fuel (listed.setIfInBounds i true) (a.put oi.dst v) w → wpAnyG P md ops Q P0 P1 fin (fuel + 1) listed a w := by
 have hset : ∀ L w, InvG P0 P1 fin (L.setIfInBounds i true) w ↔ InvG P0 P1 fin L w := fun L w => by
  unfold InvG; rw [getD_set_neG (fun e => hfi e.symm)]
 intro fuel
 induction fuel with
 | zero =>
  intro listed a w hcl hfree hr hy hI H
  refine ⟨fun h => (by rw [h] at hr; cases hr), fun j hj => ?_⟩
  by_cases hji : j = i
  ·subst hji; exact hy.wpOp hi (hS _ _ hcl (mem_ready.1 hr).1 hI) ⟨(hset _ _).2 hI, H⟩
  ·have := ready_mono hj hji
   rw [H.1] at this
   cases this
 | succ fuel ih =>
  intro listed a w hcl hfree hr hy hI H
  refine ⟨fun h => (by rw [h] at hr; cases hr), fun j hj => ?_⟩
  by_cases hji : j = i
  ·subst hji; exact hy.wpOp hi (hS _ _ hcl (mem_ready.1 hr).1 hI) ⟨(hset _ _).2 hI, H⟩
  ·have h1 := H.2 j (ready_mono hj hji)
   obtain ⟨hjun, oj, hoj, hall⟩ := mem_ready.1 hj
   have hnot : ∀ e ∈ oj.after, Region.binds md e = true → e.on ≠ i := fun e he hb heq => by
    have h1 := hall e he hb
    have h0 := (mem_ready.1 hr).1
    rw [heq, not_true_of h0] at h1
    cases h1
   have h2 := wpOp_putIf hoj (hfree j oj hoj hji hjun hnot) (fun cs b => hsel i oi cs b hi) (fun cs b => hsel j oj cs b hoj) hQ hy h1
   have hfree' : ∀ k ok, ops[k]? = some ok → k ≠ i → (listed.setIfInBounds j true).getD k true = false →
     (∀ e ∈ ok.after, Region.binds md e = true → e.on ≠ i) → oi.apart ops ok = true := fun k ok hk hki hun hno => by
    refine hfree k ok hk hki ?_ hno
    by_cases hjk : j = k
    ·subst hjk; exact hjun
    ·rw [getD_set_neG hjk] at hun; exact hun
   refine wpOp_mono (fun a' w' h3 => ?_) h2
   have h4 := h3.2.1
   rw [Array.setIfInBounds_comm _ _ (Ne.symm hji), hset] at h4
   refine ⟨h4, ih (listed.setIfInBounds j true) a' w' (hcl.set hj) hfree' (ready_mono hr (Ne.symm hji)) h3.1 h4 ?_⟩
   rw [Array.setIfInBounds_comm _ _ hji]
   exact h3.2.2
theorem wpAnyG_take {i : Nat} {oi : Oper} {v : Value} {fuel : Nat} {listed : Array Bool} {a : Act} {w : World} (hi : ops[i]? = some oi)
  (hb : (Region.noSelect ops && Region.free md ops listed i && (Region.ready md ops listed).contains i && (waitsT md ops i ops.size fin && (fin != i)) && closedB md ops listed) = true)
  (hQ : ∀ c a w, Q (.panic c) (a.put oi.dst v) w → Q (.panic c) a w) (hy : YieldsIf P ops (fun w => P0 w ∧ P1 w) oi v a) (hS : InvG P0 P1 fin listed w)
  (h : wpAnyG P md ops Q P0 P1 fin fuel (listed.setIfInBounds i true) (a.put oi.dst v) w) : wpAnyG P md ops Q P0 P1 fin (fuel + 1) listed a w := by
 simp only [Bool.and_eq_true, bne_iff_ne] at hb
 exact wpAnyG_first (S := fun w => P0 w ∧ P1 w) hi (Region.noSelect_spec hb.1.1.1.1) hQ hb.1.2.2 (fun L w hc hl hI => ⟨hI.1, hI.2 (waitsT_listed hc hl _ _ hb.1.2.1)⟩) fuel listed a w (closedB_spec hb.2) (Region.free_spec hi hb.1.1.1.2) (by simpa using hb.1.1.2) hy hS h
theorem wpAnyG_take0 {i : Nat} {oi : Oper} {v : Value} {fuel : Nat} {listed : Array Bool} {a : Act} {w : World} (hi : ops[i]? = some oi)
  (hb : (Region.noSelect ops && Region.free md ops listed i && (Region.ready md ops listed).contains i && (fin != i) && closedB md ops listed) = true)
  (hQ : ∀ c a w, Q (.panic c) (a.put oi.dst v) w → Q (.panic c) a w) (hy : YieldsIf P ops P0 oi v a) (hS : InvG P0 P1 fin listed w)
  (h : wpAnyG P md ops Q P0 P1 fin fuel (listed.setIfInBounds i true) (a.put oi.dst v) w) : wpAnyG P md ops Q P0 P1 fin (fuel + 1) listed a w := by
 simp only [Bool.and_eq_true, bne_iff_ne] at hb
 exact wpAnyG_first (S := P0) hi (Region.noSelect_spec hb.1.1.1.1) hQ hb.1.2 (fun L w hc hl hI => hI.1) fuel listed a w (closedB_spec hb.2) (Region.free_spec hi hb.1.1.1.2) (by simpa using hb.1.1.2) hy hS h
def AllReadyG (P : Program) (md : Region.Mode) (ops : Array Oper) (Q : Exit → Act → World → Prop) (P0 P1 : World → Prop) (fin : Nat) (fuel : Nat) (listed : Array Bool) (a : Act) (w : World) (rs : List Nat) : Prop :=
 ∀ i ∈ rs, wpOp P ops Q i (fun a' w' => InvG P0 P1 fin (listed.setIfInBounds i true) w' ∧ wpAnyG P md ops Q P0 P1 fin fuel (listed.setIfInBounds i true) a' w') a w
theorem AllReadyG.nil {fuel : Nat} {listed : Array Bool} {a : Act} {w : World} : AllReadyG P md ops Q P0 P1 fin fuel listed a w [] := fun _ h => by cases h
theorem AllReadyG.cons {fuel : Nat} {listed : Array Bool} {a : Act} {w : World} {i : Nat} {o : Oper} {rs : List Nat} (ho : ops[i]? = some o)
  (h : ∀ K' : Act → World → Prop, Shut (∀ a w, InvG P0 P1 fin (listed.setIfInBounds i true) w → (InvG P0 P1 fin (listed.setIfInBounds i true) w → wpAnyG P md ops Q P0 P1 fin fuel (listed.setIfInBounds i true) a w) → K' a w) → if Region.wanted o (yielded ops a.tmps) = true then Oper.wp P o a w K' Q else K' (a.put o.dst undef) w)
  (hs : AllReadyG P md ops Q P0 P1 fin fuel listed a w rs) : AllReadyG P md ops Q P0 P1 fin fuel listed a w (i :: rs) := fun j hj => by
 rcases List.mem_cons.1 hj with rfl | hj
 ·exact wpOp_step ho (fun K' hK => h K' (fun a w hS hW => hK a w ⟨hS, hW hS⟩))
 ·exact hs j hj
theorem AllReadyG.plain {fuel : Nat} {listed : Array Bool} {a : Act} {w : World} {i : Nat} {o : Oper} {rs : List Nat} (ho : ops[i]? = some o) (hgd : o.guard = none)
  (h : ∀ K' : Act → World → Prop, Shut (∀ a w, InvG P0 P1 fin (listed.setIfInBounds i true) w → (InvG P0 P1 fin (listed.setIfInBounds i true) w → wpAnyG P md ops Q P0 P1 fin fuel (listed.setIfInBounds i true) a w) → K' a w) → Oper.wp P o a w K' Q)
  (hs : AllReadyG P md ops Q P0 P1 fin fuel listed a w rs) : AllReadyG P md ops Q P0 P1 fin fuel listed a w (i :: rs) :=
 AllReadyG.cons ho (fun K' hK => by
  have hw : Region.wanted o (yielded ops a.tmps) = true := by simp [Region.wanted, hgd]
  rw [if_pos hw]
  exact h K' hK) hs
theorem wp_region_G {id : Nat} {a : Act} {w : World} (fin : Nat) (P0 P1 : World → Prop) (hm : P.follows .mixedOrders = true) (h0 : P0 w.drew) (h1 : P1 w.drew)
  (h : InvG P0 P1 fin (Array.replicate ops.size false) w.drew → wpAnyG P .any ops Q P0 P1 fin ops.size (Array.replicate ops.size false) a w.drew) : (Code.region id ops true).wp P Q a w :=
 wp_region_any hm (wpAny_of_G _ _ _ _ (h ⟨h0, fun _ => h1⟩))
theorem InvG.mk {listed : Array Bool} {w : World} (h0 : P0 w) (h1 : P1 w) : InvG P0 P1 fin listed w := ⟨h0, fun _ => h1⟩
theorem InvG.past {listed : Array Bool} {w : World} (h0 : P0 w) (h1 : listed.getD fin false = true) : InvG P0 P1 fin listed w := ⟨h0, fun h => by rw [h1] at h; cases h⟩
end
end Go.Proofs.YtlmbcoecipbblaaGreatDoor
namespace Go.Proofs.YtlmbcoecipbblaaGreatDoor
open Go.RowKit
structure RowR (B : Nat) (e : TypeId) (size : Nat) (X : List (Option Nat)) (R : Frag → List (List Value) → Prop) (w : World) (v : Value) (es : List (List Value)) : Prop where
 own : w.ownsRow B e size v es.length es.flatten
 sizes : ∀ x ∈ es, x.length = size
 rd : R (fragE w (v.ownBlock :: X)) es
theorem RowR.nil {B : Nat} {e : TypeId} {size : Nat} {X : List (Option Nat)} {R : Frag → List (List Value) → Prop} {w : World} (hR : ∀ h, R h []) : RowR B e size X R w (.slice none 0 0) [] :=
 ⟨⟨by simp, .inl ⟨rfl, rfl⟩⟩, fun x h => by simp at h, hR _⟩
theorem RowR.below {B : Nat} {e : TypeId} {size : Nat} {X : List (Option Nat)} {R : Frag → List (List Value) → Prop} {w w' : World} {v : Value} {es : List (List Value)} (hR : ∀ h h', FLe h h' → R h es → R h' es) (h : RowR B e size X R w v es) (hb : Below w.heap.size w w') : RowR B e size X R w' v es :=
 ⟨h.own.kept (grown_of_below hb none) (by
  rcases h.own.2 with ⟨rfl, _⟩ | ⟨g, cap, cur, rfl, _⟩
  ·exact .inl rfl
  ·exact .inr (by simp [Value.ownBlock])), h.sizes, hR _ _ (belowE hb (fun _ h => .inl h)) h.rd⟩
theorem RowR.to {B : Nat} {e : TypeId} {size : Nat} {X : List (Option Nat)} {R R' : Frag → List (List Value) → Prop} {w : World} {v : Value} {es : List (List Value)} (h : RowR B e size X R w v es) (hR : ∀ h, R h es → R' h es) : RowR B e size X R' w v es :=
 ⟨h.own, h.sizes, hR _ h.rd⟩
theorem RowR.flat {B : Nat} {e : TypeId} {size : Nat} {X : List (Option Nat)} {R : Frag → List (List Value) → Prop} {w : World} {v : Value} {es : List (List Value)} (h : RowR B e size X R w v es) (hX : ∀ k, some k ∈ X → k < B) : FlatC size (fragE w X) v es :=
 FlatC.of_owns h.own rfl h.sizes (by
  rcases h.own.2 with ⟨rfl, _⟩ | ⟨g, cap, cur, rfl, hb, _⟩
  ·exact .inl rfl
  ·right; intro hm
   have := hX g hm
   omega)
theorem RowR.read {B : Nat} {e : TypeId} {size : Nat} {X : List (Option Nat)} {R : Frag → List (List Value) → Prop} {w : World} {v : Value} {es : List (List Value)} (hR : ∀ h h', FLe h h' → R h es → R h' es) (h : RowR B e size X R w v es) : R (fragE w X) es :=
 hR _ _ (subE w (fun k hk => by simp [hk])) h.rd
theorem RowR.lt {B : Nat} {e : TypeId} {size : Nat} {X : List (Option Nat)} {R : Frag → List (List Value) → Prop} {w : World} {v : Value} {es : List (List Value)} (h : RowR B e size X R w v es) (hX : ∀ k, some k ∈ X → k < w.heap.size) : ∀ k, some k ∈ v.ownBlock :: X → k < w.heap.size := fun k hk => by
 rcases List.mem_cons.1 hk with hk | hk
 ·exact (h.own.lt k hk.symm).2
 ·exact hX k hk
theorem RowR.ge {B : Nat} {e : TypeId} {size : Nat} {X : List (Option Nat)} {R : Frag → List (List Value) → Prop} {w : World} {v : Value} {es : List (List Value)} (h : RowR B e size X R w v es) : ∀ k, v.ownBlock = some k → B ≤ k := fun k hk => (h.own.lt k hk).1
theorem RowR.one {B : Nat} {e : TypeId} {size : Nat} {X : List (Option Nat)} {R : Frag → List (List Value) → Prop} {w : World} {v : Value} {es : List (List Value)} (h : RowR B e size X R w v es) : v.oneCell' = true := by
 rcases h.own.2 with ⟨rfl, _⟩ | ⟨g, cap, cur, rfl, _⟩ <;> rfl
theorem RowR.push {B : Nat} {e : TypeId} {size : Nat} {X : List (Option Nat)} {R R' : Frag → List (List Value) → Prop} {w w8 : World} {v : Value} {es : List (List Value)} {cs : List Value} {g cap : Nat} (h : RowR B e size X R w v es) (hl : cs.length = size)
  (hown : w8.ownsRow B e size (.slice (some ⟨g, 0, none⟩) (es.length + 1) cap) (es.length + 1) (es.flatten ++ cs)) (hg : (w.alloc (.cells cs.toArray e)).grownBy w8 v.ownBlock) (hat : v.ownBlock = some g ∨ g = w.heap.size + 1)
  (hR : ∀ h', FLe (fragE w (v.ownBlock :: X)) h' → R' h' (es ++ [cs])) : RowR B e size X R' w8 (.slice (some ⟨g, 0, none⟩) (es.length + 1) cap) (es ++ [cs]) ∧ w.grownBy w8 v.ownBlock := by
 have hg2 : w.grownBy w8 v.ownBlock := ⟨hg.os, hg.tape, hg.output, Nat.le_trans (by simp) hg.size, fun k hk hne => (hg.block k (by simp; omega) hne).trans (Below.heap_alloc w _ k hk)⟩
 refine ⟨⟨by simpa using hown, fun x hx => ?_, hR _ (grownE hg2 (.inr (by simp)) (fun k hk => ?_))⟩, hg2⟩
 ·rcases List.mem_append.1 hx with hx | hx
  ·exact h.sizes x hx
  ·simp only [List.mem_singleton] at hx; rw [hx]; exact hl
 ·rcases List.mem_cons.1 hk with hk | hk
  ·have hk : k = g := by simpa [Value.ownBlock] using hk
   rcases hat with h2 | h2
   ·left; rw [hk, h2]; exact List.mem_cons_self ..
   ·right; omega
  ·exact .inl (List.mem_cons_of_mem _ hk)
theorem wp_append_one {P : Program} {t e : TypeId} {z : Value} {size bytes : Nat} (T : SliceT P t e z size bytes) {o : Oper} {a : Act} {K : Act → World → Prop} {Q : Exit → Act → World → Prop} (s x : Operand)
  (ho : o.op = .call { callee := .builtin .append, args := #[s, x], argTypes := #[t, t] }) {w : World} {B : Nat} {X : List (Option Nat)} {R : Frag → List (List Value) → Prop} {v : Value} {es : List (List Value)} (R' : Frag → List (List Value) → Prop) (cs : List Value)
  (hs : a.eval s = v) (h : RowR B e size X R w v es) (hx : a.eval x = .slice (some ⟨w.heap.size, 0, none⟩) 1 1) (hl : cs.length = size) (h1 : ∀ u ∈ cs, u.oneCell' = true)
  (hn : (es.length + 1) * bytes ≤ 140737488355328) (hB : B ≤ w.heap.size) (hR : ∀ h', FLe (fragE w (v.ownBlock :: X)) h' → R' h' (es ++ [cs]))
  (hK : ∀ v' w', RowR B e size X R' w' v' (es ++ [cs]) → Below B w w' → w.grownBy w' v.ownBlock → v' ≠ .slice none 0 0 → K (a.put o.dst v') w') : o.wp P a (w.alloc (.cells cs.toArray e)) K Q := by
 obtain ⟨i, hi, hz0, hz1, hz2⟩ := info_parts T.info
 have hb := T.bpos
 have hn' : es.length + 1 ≤ (es.length + 1) * bytes := Nat.le_mul_of_pos_right _ hb
 refine wp_append_lies _ s x t ho B e i z size bytes T.und hi hz0 hz1 hz2 T.cells T.pos v es.length es.flatten hs (h.own.alloc _) ⟨w.heap.size, 0, none⟩ 1 1 cs hx (by simpa using hl) (World.news_of_block (heap_alloc_new w _)) h1 (by decide) (by unfold maxLen; omega) hn (by simp; omega) (w.heap.size + 1) (by simp) ?_
 intro g cap w8 ho8 hg8 hat hlt
 obtain ⟨h8, hg⟩ := h.push hl ho8 hg8 hat hR
 exact hK _ w8 h8 (Below.grown (Below.refl _ _) hg hB (fun k hk => h.ge k hk)) hg (by simp)
theorem wpList_buildSlice1 {P : Program} {ops : Array Oper} {rest : List Oper} {op : Oper} {a : Act} {w : World} {Q : Exit → Act → World → Prop} (hgd : op.guard = none) (t e : TypeId) (x : Operand) (ho : op.op = .buildSlice t 1 #[(0, x)]) (c0 : List Value) (v0 : Value) (hx : a.eval x = v0) (ht : P.underlying t = some (.slice e))
  (hz : (P.info? e).map (fun i => (i.size, i.zero.map (fun z => z.cells.size))) = some (c0.length, some c0.length)) (h0 : 0 < c0.length) (hb : c0.length ≤ 1000) (e0 : v0.cells = c0.toArray)
  (h : wpList P ops Q rest (a.put op.dst (.slice (some ⟨w.heap.size, 0, none⟩) 1 1)) (w.alloc (.cells c0.toArray e))) : wpList P ops Q (op :: rest) a w :=
 wpList_plain hgd fun _ hK => wp_buildSlice1 t e x ho c0 v0 hx ht hz h0 hb e0 (hK _ _ h)
theorem wp_append_opt {P : Program} {t e : TypeId} {z : Value} {size bytes : Nat} (T : SliceT P t e z size bytes) {o : Oper} {a : Act} {K : Act → World → Prop} {Q : Exit → Act → World → Prop} (s x : Operand)
  (ho : o.op = .call { callee := .builtin .append, args := #[s, x], argTypes := #[t, t] }) {W : World} {base n m c : Nat} {ad : Option Addr} {v : Value} {xs news : List Value}
  (hs : a.eval s = v) (hown : W.ownsRow base e size v n xs) (hx : a.eval x = .slice ad m c) (hnil : ad = none → c = 0) (hmc : m ≤ c) (hrow : HRow (frag W) ad news) (hl : news.length = m * size) (h1 : ∀ u ∈ news, u.oneCell' = true)
  (hn : (n + m) * bytes ≤ 140737488355328) (hbase : base ≤ W.heap.size)
  (h : ∀ v' w', w'.ownsRow base e size v' (n + m) (xs ++ news) → W.grownBy w' v.ownBlock → (v'.ownBlock = v.ownBlock ∨ v'.ownBlock = some W.heap.size) → K (a.put o.dst v') w') : o.wp P a W K Q := by
 obtain ⟨i, hi, hz0, hz1, hz2⟩ := info_parts T.info
 have hb := T.bpos
 have hn' : n + m ≤ (n + m) * bytes := Nat.le_mul_of_pos_right _ hb
 cases ad with
 | some p =>
  have hcell : ∀ j u, news[j]? = some u → W.cell? (p.add j) = some u := by
   intro j u hu
   rcases hrow with rfl | ⟨b, off, cur, t', fr, e2, hb2, hc⟩
   ·simp at hu
   ·cases e2
    have hj := (List.getElem?_eq_some_iff.1 hu).1
    rw [Addr.add_none, cell_of_row W b _ cur t' fr hb2, hc j hj, hu]
  obtain ⟨v', w', hr, h2, h3, h4, h5⟩ := run_append_own_at (P := P) W base t o.type e i z size bytes T.und hi hz0 hz1 hz2 T.cells T.pos v n xs hown p m c news hl hcell h1 (by unfold maxLen; omega) hn hbase
  unfold Oper.wp execOp
  simp only [ho, resolve, invoke, builtin, Sem.run_bind, Sem.run_pure, Result.andThen_ok, List.map_toArray, List.map_cons, List.map_nil, hs, hx, hr]
  exact h v' w' h2 h3 h5
 | none =>
  obtain rfl := hnil rfl
  obtain rfl : m = 0 := by omega
  obtain rfl : news = [] := List.eq_nil_of_length_eq_zero (by simpa using hl)
  have hrun := run_append_owned_none (P := P) (w := W) base t o.type e i size T.und hi v n xs hown
  unfold Oper.wp
  simp [execOp, ho, resolve, invoke, builtin, hs, hx, hrun, Result.andThen]
  exact h v W (by simpa using hown) (World.grownBy.refl W _) (.inl rfl)
theorem own_blk {w : World} {B : Nat} {e : TypeId} {size g n c : Nat} {xs : List Value} (h : w.ownsRow B e size (.slice (some ⟨g, 0, none⟩) n c) n xs) {o : Nat} {vs : List Value} (ho : o + vs.length ≤ xs.length) :
  ∃ cs, Blk w g cs ∧ o + vs.length ≤ cs.length ∧ (w.setRow g (patch cs o vs).toArray).ownsRow B e size (.slice (some ⟨g, 0, none⟩) n c) n (patch xs o vs) := by
 rcases h.2 with ⟨hn, _⟩ | ⟨g', cap, cur, hv, hb, hg, hnc, hcm, hcs, htake⟩
 ·cases hn
 ·cases hv
  have hxl := h.1
  have hcl : n * size ≤ cur.toList.length := by rw [Array.length_toList, hcs]; exact Nat.mul_le_mul_right _ hnc
  have hle : o + vs.length ≤ cur.toList.length := by omega
  refine ⟨cur.toList, ⟨e, by simpa using hg⟩, hle, ⟨by rw [patch_len ho]; exact hxl, .inr ⟨g, c, (patch cur.toList o vs).toArray, rfl, hb, setRow_heap w g cur _ e _ hg, hnc, hcm, ?_, ?_⟩⟩⟩
  ·simp only [List.size_toArray]; rw [patch_len hle, Array.length_toList, hcs]
  ·show List.take (n * size) (patch cur.toList o vs) = patch xs o vs
   rw [← htake]
   unfold patch
   have ht : (List.take o cur.toList).length = o := by rw [List.length_take]; omega
   rw [List.take_append, List.take_append, List.take_take, ht, List.take_of_length_le (show vs.length ≤ n * size - o by omega), Nat.min_eq_right (by omega), List.take_take, Nat.min_eq_left (by omega), List.drop_take, Nat.sub_sub]
theorem wp_store_own {P : Program} {op : Oper} {a : Act} {w : World} {K : Act → World → Prop} {Q : Exit → Act → World → Prop} (ty : TypeId) (x y : Operand) (ho : op.op = .store ty x y)
  {B : Nat} {e : TypeId} {size g n c o : Nat} {xs vs : List Value} {v : Value} (hx : a.eval x = .pointer (some ⟨g, o, none⟩)) (hy : a.eval y = v) (hv : v.cells = vs.toArray) (h : w.ownsRow B e size (.slice (some ⟨g, 0, none⟩) n c) n xs)
  (hi : (P.info? ty).map (·.size) = some vs.length) (hle : o + vs.length ≤ xs.length) (h1 : ∀ u ∈ vs, u.oneCell' = true)
  (hK : ∀ w2, w2.ownsRow B e size (.slice (some ⟨g, 0, none⟩) n c) n (patch xs o vs) → w.grownBy w2 (some g) → w2.heap.size = w.heap.size → K (a.put op.dst undef) w2) : op.wp P a w K Q := by
 obtain ⟨cs, hb, hl, h2⟩ := own_blk h hle
 exact wp_store_blk ty x y ho g o v vs cs hx hy hv hb hi hl h1 (hK _ h2 (setRow_grown _) (by simp))
theorem wp_store_lay {P : Program} {op : Oper} {a : Act} {w : World} {K : Act → World → Prop} {Q : Exit → Act → World → Prop} (ty : TypeId) (x y : Operand) (ho : op.op = .store ty x y)
  (g o : Nat) (v : Value) (vs cs : List Value) (hx : a.eval x = .pointer (some ⟨g, o, none⟩)) (hy : a.eval y = v) (hv : v.cells = vs.toArray) (hb : Blk w g cs)
  (hi : (P.info? ty).map (·.size) = some vs.length) (hle : o + vs.length ≤ cs.length) (h1 : ∀ u ∈ vs, u.oneCell' = true)
  (hK : ∀ w2, Blk w2 g (patch cs o vs) → w.grownBy w2 (some g) → w2.heap.size = w.heap.size → K (a.put op.dst undef) w2) : op.wp P a w K Q :=
 wp_store_blk ty x y ho g o v vs cs hx hy hv hb hi hle h1 (hK _ (hb.set _) (setRow_grown _) (by simp))
theorem one_cells {v : Value} (h : v.oneCell' = true) : v.cells = [v].toArray := by cases v <;> first | rfl | cases h
end Go.Proofs.YtlmbcoecipbblaaGreatDoor
