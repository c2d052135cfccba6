/- What all walks of this seat share: how slices lead to rows of cells; small. -/
import Derived.Test.YtebekgdjknenlaaGreatDoorRows
import Derived.WalkKit
import Derived.WalkSpells
import Derived.WalkLawsBesides
import Derived.RegionTactic
import Derived.ChangeAlike
import Derived.BigQuiet
import Derived.Deep.QuietTactic
import Derived.Lib.Hide
import Derived.Lib.IndexBytes
import Derived.Deep.RegionWith
import Derived.Deep.RegionHeld3
import Derived.Deep.LoopGhost
import Derived.Deep.Cut
import Derived.Maps.AppendAt
set_option linter.unusedVariables false
set_option linter.unusedSimpArgs false
namespace Go.Proofs.YtebekgdjknenlaaGreatDoor
open Go.RowKit
theorem Yq {p : Prop} (h : p) : Hid p := Lib.hid h
theorem iC {P : Program} {t n : Nat} {c : List Value} (h : (P.info? t).map (·.size) = some n) (l : Hid (c.length = n)) : (P.info? t).map (·.size) = some c.length := h.trans (congrArg some l.out.symm)
theorem ret_int {k : IntKind} {a b : Int} (h : a = b) : Ending.returned (.int k a) = .returned (.int k b) := by rw [h]
theorem ret_bool {a b : Bool} (h : a = b) : Ending.returned (.bool a) = .returned (.bool b) := by rw [h]
theorem Below.drewN {B : Nat} {a w : World} (h : Below B a w) (n : Nat) : Below B a (w.drewN n) := ⟨h.os, h.tape, h.output, h.size, h.block⟩
def Row (w : World) (a : Option Addr) (xs : List Value) : Prop :=
 xs = [] ∨ ∃ b off, a = some ⟨b, off, none⟩ ∧ b < w.heap.size ∧ ∀ i, i < xs.length → w.cell? ⟨b, off + i, none⟩ = xs[i]?
theorem Row.at {w : World} {a : Option Addr} {xs : List Value} (h : Row w a xs) {i : Nat} (hi : i < xs.length) :
  ∃ b off, a = some ⟨b, off, none⟩ ∧ b < w.heap.size ∧ w.cell? ⟨b, off + i, none⟩ = some xs[i] := by
 rcases h with rfl | ⟨b, off, rfl, hb, h⟩
 ·simp at hi
 ·exact ⟨b, off, rfl, hb, by rw [h i hi, List.getElem?_eq_getElem hi]⟩
theorem Row.keep {w w' : World} {a : Option Addr} {xs : List Value} (h : Row w a xs) (hb : Below w.heap.size w w') : Row w' a xs := by
 rcases h with rfl | ⟨b, off, rfl, hlt, h⟩
 ·exact .inl rfl
 ·exact .inr ⟨b, off, rfl, Nat.lt_of_lt_of_le hlt hb.size, fun i hi => by rw [← h i hi]; exact hb.cell (p := ⟨b, off + i, none⟩) hlt⟩
theorem Addr.add_none (b off k : Nat) : (⟨b, off, none⟩ : Addr).add k = ⟨b, off + k, none⟩ := by unfold Addr.add; split <;> simp_all
theorem idx {P : Program} {t : TypeId} {a : Option Addr} {n cap i : Nat} {w : World} {xs : List Value} (h : Row w a xs) (hi : i < n) (hn : xs.length = n) (ht : P.underlying t = some (.slice (P.elem t)))
  (hs : ∀ w, (sizeOf (P.elem t)).run P w = .ok 1 w) :
  ∃ b o, b < w.heap.size ∧ (∀ w', (Instr.indexAt t (.slice a n cap) (.int .i64 i)).run P w' = .ok (.pointer (some ⟨b, o, none⟩)) w') ∧ w.cell? ⟨b, o, none⟩ = some (xs[i]'(by omega)) := by
 obtain ⟨b, off, rfl, hb, hc⟩ := h.at (i := i) (by omega)
 refine ⟨b, off + i, hb, fun w' => ?_, hc⟩
 rw [run_indexAt_slice (h := ht), if_pos (by omega), hs]
 simp [Result.andThen, Addr.add_none]
theorem isEmpty_yes {s : ByteArray} (h : s.size = 0) : s.toList.isEmpty = true := by
 rw [Lib.toList_data]
 have : s.data.toList.length = 0 := by simpa using h
 rw [List.length_eq_zero_iff.1 this]; rfl
theorem isEmpty_no {s : ByteArray} (h : s.size ≠ 0) : s.toList.isEmpty = false := by
 rw [Lib.toList_data]
 cases e : s.data.toList with
 | nil => exact absurd (by simpa using congrArg List.length e) h
 | cons => rfl
structure SliceT (P : Program) (t e : TypeId) (z : Value) (size bytes : Nat) : Prop where
 und : P.underlying t = some (.slice e)
 info : (P.info? e).map (fun i => (i.zero, i.size, i.bytes)) = some (some z, size, bytes)
 cells : z.cells.size = size
 pos : 0 < size
 bpos : 0 < bytes
theorem wpList_append_el {P : Program} {t e : TypeId} {z : Value} {size bytes : Nat} (T : SliceT P t e z size bytes) {ops : Array Oper} {rest : List Oper} {o : Oper} {a : Act} {Q : Exit → Act → World → Prop} (hgd : o.guard = none) (s x : Operand)
  (ho : o.op = .call { callee := .builtin .append, args := #[s, x], argTypes := #[t, t] }) {W : World} {base n : Nat} {v : Value} {xs : List Value} (new : Array Value)
  (hs : a.eval s = v) (hown : W.ownsRow base e size v n xs) (hx : a.eval x = .slice (some ⟨W.heap.size, 0, none⟩) 1 1) (hnew : new.size = size) (h1 : ∀ u ∈ new.toList, u.oneCell' = true)
  (hn : (n + 1) * bytes ≤ 140737488355328) (hbase : base ≤ W.heap.size)
  (h : ∀ v' w', w'.ownsRow base e size v' (n + 1) (xs ++ new.toList) → W.grownBy w' v.ownBlock → wpList P ops Q rest (a.put o.dst v') w') : wpList P ops Q (o :: rest) a (W.alloc (.cells new e)) := by
 obtain ⟨i, hi, hz0, hz1, hz2⟩ := info_parts T.info
 have hb := T.bpos
 have hn' : n + 1 ≤ (n + 1) * bytes := Nat.le_mul_of_pos_right _ hb
 have hcell : ∀ j u, new.toList[j]? = some u → (W.alloc (.cells new e)).cell? ((⟨W.heap.size, 0, none⟩ : Addr).add j) = some u := by
  intro j u hu
  rw [Addr.add_none, Nat.zero_add, World.cell?_alloc_at _ _ _ _ rfl]
  simpa using hu
 refine wpList_append_own _ hgd s x t ho base e i z size bytes T.und hi hz0 hz1 hz2 T.cells T.pos v n xs hs (hown.alloc _) ⟨W.heap.size, 0, none⟩ 1 1 new.toList hx (by simpa using hnew) hcell h1 (by unfold maxLen; omega) hn (by simp; omega) ?_
 intro v' w' h2 h3 _
 refine h v' w' h2 ?_
 exact ⟨h3.os, h3.tape, h3.output, Nat.le_trans (by simp) h3.size, fun k hk hne => (h3.block k (by simp; omega) hne).trans (Below.heap_alloc W _ k hk)⟩
theorem Row.of_owns {w : World} {base : Nat} {e : TypeId} {size : Nat} {v : Value} {n : Nat} {xs : List Value} (h : w.ownsRow base e size v n xs) : ∃ a cap, v = .slice a n cap ∧ Row w a xs ∧ n ≤ cap ∧ cap ≤ maxLen := by
 have hlen := h.1
 rcases h.2 with ⟨rfl, rfl⟩ | ⟨g, cap, cur, rfl, hb, hg, hnc, hcm, hcs, htake⟩
 ·exact ⟨none, 0, rfl, .inl (List.eq_nil_of_length_eq_zero (by simpa using hlen)), Nat.le_refl _, Nat.zero_le _⟩
 ·refine ⟨_, cap, rfl, .inr ⟨g, 0, rfl, (Array.getElem?_eq_some_iff.1 hg).1, fun i hi => ?_⟩, hnc, hcm⟩
  have hc := h.cells (g := g) rfl i xs[i] (List.getElem?_eq_getElem hi)
  rw [Addr.add_none] at hc
  rw [hc, List.getElem?_eq_getElem hi]
theorem Below.of_grown {B : Nat} {a w w' : World} {v : Value} {base : Nat} {e : TypeId} {size n : Nat} {xs : List Value} (h : Below B a w) (hown : w.ownsRow base e size v n xs) (hg : w.grownBy w' v.ownBlock) (hB : B ≤ w.heap.size) (hb : B ≤ base) : Below B a w' :=
 h.grown hg hB (fun k hk => Nat.le_trans hb (hown.lt k hk).1)
theorem grown_of_below {w w' : World} (h : Below w.heap.size w w') (row : Option Nat) : w.grownBy w' row :=
 ⟨h.os, h.tape, h.output, h.size, fun k hk _ => h.block k hk⟩
theorem owns_below {w w' : World} {base : Nat} {e : TypeId} {size : Nat} {v : Value} {n : Nat} {xs : List Value} (h : w.ownsRow base e size v n xs) (hb : Below w.heap.size w w') : w'.ownsRow base e size v n xs :=
 h.kept (grown_of_below hb none) (by cases v.ownBlock <;> simp)
def Frag := Nat → Option Obj
def frag (w : World) : Frag := fun k => w.heap[k]?
def fragE (w : World) (E : List (Option Nat)) : Frag := fun k => if some k ∈ E then none else w.heap[k]?
def FLe (h h' : Frag) : Prop := ∀ k o, h k = some o → h' k = some o
theorem FLe.refl (h : Frag) : FLe h h := fun _ _ e => e
theorem FLe.trans {a b c : Frag} (h : FLe a b) (h' : FLe b c) : FLe a c := fun k o e => h' k o (h k o e)
theorem fragE_le (w : World) (E : List (Option Nat)) : FLe (fragE w E) (frag w) := fun k o e => by
 unfold fragE at e
 split at e
 ·cases e
 ·exact e
theorem fragE_nil (w : World) : fragE w [] = frag w := by
 funext k; unfold fragE; rw [if_neg (by simp)]; rfl
theorem heap_lt {w : World} {k : Nat} {o : Obj} (h : w.heap[k]? = some o) : k < w.heap.size := (Array.getElem?_eq_some_iff.1 h).1
theorem below_le {w w' : World} (hb : Below w.heap.size w w') : FLe (frag w) (frag w') := fun k o e => (hb.block k (heap_lt e)).trans e
theorem alloc_le (w : World) (o : Obj) : FLe (frag w) (frag (w.alloc o)) := fun k _ e => (Below.heap_alloc w o k (heap_lt e)).trans e
theorem below_leE {w w' : World} {E : List (Option Nat)} (hb : Below w.heap.size w w') (hE : ∀ k, some k ∈ E → w.heap.size ≤ k) : FLe (frag w) (fragE w' E) := fun k o e => by
 unfold fragE
 have hk := heap_lt e
 rw [if_neg (fun e2 => by have := hE k e2; omega)]
 exact (hb.block k hk).trans e
theorem grownE {w w' : World} {X : Option Nat} {E E' : List (Option Nat)} (hg : w.grownBy w' X) (hX : X = none ∨ X ∈ E) (hE : ∀ k, some k ∈ E' → some k ∈ E ∨ w.heap.size ≤ k) : FLe (fragE w E) (fragE w' E') := fun k o e => by
 unfold fragE at e ⊢
 split at e
 ·cases e
 ·rename_i h
  have hk := heap_lt e
  rw [if_neg (fun e2 => by rcases hE k e2 with h2 | h2; exact h h2; omega)]
  refine (hg.block k hk ?_).trans e
  rintro rfl
  rcases hX with h2 | h2
  ·cases h2
  ·exact h h2
theorem belowE {w w' : World} {E E' : List (Option Nat)} (hb : Below w.heap.size w w') (hE : ∀ k, some k ∈ E' → some k ∈ E ∨ w.heap.size ≤ k) : FLe (fragE w E) (fragE w' E') :=
 grownE (grown_of_below hb none) (.inl rfl) hE
theorem subE (w : World) {E E' : List (Option Nat)} (hE : ∀ k, some k ∈ E' → some k ∈ E) : FLe (fragE w E) (fragE w E') :=
 grownE (World.grownBy.refl w none) (.inl rfl) (fun k h => .inl (hE k h))
theorem grown_setCell (w : World) (a : Addr) (u : Value) : w.grownBy (w.setCell a u) (some a.block) :=
 ⟨rfl, rfl, rfl, by simp [World.setCell], fun k hk hne => Below.heap_setCell w a u k (fun e => hne (by rw [e]))⟩
def HRow (h : Frag) (a : Option Addr) (xs : List Value) : Prop :=
 xs = [] ∨ ∃ b off cur t fr, a = some ⟨b, off, none⟩ ∧ h b = some (.cells cur t fr) ∧ ∀ i, i < xs.length → cur[off + i]? = xs[i]?
theorem HRow.nil (h : Frag) (a : Option Addr) : HRow h a [] := .inl rfl
theorem HRow.mono {h h' : Frag} {a : Option Addr} {xs : List Value} (hr : HRow h a xs) (hl : FLe h h') : HRow h' a xs := by
 rcases hr with rfl | ⟨b, off, cur, t, fr, rfl, hb, hc⟩
 ·exact .inl rfl
 ·exact .inr ⟨b, off, cur, t, fr, rfl, hl _ _ hb, hc⟩
theorem HRow.row {w : World} {a : Option Addr} {xs : List Value} (hr : HRow (frag w) a xs) : Row w a xs := by
 rcases hr with rfl | ⟨b, off, cur, t, fr, rfl, hb, hc⟩
 ·exact .inl rfl
 ·refine .inr ⟨b, off, rfl, heap_lt hb, fun i hi => ?_⟩
  rw [cell_of_row w b (off + i) cur t fr hb, hc i hi]
theorem HRow.take {h : Frag} {a : Option Addr} {xs : List Value} (hr : HRow h a xs) (n : Nat) : HRow h a (xs.take n) := by
 rcases hr with rfl | ⟨b, off, cur, t, fr, rfl, hb, hc⟩
 ·exact .inl (by simp)
 ·refine .inr ⟨b, off, cur, t, fr, rfl, hb, fun i hi => ?_⟩
  rw [List.length_take] at hi
  rw [hc i (by omega), List.getElem?_take, if_pos (by omega)]
theorem HRow.of_owns {w : World} {base : Nat} {e : TypeId} {size : Nat} {v : Value} {n : Nat} {xs : List Value} {E : List (Option Nat)} (ho : w.ownsRow base e size v n xs) (hX : v.ownBlock = none ∨ ¬ v.ownBlock ∈ E) :
  ∃ a cap, v = .slice a n cap ∧ HRow (fragE w E) a xs ∧ n ≤ cap ∧ cap ≤ maxLen ∧ (a = none → cap = 0) := by
 have hlen := ho.1
 rcases ho.2 with ⟨rfl, rfl⟩ | ⟨g, cap, cur, rfl, hb, hg, hnc, hcm, hcs, htake⟩
 ·exact ⟨none, 0, rfl, .inl (List.eq_nil_of_length_eq_zero (by simpa using hlen)), Nat.le_refl _, Nat.zero_le _, fun _ => rfl⟩
 ·refine ⟨_, cap, rfl, .inr ⟨g, 0, cur, e, (0, 0), rfl, ?_, fun i hi => ?_⟩, hnc, hcm, fun e => by cases e⟩
  ·unfold fragE
   have : ¬ some g ∈ E := by simpa [Value.ownBlock] using hX
   rw [if_neg this]; exact hg
  ·rw [Nat.zero_add, ← htake, List.getElem?_take, if_pos (by omega)]; simp
theorem HRow.of_cells {w : World} {a : Addr} {xs : List Value} (hs : ∀ i, i < xs.length → w.cell? (a.add i) = xs[i]?) : HRow (frag w) (some a) xs := by
 cases hx : xs with
 | nil => exact .inl rfl
 | cons x r =>
  rw [← hx]
  have h0 := hs 0 (by rw [hx]; simp)
  have hsome : ∃ v, w.cell? (a.add 0) = some v := ⟨x, by rw [h0, hx]; rfl⟩
  obtain ⟨v, hv⟩ := hsome
  have hsp := World.cell?_spot hv
  obtain ⟨b, off, spot⟩ := a
  have hsp2 : spot = none := by simpa [Addr.add] using hsp
  subst hsp2
  rw [Addr.add_none, Nat.add_zero] at hv
  have hblk : ∃ cur t fr, w.heap[b]? = some (.cells cur t fr) := by
   unfold World.cell? at hv
   split at hv
   ·rename_i c t fr he; exact ⟨c, t, fr, he⟩
   ·cases hv
  obtain ⟨cur, t, fr, hb⟩ := hblk
  refine .inr ⟨b, off, cur, t, fr, rfl, hb, fun i hi => ?_⟩
  rw [← hs i hi, Addr.add_none, cell_of_row w b (off + i) cur t fr hb]
def ListV {α : Type} (R : Frag → Value → α → Prop) (h : Frag) (v : Value) (xs : List α) : Prop :=
 ∃ a cap vs, v = .slice a xs.length cap ∧ xs.length ≤ cap ∧ cap ≤ maxLen ∧ (a = none → cap = 0) ∧ HRow h a vs ∧ vs.length = xs.length ∧ ∀ i (hv : i < vs.length) (hx : i < xs.length), R h vs[i] xs[i]
theorem ListV.mono {α : Type} {R : Frag → Value → α → Prop} (hR : ∀ h h' v x, FLe h h' → R h v x → R h' v x) {h h' : Frag} {v : Value} {xs : List α} (hl : ListV R h v xs) (hle : FLe h h') : ListV R h' v xs := by
 obtain ⟨a, cap, vs, rfl, h1, h2, h0, h3, h4, h5⟩ := hl
 exact ⟨a, cap, vs, rfl, h1, h2, h0, h3.mono hle, h4, fun i hv hx => hR _ _ _ _ hle (h5 i hv hx)⟩
def StrR (_ : Frag) (v : Value) (s : ByteArray) : Prop := v = .string s ∧ s.size ≤ maxLen
def IntR (_ : Frag) (v : Value) (n : Int) : Prop := v = .int .i64 n
theorem StrR.mono (h h' : Frag) (v : Value) (s : ByteArray) (_ : FLe h h') (hr : StrR h v s) : StrR h' v s := hr
theorem IntR.mono (h h' : Frag) (v : Value) (s : Int) (_ : FLe h h') (hr : IntR h v s) : IntR h' v s := hr
theorem ListV.at {α : Type} {R : Frag → Value → α → Prop} {P : Program} {t : TypeId} {w : World} {a : Option Addr} {n cap : Nat} {xs : List α} (hl : ListV R (frag w) (.slice a n cap) xs) {i : Nat} (hi : i < xs.length)
  (ht : P.underlying t = some (.slice (P.elem t))) (hs : ∀ w, (sizeOf (P.elem t)).run P w = .ok 1 w) :
  ∃ b o u, b < w.heap.size ∧ (∀ w', (Instr.indexAt t (.slice a n cap) (.int .i64 i)).run P w' = .ok (.pointer (some ⟨b, o, none⟩)) w') ∧ w.cell? ⟨b, o, none⟩ = some u ∧ R (frag w) u xs[i] := by
 obtain ⟨a', cap', vs, e, h1, h2, h0, h3, h4, h5⟩ := hl
 cases e
 obtain ⟨b, o, hb, hx, hc⟩ := idx (P := P) (t := t) (cap := cap) h3.row (i := i) (n := xs.length) hi h4 ht hs
 exact ⟨b, o, _, hb, hx, hc, h5 i (by omega) hi⟩
theorem ListV.len {α : Type} {R : Frag → Value → α → Prop} {h : Frag} {v : Value} {xs : List α} (hl : ListV R h v xs) : ∃ a cap, v = .slice a xs.length cap ∧ xs.length ≤ cap ∧ cap ≤ maxLen ∧ (a = none → cap = 0) := by
 obtain ⟨a, cap, vs, rfl, h1, h2, h0, _⟩ := hl
 exact ⟨a, cap, rfl, h1, h2, h0⟩
theorem ListV.of_owns {α : Type} {R : Frag → Value → α → Prop} {w : World} {base : Nat} {e : TypeId} {v : Value} {vs : List Value} {xs : List α} {E : List (Option Nat)} (ho : w.ownsRow base e 1 v xs.length vs) (hX : v.ownBlock = none ∨ ¬ v.ownBlock ∈ E)
  (hR : ∀ i (hv : i < vs.length) (hx : i < xs.length), R (fragE w E) vs[i] xs[i]) : ListV R (fragE w E) v xs := by
 obtain ⟨a, cap, rfl, hrow, h1, h2, h0⟩ := HRow.of_owns ho hX
 have hl := ho.1
 exact ⟨a, cap, vs, rfl, h1, h2, h0, hrow, by omega, hR⟩
theorem owns_apart {w : World} {base base' : Nat} {e e' : TypeId} {size size' : Nat} {v v' : Value} {n n' : Nat} {xs xs' : List Value} (h : w.ownsRow base e size v n xs) (h' : w.ownsRow base' e' size' v' n' xs') (hne : e ≠ e') :
  v.ownBlock = none ∨ v.ownBlock ≠ v'.ownBlock := by
 rcases h.2 with ⟨rfl, _⟩ | ⟨g, cap, cur, rfl, _, hg, _⟩
 ·exact .inl rfl
 ·right
  rcases h'.2 with ⟨rfl, _⟩ | ⟨g', cap', cur', rfl, _, hg', _⟩
  ·simp [Value.ownBlock]
  ·simp only [Value.ownBlock]
   intro e2
   cases e2
   rw [hg] at hg'
   cases hg'
   exact hne rfl
def partAt (a : Option Addr) (cap lo s : Nat) : Option Addr := if cap = lo then a else a.map (fun p => p.add (lo * s))
theorem run_to {P : Program} {t s : Nat} {a : Option Addr} {n cap i : Nat} (ht : P.underlying t = some (.slice (P.elem t))) (hs : ∀ w, (Go.sizeOf (P.elem t)).run P w = .ok s w) (hi : i ≤ cap) (ha : a = none → cap = 0) (w : World) :
  (Instr.slice t (.slice a n cap) none (some (.int .i64 (i : Int))) none).run P w = .ok (.slice a i cap) w := by
 have hs' := hs w
 unfold Program.elem at hs'
 cases a with
 | none =>
  have := ha rfl
  subst this
  obtain rfl : i = 0 := by omega
  simp [Instr.slice, run_underlying ht, Instr.sliceBounds, run_sliceBound, sliced, hs', go_sem]
 | some p =>
  simp [Instr.slice, run_underlying ht, Instr.sliceBounds, run_sliceBound, sliced, hs', go_sem]
  intro h; omega
theorem run_from {P : Program} {t s : Nat} {a : Option Addr} {n cap i : Nat} (ht : P.underlying t = some (.slice (P.elem t))) (hs : ∀ w, (Go.sizeOf (P.elem t)).run P w = .ok s w) (hi : i ≤ n) (hn : n ≤ cap) (ha : a = none → cap = 0) (w : World) :
  (Instr.slice t (.slice a n cap) (some (.int .i64 (i : Int))) none none).run P w = .ok (.slice (partAt a cap i s) (n - i) (cap - i)) w := by
 have hs' := hs w
 unfold Program.elem at hs'
 cases a with
 | none =>
  have := ha rfl
  subst this
  obtain rfl : n = 0 := by omega
  obtain rfl : i = 0 := by omega
  simp [Instr.slice, run_underlying ht, Instr.sliceBounds, run_sliceBound, sliced, hs', go_sem, partAt]
 | some p =>
  simp [Instr.slice, run_underlying ht, Instr.sliceBounds, run_sliceBound, sliced, hs', go_sem, partAt]
  intro h; omega
theorem HRow.part {h : Frag} {a : Option Addr} {xs : List Value} {cap i s : Nat} (hr : HRow h a xs) (hc : xs.length ≤ cap * s) : HRow h (partAt a cap i s) (xs.drop (i * s)) := by
 by_cases e : cap = i
 ·left
  subst e
  exact List.drop_of_length_le hc
 ·rcases hr with rfl | ⟨b, off, cur, t, fr, rfl, hb, hcur⟩
  ·left; simp
  ·right
   refine ⟨b, off + i * s, cur, t, fr, ?_, hb, fun j hj => ?_⟩
   ·unfold partAt; rw [if_neg e]; simp [Addr.add_none]
   ·rw [List.length_drop] at hj
    rw [Nat.add_assoc, hcur _ (by omega), List.getElem?_drop]
theorem partAt_none {a : Option Addr} {cap i s : Nat} (h : partAt a cap i s = none) : a = none := by
 unfold partAt at h
 split at h
 ·exact h
 ·cases a <;> simp_all
theorem wpList_append_at {P : Program} {t e : TypeId} {z : Value} {size bytes : Nat} (T : SliceT P t e z size bytes) {ops : Array Oper} {rest : List Oper} {o : Oper} {a : Act} {Q : Exit → Act → World → Prop} (hgd : o.guard = none) (s x : Operand)
  (ho : o.op = .call { callee := .builtin .append, args := #[s, x], argTypes := #[t, t] }) {W : World} {base n : Nat} {v : Value} {xs : List Value} (new : Array Value)
  (hs : a.eval s = v) (hown : W.ownsRow base e size v n xs) (hx : a.eval x = .slice (some ⟨W.heap.size, 0, none⟩) 1 1) (hnew : new.size = size) (h1 : ∀ u ∈ new.toList, u.oneCell' = true)
  (hn : (n + 1) * bytes ≤ 140737488355328) (hbase : base ≤ W.heap.size)
  (h : ∀ v' w', w'.ownsRow base e size v' (n + 1) (xs ++ new.toList) → W.grownBy w' v.ownBlock → (v'.ownBlock = v.ownBlock ∨ v'.ownBlock = some (W.heap.size + 1)) → wpList P ops Q rest (a.put o.dst v') w') : wpList P ops Q (o :: rest) a (W.alloc (.cells new e)) := by
 obtain ⟨i, hi, hz0, hz1, hz2⟩ := info_parts T.info
 have hb := T.bpos
 have hn' : n + 1 ≤ (n + 1) * bytes := Nat.le_mul_of_pos_right _ hb
 have hcell : ∀ j u, new.toList[j]? = some u → (W.alloc (.cells new e)).cell? ((⟨W.heap.size, 0, none⟩ : Addr).add j) = some u := by
  intro j u hu
  rw [Addr.add_none, Nat.zero_add, World.cell?_alloc_at _ _ _ _ rfl]
  simpa using hu
 refine wpList_append_own_at _ hgd s x t ho base e i z size bytes T.und hi hz0 hz1 hz2 T.cells T.pos v n xs hs (hown.alloc _) ⟨W.heap.size, 0, none⟩ 1 1 new.toList hx (by simpa using hnew) hcell h1 (by unfold maxLen; omega) hn (by simp; omega) ?_
 intro v' w' h2 h3 _ h4
 refine h v' w' h2 ?_ (by simpa using h4)
 exact ⟨h3.os, h3.tape, h3.output, Nat.le_trans (by simp) h3.size, fun k hk hne => (h3.block k (by simp; omega) hne).trans (Below.heap_alloc W _ k hk)⟩
theorem wpList_append_row {P : Program} {t e : TypeId} {z : Value} {size bytes : Nat} (T : SliceT P t e z size bytes) {ops : Array Oper} {rest : List Oper} {o : Oper} {a : Act} {Q : Exit → Act → World → Prop} (hgd : o.guard = none) (s x : Operand)
  (ho : o.op = .call { callee := .builtin .append, args := #[s, x], argTypes := #[t, t] }) {W : World} {base n m c : Nat} {ad : Addr} {v : Value} {xs news : List Value}
  (hs : a.eval s = v) (hown : W.ownsRow base e size v n xs) (hx : a.eval x = .slice (some ad) m c) (hrow : HRow (frag W) (some ad) news) (hl : news.length = m * size) (h1 : ∀ u ∈ news, u.oneCell' = true)
  (hn : (n + m) * bytes ≤ 140737488355328) (hbase : base ≤ W.heap.size)
  (h : ∀ v' w', w'.ownsRow base e size v' (n + m) (xs ++ news) → W.grownBy w' v.ownBlock → (v'.ownBlock = v.ownBlock ∨ v'.ownBlock = some W.heap.size) → (v' = .slice none 0 0 ↔ v = .slice none 0 0 ∧ m = 0) → wpList P ops Q rest (a.put o.dst v') w') : wpList P ops Q (o :: rest) a W := by
 obtain ⟨i, hi, hz0, hz1, hz2⟩ := info_parts T.info
 have hb := T.bpos
 have hn' : n + m ≤ (n + m) * bytes := Nat.le_mul_of_pos_right _ hb
 have hcell : ∀ j u, news[j]? = some u → W.cell? (ad.add j) = some u := by
  intro j u hu
  rcases hrow with rfl | ⟨b, off, cur, t', fr, e2, hb2, hc⟩
  ·simp at hu
  ·cases e2
   have hj := (List.getElem?_eq_some_iff.1 hu).1
   rw [Addr.add_none, cell_of_row W b _ cur t' fr hb2, hc j hj, hu]
 refine wpList_append_own_at _ hgd s x t ho base e i z size bytes T.und hi hz0 hz1 hz2 T.cells T.pos v n xs hs hown ad m c news hx hl hcell h1 (by unfold maxLen; omega) hn hbase ?_
 intro v' w' h2 h3 h5 h4
 exact h v' w' h2 h3 h4 h5
theorem flat_len {α : Type} {f : α → List Value} {s : Nat} (hf : ∀ x, (f x).length = s) : ∀ xs : List α, (xs.flatMap f).length = xs.length * s
 | [] => by simp
 | x :: r => by rw [List.flatMap_cons, List.length_append, flat_len hf r, hf, List.length_cons, Nat.succ_mul, Nat.add_comm]
theorem flat_at {α : Type} {f : α → List Value} {s : Nat} (hf : ∀ x, (f x).length = s) : ∀ (xs : List α) (i j : Nat) (h : i < xs.length), j < s → (xs.flatMap f)[i * s + j]? = (f xs[i])[j]?
 | x :: r, 0, j, h, hj => by
  rw [List.flatMap_cons, List.getElem?_append_left (by rw [hf]; omega)]; simp
 | x :: r, i + 1, j, h, hj => by
  rw [List.flatMap_cons, List.getElem?_append_right (by rw [hf, Nat.succ_mul]; omega), hf]
  have : (i + 1) * s + j - s = i * s + j := by rw [Nat.succ_mul]; omega
  rw [this, flat_at hf r i j (by simpa using h) hj]; simp
def FlatV {α : Type} (f : α → List Value) (h : Frag) (v : Value) (xs : List α) : Prop :=
 ∃ a cap, v = .slice a xs.length cap ∧ xs.length ≤ cap ∧ cap ≤ maxLen ∧ (a = none → cap = 0) ∧ HRow h a (xs.flatMap f)
theorem FlatV.mono {α : Type} {f : α → List Value} {h h' : Frag} {v : Value} {xs : List α} (hl : FlatV f h v xs) (hle : FLe h h') : FlatV f h' v xs := by
 obtain ⟨a, cap, rfl, h1, h2, h0, h3⟩ := hl
 exact ⟨a, cap, rfl, h1, h2, h0, h3.mono hle⟩
theorem FlatV.len {α : Type} {f : α → List Value} {h : Frag} {v : Value} {xs : List α} (hl : FlatV f h v xs) : ∃ a cap, v = .slice a xs.length cap ∧ xs.length ≤ cap ∧ cap ≤ maxLen ∧ (a = none → cap = 0) := by
 obtain ⟨a, cap, rfl, h1, h2, h0, _⟩ := hl
 exact ⟨a, cap, rfl, h1, h2, h0⟩
theorem FlatV.at {α : Type} {f : α → List Value} {s : Nat} {P : Program} {t : TypeId} {w : World} {a : Option Addr} {n cap : Nat} {xs : List α} (hl : FlatV f (frag w) (.slice a n cap) xs) (hf : ∀ x, (f x).length = s) (hs0 : 0 < s) {i : Nat} (hi : i < xs.length)
  (ht : P.underlying t = some (.slice (P.elem t))) (hs : ∀ w, (sizeOf (P.elem t)).run P w = .ok s w) :
  ∃ b o, b < w.heap.size ∧ (∀ w', (Instr.indexAt t (.slice a n cap) (.int .i64 i)).run P w' = .ok (.pointer (some ⟨b, o, none⟩)) w') ∧ ∀ j u, (f xs[i])[j]? = some u → w.cell? ⟨b, o + j, none⟩ = some u := by
 obtain ⟨a', cap', e, h1, h2, h0, h3⟩ := hl
 cases e
 have hl := flat_len hf xs
 rcases h3 with hnil | ⟨b, off, cur, t', fr, rfl, hb, hc⟩
 ·exfalso
  rw [hnil] at hl
  have : xs.length * s = 0 := by simpa using hl.symm
  rcases Nat.mul_eq_zero.1 this with h | h <;> omega
 ·refine ⟨b, off + i * s, heap_lt hb, fun w' => ?_, fun j u hu => ?_⟩
  ·rw [run_indexAt_slice (h := ht), if_pos (by omega), hs]
   simp [Result.andThen, Addr.add_none]
  ·have hj : j < s := by
    have := (List.getElem?_eq_some_iff.1 hu).1
    rw [hf] at this; exact this
   have hlt : i * s + j < xs.length * s := by
    have : (i + 1) * s ≤ xs.length * s := Nat.mul_le_mul_right _ (by omega)
    rw [Nat.succ_mul] at this; omega
   rw [Nat.add_assoc, cell_of_row w b _ cur t' fr hb, hc _ (by rw [hl]; exact hlt), flat_at hf xs i j hi hj, hu]
theorem FlatV.of_owns {α : Type} {f : α → List Value} {s : Nat} {w : World} {base : Nat} {e : TypeId} {v : Value} {n : Nat} {xs : List α} {E : List (Option Nat)} (ho : w.ownsRow base e s v n (xs.flatMap f)) (hn : xs.length = n) (hX : v.ownBlock = none ∨ ¬ v.ownBlock ∈ E) : FlatV f (fragE w E) v xs := by
 obtain ⟨a, cap, rfl, hrow, h1, h2, h0⟩ := HRow.of_owns ho hX
 subst hn
 exact ⟨a, cap, rfl, h1, h2, h0, hrow⟩
theorem own_idx {P : Program} {t : TypeId} {s g n cap i : Nat} (hi : i < n) (ht : P.underlying t = some (.slice (P.elem t))) (hs : ∀ w, (sizeOf (P.elem t)).run P w = .ok s w) (w : World) :
  (Instr.indexAt t (.slice (some ⟨g, 0, none⟩) n cap) (.int .i64 i)).run P w = .ok (.pointer (some ⟨g, i * s, none⟩)) w := by
 rw [run_indexAt_slice (h := ht), if_pos (by omega), hs]
 simp [Result.andThen, Addr.add_none]
def FlatC (s : Nat) (h : Frag) (v : Value) (es : List (List Value)) : Prop :=
 ∃ a cap, v = .slice a es.length cap ∧ es.length ≤ cap ∧ cap ≤ maxLen ∧ (a = none → cap = 0) ∧ HRow h a es.flatten ∧ ∀ e ∈ es, e.length = s
theorem FlatC.mono {s : Nat} {h h' : Frag} {v : Value} {es : List (List Value)} (hl : FlatC s h v es) (hle : FLe h h') : FlatC s h' v es := by
 obtain ⟨a, cap, rfl, h1, h2, h0, h3, h4⟩ := hl
 exact ⟨a, cap, rfl, h1, h2, h0, h3.mono hle, h4⟩
theorem FlatC.len {s : Nat} {h : Frag} {v : Value} {es : List (List Value)} (hl : FlatC s h v es) : ∃ a cap, v = .slice a es.length cap ∧ es.length ≤ cap ∧ cap ≤ maxLen ∧ (a = none → cap = 0) := by
 obtain ⟨a, cap, rfl, h1, h2, h0, _⟩ := hl
 exact ⟨a, cap, rfl, h1, h2, h0⟩
theorem flatten_len {s : Nat} : ∀ {es : List (List Value)}, (∀ e ∈ es, e.length = s) → es.flatten.length = es.length * s
 | [], _ => by simp
 | e :: r, h => by
  rw [List.flatten_cons, List.length_append, flatten_len (es := r) (fun x hx => h x (by simp [hx])), h e (by simp), List.length_cons, Nat.succ_mul, Nat.add_comm]
theorem flatten_at {s : Nat} : ∀ {es : List (List Value)} (i j : Nat) (_ : ∀ e ∈ es, e.length = s) (h : i < es.length), j < s → es.flatten[i * s + j]? = es[i][j]?
 | e :: r, 0, j, hs, h, hj => by
  rw [List.flatten_cons, List.getElem?_append_left (by rw [hs e (by simp)]; omega)]; simp
 | e :: r, i + 1, j, hs, h, hj => by
  have he := hs e (by simp)
  rw [List.flatten_cons, List.getElem?_append_right (by rw [he, Nat.succ_mul]; omega), he]
  have : (i + 1) * s + j - s = i * s + j := by rw [Nat.succ_mul]; omega
  rw [this, flatten_at i j (fun x hx => hs x (by simp [hx])) (by simpa using h) hj]; simp
theorem FlatC.at {s : Nat} {P : Program} {t : TypeId} {w : World} {a : Option Addr} {n cap : Nat} {es : List (List Value)} (hl : FlatC s (frag w) (.slice a n cap) es) (hs0 : 0 < s) {i : Nat} (hi : i < es.length)
  (ht : P.underlying t = some (.slice (P.elem t))) (hs : ∀ w, (Go.sizeOf (P.elem t)).run P w = .ok s w) :
  ∃ b o, b < w.heap.size ∧ (∀ w', (Instr.indexAt t (.slice a n cap) (.int .i64 i)).run P w' = .ok (.pointer (some ⟨b, o, none⟩)) w') ∧ ∀ j u, es[i][j]? = some u → w.cell? ⟨b, o + j, none⟩ = some u := by
 obtain ⟨a', cap', e, h1, h2, h0, h3, h4⟩ := hl
 cases e
 have hl := flatten_len h4
 rcases h3 with hnil | ⟨b, off, cur, t', fr, rfl, hb, hc⟩
 ·exfalso
  rw [hnil] at hl
  have : es.length * s = 0 := by simpa using hl.symm
  rcases Nat.mul_eq_zero.1 this with h | h <;> omega
 ·refine ⟨b, off + i * s, heap_lt hb, fun w' => ?_, fun j u hu => ?_⟩
  ·rw [run_indexAt_slice (h := ht), if_pos (by omega), hs]
   simp [Result.andThen, Addr.add_none]
  ·have hj : j < s := by
    have := (List.getElem?_eq_some_iff.1 hu).1
    rw [h4 _ (List.getElem_mem _)] at this; exact this
   have hlt : i * s + j < es.length * s := by
    have : (i + 1) * s ≤ es.length * s := Nat.mul_le_mul_right _ (by omega)
    rw [Nat.succ_mul] at this; omega
   rw [Nat.add_assoc, cell_of_row w b _ cur t' fr hb, hc _ (by rw [hl]; exact hlt), flatten_at i j h4 hi hj, hu]
theorem FlatC.of_owns {s : Nat} {w : World} {base : Nat} {e : TypeId} {v : Value} {n : Nat} {es : List (List Value)} {E : List (Option Nat)} (ho : w.ownsRow base e s v n es.flatten) (hn : es.length = n) (hes : ∀ x ∈ es, x.length = s) (hX : v.ownBlock = none ∨ ¬ v.ownBlock ∈ E) : FlatC s (fragE w E) v es := by
 obtain ⟨a, cap, rfl, hrow, h1, h2, h0⟩ := HRow.of_owns ho hX
 subst hn
 exact ⟨a, cap, rfl, h1, h2, h0, hrow, hes⟩
theorem FlatC.nil (s : Nat) (h : Frag) : FlatC s h (.slice none 0 0) [] := ⟨none, 0, rfl, Nat.le_refl _, Nat.zero_le _, fun _ => rfl, .inl rfl, fun e he => by simp at he⟩
theorem FlatC.sizes {s : Nat} {h : Frag} {v : Value} {es : List (List Value)} (hl : FlatC s h v es) : ∀ e ∈ es, e.length = s := by
 obtain ⟨a, cap, rfl, h1, h2, h0, h3, h4⟩ := hl
 exact h4
end Go.Proofs.YtebekgdjknenlaaGreatDoor
