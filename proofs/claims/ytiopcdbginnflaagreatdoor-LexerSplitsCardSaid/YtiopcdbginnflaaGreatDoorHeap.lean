/- Parts of the heap that data lie in: what is read off them stays as the heap grows. -/
import Derived.Test.YtiopcdbginnflaaGreatDoorBase2
import Derived.Maps.AppendAt
namespace Go.Proofs.YtiopcdbginnflaaGreatDoor
open Go.RowKit
set_option linter.unusedVariables false

/-- a part of a heap: what the blocks hold that belong to it -/
def Frag := Nat → Option Obj
def frag (w : World) : Frag := fun k => w.heap[k]?
/-- all blocks but some -/
def fragE (w : World) (E : List (Option Nat)) : Frag := fun k => if some k ∈ E then none else w.heap[k]?
def FLe (h h' : Frag) : Prop := ∀ k o, h k = some o → h' k = some o

theorem FLe.refl (h : Frag) : FLe h h := fun _ _ e => e
theorem FLe.trans {a b c : Frag} (h : FLe a b) (h' : FLe b c) : FLe a c := fun k o e => h' k o (h k o e)
theorem fragE_le (w : World) (E : List (Option Nat)) : FLe (fragE w E) (frag w) := fun k o e => by
  unfold fragE at e
  split at e
  · cases e
  · exact e
theorem fragE_nil (w : World) : fragE w [] = frag w := by
  funext k; unfold fragE; rw [if_neg (by simp)]; rfl
theorem heap_lt {w : World} {k : Nat} {o : Obj} (h : w.heap[k]? = some o) : k < w.heap.size := (Array.getElem?_eq_some_iff.1 h).1
theorem below_le {w w' : World} (hb : Below w.heap.size w w') : FLe (frag w) (frag w') := fun k o e => (hb.block k (heap_lt e)).trans e
theorem alloc_le (w : World) (o : Obj) : FLe (frag w) (frag (w.alloc o)) := fun k _ e => (Below.heap_alloc w o k (heap_lt e)).trans e
/-- what lay there before a call began lies in the heap but for blocks of the call's own -/
theorem below_leE {w w' : World} {E : List (Option Nat)} (hb : Below w.heap.size w w') (hE : ∀ k, some k ∈ E → w.heap.size ≤ k) : FLe (frag w) (fragE w' E) := fun k o e => by
  unfold fragE
  have hk := heap_lt e
  rw [if_neg (fun e2 => by have := hE k e2; omega)]
  exact (hb.block k hk).trans e
/-- behind a write to one of the blocks that are left out -/
theorem grownE {w w' : World} {X : Option Nat} {E E' : List (Option Nat)} (hg : w.grownBy w' X) (hX : X = none ∨ X ∈ E) (hE : ∀ k, some k ∈ E' → some k ∈ E ∨ w.heap.size ≤ k) : FLe (fragE w E) (fragE w' E') := fun k o e => by
  unfold fragE at e ⊢
  split at e
  · cases e
  · rename_i h
    have hk := heap_lt e
    rw [if_neg (fun e2 => by rcases hE k e2 with h2 | h2; exact h h2; omega)]
    refine (hg.block k hk ?_).trans e
    rintro rfl
    rcases hX with h2 | h2
    · cases h2
    · exact h h2
theorem belowE {w w' : World} {E E' : List (Option Nat)} (hb : Below w.heap.size w w') (hE : ∀ k, some k ∈ E' → some k ∈ E ∨ w.heap.size ≤ k) : FLe (fragE w E) (fragE w' E') :=
  grownE (grown_of_below hb none) (.inl rfl) hE
theorem allocE (w : World) (E : List (Option Nat)) (o : Obj) : FLe (fragE w E) (fragE (w.alloc o) E) :=
  grownE (World.grownBy_alloc w o none) (.inl rfl) (fun _ h => .inl h)
theorem subE (w : World) {E E' : List (Option Nat)} (hE : ∀ k, some k ∈ E' → some k ∈ E) : FLe (fragE w E) (fragE w E') :=
  grownE (World.grownBy.refl w none) (.inl rfl) (fun k h => .inl (hE k h))
theorem grown_setCell (w : World) (a : Addr) (u : Value) : w.grownBy (w.setCell a u) (some a.block) :=
  ⟨rfl, rfl, rfl, by simp [World.setCell], fun k hk hne => Below.heap_setCell w a u k (fun e => hne (by rw [e]))⟩

/-- the cells that a slice's address leads to -/
def HRow (h : Frag) (a : Option Addr) (xs : List Value) : Prop :=
  xs = [] ∨ ∃ b off cur t fr, a = some ⟨b, off, none⟩ ∧ h b = some (.cells cur t fr) ∧ ∀ i, i < xs.length → cur[off + i]? = xs[i]?

theorem HRow.nil (h : Frag) (a : Option Addr) : HRow h a [] := .inl rfl
theorem HRow.mono {h h' : Frag} {a : Option Addr} {xs : List Value} (hr : HRow h a xs) (hl : FLe h h') : HRow h' a xs := by
  rcases hr with rfl | ⟨b, off, cur, t, fr, rfl, hb, hc⟩
  · exact .inl rfl
  · exact .inr ⟨b, off, cur, t, fr, rfl, hl _ _ hb, hc⟩
theorem HRow.row {w : World} {a : Option Addr} {xs : List Value} (hr : HRow (frag w) a xs) : Row w a xs := by
  rcases hr with rfl | ⟨b, off, cur, t, fr, rfl, hb, hc⟩
  · exact .inl rfl
  · refine .inr ⟨b, off, rfl, heap_lt hb, fun i hi => ?_⟩
    rw [cell_of_row w b (off + i) cur t fr hb, hc i hi]
theorem HRow.take {h : Frag} {a : Option Addr} {xs : List Value} (hr : HRow h a xs) (n : Nat) : HRow h a (xs.take n) := by
  rcases hr with rfl | ⟨b, off, cur, t, fr, rfl, hb, hc⟩
  · exact .inl (by simp)
  · refine .inr ⟨b, off, cur, t, fr, rfl, hb, fun i hi => ?_⟩
    rw [List.length_take] at hi
    rw [hc i (by omega), List.getElem?_take, if_pos (by omega)]

/-- a row of the call's own, in all blocks but another's -/
theorem HRow.of_owns {w : World} {base : Nat} {e : TypeId} {size : Nat} {v : Value} {n : Nat} {xs : List Value} {E : List (Option Nat)} (ho : w.ownsRow base e size v n xs) (hX : v.ownBlock = none ∨ ¬ v.ownBlock ∈ E) :
    ∃ a cap, v = .slice a n cap ∧ HRow (fragE w E) a xs ∧ n ≤ cap ∧ cap ≤ maxLen ∧ (a = none → cap = 0) := by
  have hlen := ho.1
  rcases ho.2 with ⟨rfl, rfl⟩ | ⟨g, cap, cur, rfl, hb, hg, hnc, hcm, hcs, htake⟩
  · exact ⟨none, 0, rfl, .inl (List.eq_nil_of_length_eq_zero (by simpa using hlen)), Nat.le_refl _, Nat.zero_le _, fun _ => rfl⟩
  · refine ⟨_, cap, rfl, .inr ⟨g, 0, cur, e, (0, 0), rfl, ?_, fun i hi => ?_⟩, hnc, hcm, fun e => by cases e⟩
    · unfold fragE
      have : ¬ some g ∈ E := by simpa [Value.ownBlock] using hX
      rw [if_neg this]; exact hg
    · rw [Nat.zero_add, ← htake, List.getElem?_take, if_pos (by omega)]; simp

/-- off cells that are read one by one -/
theorem HRow.of_cells {w : World} {a : Addr} {xs : List Value} (hs : ∀ i, i < xs.length → w.cell? (a.add i) = xs[i]?) : HRow (frag w) (some a) xs := by
  cases hx : xs with
  | nil => exact .inl rfl
  | cons x r =>
    rw [← hx]
    have h0 := hs 0 (by rw [hx]; simp)
    have hsome : ∃ v, w.cell? (a.add 0) = some v := ⟨x, by rw [h0, hx]; rfl⟩
    obtain ⟨v, hv⟩ := hsome
    have hsp := World.cell?_spot hv
    obtain ⟨b, off, spot⟩ := a
    have hsp2 : spot = none := by simpa [Addr.add] using hsp
    subst hsp2
    rw [Addr.add_none, Nat.add_zero] at hv
    have hblk : ∃ cur t fr, w.heap[b]? = some (.cells cur t fr) := by
      unfold World.cell? at hv
      split at hv
      · rename_i c t fr he; exact ⟨c, t, fr, he⟩
      · cases hv
    obtain ⟨cur, t, fr, hb⟩ := hblk
    refine .inr ⟨b, off, cur, t, fr, rfl, hb, fun i hi => ?_⟩
    rw [← hs i hi, Addr.add_none, cell_of_row w b (off + i) cur t fr hb]

/-- a slice value of one-cell elements, each of which is read by R -/
def ListV {α : Type} (R : Frag → Value → α → Prop) (h : Frag) (v : Value) (xs : List α) : Prop :=
  ∃ a cap vs, v = .slice a xs.length cap ∧ xs.length ≤ cap ∧ cap ≤ maxLen ∧ (a = none → cap = 0) ∧ HRow h a vs ∧ vs.length = xs.length ∧ ∀ i (hv : i < vs.length) (hx : i < xs.length), R h vs[i] xs[i]

theorem ListV.mono {α : Type} {R : Frag → Value → α → Prop} (hR : ∀ h h' v x, FLe h h' → R h v x → R h' v x) {h h' : Frag} {v : Value} {xs : List α} (hl : ListV R h v xs) (hle : FLe h h') : ListV R h' v xs := by
  obtain ⟨a, cap, vs, rfl, h1, h2, h0, h3, h4, h5⟩ := hl
  exact ⟨a, cap, vs, rfl, h1, h2, h0, h3.mono hle, h4, fun i hv hx => hR _ _ _ _ hle (h5 i hv hx)⟩

def StrR (_ : Frag) (v : Value) (s : ByteArray) : Prop := v = .string s ∧ s.size ≤ maxLen
def IntR (_ : Frag) (v : Value) (n : Int) : Prop := v = .int .i64 n
theorem StrR.mono (h h' : Frag) (v : Value) (s : ByteArray) (_ : FLe h h') (hr : StrR h v s) : StrR h' v s := hr
theorem IntR.mono (h h' : Frag) (v : Value) (s : Int) (_ : FLe h h') (hr : IntR h v s) : IntR h' v s := hr

/-- element i of a slice of one-cell elements -/
theorem ListV.at {α : Type} {R : Frag → Value → α → Prop} {P : Program} {t : TypeId} {w : World} {a : Option Addr} {n cap : Nat} {xs : List α} (hl : ListV R (frag w) (.slice a n cap) xs) {i : Nat} (hi : i < xs.length)
    (ht : P.underlying t = some (.slice (P.elem t))) (hs : ∀ w, (sizeOf (P.elem t)).run P w = .ok 1 w) :
    ∃ b o u, b < w.heap.size ∧ (∀ w', (Instr.indexAt t (.slice a n cap) (.int .i64 i)).run P w' = .ok (.pointer (some ⟨b, o, none⟩)) w') ∧ w.cell? ⟨b, o, none⟩ = some u ∧ R (frag w) u xs[i] := by
  obtain ⟨a', cap', vs, e, h1, h2, h0, h3, h4, h5⟩ := hl
  cases e
  obtain ⟨b, o, hb, hx, hc⟩ := idx (P := P) (t := t) (cap := cap) h3.row (i := i) (n := xs.length) hi h4 ht hs
  exact ⟨b, o, _, hb, hx, hc, h5 i (by omega) hi⟩

theorem ListV.len {α : Type} {R : Frag → Value → α → Prop} {h : Frag} {v : Value} {xs : List α} (hl : ListV R h v xs) : ∃ a cap, v = .slice a xs.length cap ∧ xs.length ≤ cap ∧ cap ≤ maxLen ∧ (a = none → cap = 0) := by
  obtain ⟨a, cap, vs, rfl, h1, h2, h0, _⟩ := hl
  exact ⟨a, cap, rfl, h1, h2, h0⟩

/-- a row of the call's own, as a list -/
theorem ListV.of_owns {α : Type} {R : Frag → Value → α → Prop} {w : World} {base : Nat} {e : TypeId} {v : Value} {vs : List Value} {xs : List α} {E : List (Option Nat)} (ho : w.ownsRow base e 1 v xs.length vs) (hX : v.ownBlock = none ∨ ¬ v.ownBlock ∈ E)
    (hR : ∀ i (hv : i < vs.length) (hx : i < xs.length), R (fragE w E) vs[i] xs[i]) : ListV R (fragE w E) v xs := by
  obtain ⟨a, cap, rfl, hrow, h1, h2, h0⟩ := HRow.of_owns ho hX
  have hl := ho.1
  exact ⟨a, cap, vs, rfl, h1, h2, h0, hrow, by omega, hR⟩

/-- rows of unlike element types lie in unlike blocks -/
theorem owns_apart {w : World} {base base' : Nat} {e e' : TypeId} {size size' : Nat} {v v' : Value} {n n' : Nat} {xs xs' : List Value} (h : w.ownsRow base e size v n xs) (h' : w.ownsRow base' e' size' v' n' xs') (hne : e ≠ e') :
    v.ownBlock = none ∨ v.ownBlock ≠ v'.ownBlock := by
  rcases h.2 with ⟨rfl, _⟩ | ⟨g, cap, cur, rfl, _, hg, _⟩
  · exact .inl rfl
  · right
    rcases h'.2 with ⟨rfl, _⟩ | ⟨g', cap', cur', rfl, _, hg', _⟩
    · simp [Value.ownBlock]
    · simp only [Value.ownBlock]
      intro e2
      cases e2
      rw [hg] at hg'
      cases hg'
      exact hne rfl

end Go.Proofs.YtiopcdbginnflaaGreatDoor
