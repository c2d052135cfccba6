/- What all walks of this seat share: how slices lead to rows of cells; small laws. -/
import Derived.Test.YtiopcdbginnflaaGreatDoorRows
import Derived.WalkKit
import Derived.WalkSpells
import Derived.WalkLawsBesides
import Derived.RegionTactic
import Derived.ChangeAlike
import Derived.BigQuiet
import Derived.Deep.QuietTactic
import Derived.Lib.Hide
import Derived.Lib.IndexBytes
import Derived.Deep.RegionWith
import Derived.Deep.RegionHeld3
import Derived.Deep.LoopGhost
import Derived.Deep.Cut
namespace Go.Proofs.YtiopcdbginnflaaGreatDoor
open Go.RowKit

theorem ret_int {k : IntKind} {a b : Int} (h : a = b) : Ending.returned (.int k a) = .returned (.int k b) := by rw [h]
theorem ret_bool {a b : Bool} (h : a = b) : Ending.returned (.bool a) = .returned (.bool b) := by rw [h]

theorem bcell {W w1 : World} (hb : Below W.heap.size W w1) : (∀ b o, b < W.heap.size → w1.cell? ⟨b, o, none⟩ = W.cell? ⟨b, o, none⟩) ∧ (∀ b o, b < W.heap.size → w1.frozen? ⟨b, o, none⟩ = W.frozen? ⟨b, o, none⟩) :=
  ⟨fun b o h => hb.cell (p := ⟨b, o, none⟩) h, fun b o h => hb.frozen (p := ⟨b, o, none⟩) h⟩

theorem Below.drewN {B : Nat} {a w : World} (h : Below B a w) (n : Nat) : Below B a (w.drewN n) := ⟨h.os, h.tape, h.output, h.size, h.block⟩

/-- The cells that a slice value leads to: xs, from its address on. -/
def Row (w : World) (a : Option Addr) (xs : List Value) : Prop :=
  xs = [] ∨ ∃ b off, a = some ⟨b, off, none⟩ ∧ b < w.heap.size ∧ ∀ i, i < xs.length → w.cell? ⟨b, off + i, none⟩ = xs[i]?

theorem Row.at {w : World} {a : Option Addr} {xs : List Value} (h : Row w a xs) {i : Nat} (hi : i < xs.length) :
    ∃ b off, a = some ⟨b, off, none⟩ ∧ b < w.heap.size ∧ w.cell? ⟨b, off + i, none⟩ = some xs[i] := by
  rcases h with rfl | ⟨b, off, rfl, hb, h⟩
  · simp at hi
  · exact ⟨b, off, rfl, hb, by rw [h i hi, List.getElem?_eq_getElem hi]⟩

theorem Row.keep {w w' : World} {a : Option Addr} {xs : List Value} (h : Row w a xs) (hb : Below w.heap.size w w') : Row w' a xs := by
  rcases h with rfl | ⟨b, off, rfl, hlt, h⟩
  · exact .inl rfl
  · exact .inr ⟨b, off, rfl, Nat.lt_of_lt_of_le hlt hb.size, fun i hi => by rw [← h i hi]; exact hb.cell (p := ⟨b, off + i, none⟩) hlt⟩

theorem Addr.add_none (b off k : Nat) : (⟨b, off, none⟩ : Addr).add k = ⟨b, off + k, none⟩ := by unfold Addr.add; split <;> simp_all

/-- 'xs[i]' of a slice of one-cell elements: the address, and what lies there. -/
theorem idx {P : Program} {t : TypeId} {a : Option Addr} {n cap i : Nat} {w : World} {xs : List Value} (h : Row w a xs) (hi : i < n) (hn : xs.length = n) (ht : P.underlying t = some (.slice (P.elem t)))
    (hs : ∀ w, (sizeOf (P.elem t)).run P w = .ok 1 w) :
    ∃ b o, b < w.heap.size ∧ (∀ w', (Instr.indexAt t (.slice a n cap) (.int .i64 i)).run P w' = .ok (.pointer (some ⟨b, o, none⟩)) w') ∧ w.cell? ⟨b, o, none⟩ = some (xs[i]'(by omega)) := by
  obtain ⟨b, off, rfl, hb, hc⟩ := h.at (i := i) (by omega)
  refine ⟨b, off + i, hb, fun w' => ?_, hc⟩
  rw [run_indexAt_slice (h := ht), if_pos (by omega), hs]
  simp [Result.andThen, Addr.add_none]


theorem isEmpty_yes {s : ByteArray} (h : s.size = 0) : s.toList.isEmpty = true := by
  rw [Lib.toList_data]
  have : s.data.toList.length = 0 := by simpa using h
  rw [List.length_eq_zero_iff.1 this]; rfl
theorem isEmpty_no {s : ByteArray} (h : s.size ≠ 0) : s.toList.isEmpty = false := by
  rw [Lib.toList_data]
  cases e : s.data.toList with
  | nil => exact absurd (by simpa using congrArg List.length e) h
  | cons => rfl
theorem len_data (s : ByteArray) : s.data.toList.length = s.size := by simp
theorem byte_at (s : ByteArray) (i : Nat) (h : i < s.size) : s[i] = s.data.toList.getD i 0 := by
  have h' : i < s.data.size := h
  rw [List.getD_eq_getElem?_getD, Array.getElem?_toList, Array.getElem?_eq_getElem h']; rfl

/-- What the tables say of a slice type t with elements e. -/
structure SliceT (P : Program) (t e : TypeId) (z : Value) (size bytes : Nat) : Prop where
  und : P.underlying t = some (.slice e)
  info : (P.info? e).map (fun i => (i.zero, i.size, i.bytes)) = some (some z, size, bytes)
  cells : z.cells.size = size
  pos : 0 < size
  bpos : 0 < bytes

/-- 'append(v, x)' where v is a row of the call's own: x lies in the block that was laid last. -/
theorem wpList_append_el {P : Program} {t e : TypeId} {z : Value} {size bytes : Nat} (T : SliceT P t e z size bytes) {ops : Array Oper} {rest : List Oper} {o : Oper} {a : Act} {Q : Exit → Act → World → Prop} (hgd : o.guard = none) (s x : Operand)
    (ho : o.op = .call { callee := .builtin .append, args := #[s, x], argTypes := #[t, t] }) {W : World} {base n : Nat} {v : Value} {xs : List Value} (new : Array Value)
    (hs : a.eval s = v) (hown : W.ownsRow base e size v n xs) (hx : a.eval x = .slice (some ⟨W.heap.size, 0, none⟩) 1 1) (hnew : new.size = size) (h1 : ∀ u ∈ new.toList, u.oneCell' = true)
    (hn : (n + 1) * bytes ≤ 140737488355328) (hbase : base ≤ W.heap.size)
    (h : ∀ v' w', w'.ownsRow base e size v' (n + 1) (xs ++ new.toList) → W.grownBy w' v.ownBlock → wpList P ops Q rest (a.put o.dst v') w') : wpList P ops Q (o :: rest) a (W.alloc (.cells new e)) := by
  obtain ⟨i, hi, hz0, hz1, hz2⟩ := info_parts T.info
  have hb := T.bpos
  have hn' : n + 1 ≤ (n + 1) * bytes := Nat.le_mul_of_pos_right _ hb
  have hcell : ∀ j u, new.toList[j]? = some u → (W.alloc (.cells new e)).cell? ((⟨W.heap.size, 0, none⟩ : Addr).add j) = some u := by
    intro j u hu
    rw [Addr.add_none, Nat.zero_add, World.cell?_alloc_at _ _ _ _ rfl]
    simpa using hu
  refine wpList_append_own _ hgd s x t ho base e i z size bytes T.und hi hz0 hz1 hz2 T.cells T.pos v n xs hs (hown.alloc _) ⟨W.heap.size, 0, none⟩ 1 1 new.toList hx (by simpa using hnew) hcell h1 (by unfold maxLen; omega) hn (by simp; omega) ?_
  intro v' w' h2 h3 _
  refine h v' w' h2 ?_
  exact ⟨h3.os, h3.tape, h3.output, Nat.le_trans (by simp) h3.size, fun k hk hne => (h3.block k (by simp; omega) hne).trans (Below.heap_alloc W _ k hk)⟩

/-- A row of the call's own is a row. -/
theorem Row.of_owns {w : World} {base : Nat} {e : TypeId} {size : Nat} {v : Value} {n : Nat} {xs : List Value} (h : w.ownsRow base e size v n xs) : ∃ a cap, v = .slice a n cap ∧ Row w a xs ∧ n ≤ cap ∧ cap ≤ maxLen := by
  have hlen := h.1
  rcases h.2 with ⟨rfl, rfl⟩ | ⟨g, cap, cur, rfl, hb, hg, hnc, hcm, hcs, htake⟩
  · exact ⟨none, 0, rfl, .inl (List.eq_nil_of_length_eq_zero (by simpa using hlen)), Nat.le_refl _, Nat.zero_le _⟩
  · refine ⟨_, cap, rfl, .inr ⟨g, 0, rfl, (Array.getElem?_eq_some_iff.1 hg).1, fun i hi => ?_⟩, hnc, hcm⟩
    have hc := h.cells (g := g) rfl i xs[i] (List.getElem?_eq_getElem hi)
    rw [Addr.add_none] at hc
    rw [hc, List.getElem?_eq_getElem hi]

theorem Below.of_grown {B : Nat} {a w w' : World} {v : Value} {base : Nat} {e : TypeId} {size n : Nat} {xs : List Value} (h : Below B a w) (hown : w.ownsRow base e size v n xs) (hg : w.grownBy w' v.ownBlock) (hB : B ≤ w.heap.size) (hb : B ≤ base) : Below B a w' :=
  h.grown hg hB (fun k hk => Nat.le_trans hb (hown.lt k hk).1)

end Go.Proofs.YtiopcdbginnflaaGreatDoor
