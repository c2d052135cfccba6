/- A map from texts to their first places, that a call makes. -/
import Derived.Test.YtiofhfcohhfihaaGreatDoorSxKit
import Derived.Test.YtiofhfcohhfihaaGreatDoorNumPlain
import Derived.Maps.OwnSet
namespace Go.Proofs.YtiofhfcohhfihaaGreatDoor
open Go.RowKit Go.Maps Go.WideShapes Go.WideMaps
open Num (ix add rowOf rowsOf knownOf)
set_option linter.unusedVariables false

theorem mlaw : Keyed Tryz.prog 9 := string_keyed Tryz.underlying9
theorem mzero (w : World) : (zeroValue 3).run Tryz.prog w = .ok (.int .i64 0) w := by kernel_rfl

/-- block b is a map of at most n entries that holds the place of each text of kn -/
def MapIs (w : World) (b n : Nat) (kn : List ByteArray) : Prop :=
  ∃ D : DataW Unit, w.ownsMap Tryz.prog 9 (plainElem Tryz.prog 3) b n D ∧ Maps.size D = kn.length ∧ (∀ s : ByteArray, Maps.has D (.string s.data.toList) = decide (ix kn s < kn.length)) ∧
    ∀ s : ByteArray, ix kn s < kn.length → D.atKey (.string s.data.toList) (.lit (.int .i64 0)) = .lit (.int .i64 (ix kn s : Nat))

theorem keyLit (s : ByteArray) : WideAt.IsKeyLit (.string s.data.toList) := by simp [WideAt.IsKeyLit]
theorem lit_ne {s t : ByteArray} (h : s ≠ t) : (Lit.string s.data.toList) ≠ .string t.data.toList := by
  intro e
  apply h
  exact bytes_inj (by simpa using e)

theorem MapIs.made (w : World) : MapIs (w.alloc (.map #[] 0)) w.heap.size 0 [] :=
  ⟨.map [], World.ownsMap_made _ _ _ _, rfl, fun s => by simp [Maps.has, ix], fun s h => by simp [ix] at h⟩

theorem MapIs.kept {w w' : World} {b n : Nat} {kn : List ByteArray} {row : Option Nat} (h : MapIs w b n kn) (hg : w.grownBy w' row) (hne : some b ≠ row) : MapIs w' b n kn := by
  obtain ⟨D, h1, h2, h3, h4⟩ := h
  exact ⟨D, h1.kept hg hne, h2, h3, h4⟩

theorem MapIs.mono {w : World} {b n n' : Nat} {kn : List ByteArray} (h : MapIs w b n kn) (hn : n ≤ n') : MapIs w b n' kn := by
  obtain ⟨D, h1, h2, h3, h4⟩ := h
  exact ⟨D, h1.mono hn, h2, h3, h4⟩

theorem MapIs.lt {w : World} {b n : Nat} {kn : List ByteArray} (h : MapIs w b n kn) : b < w.heap.size ∧ ∀ cur t fr, w.heap[b]? ≠ some (.cells cur t fr) := by
  obtain ⟨D, h1, _⟩ := h
  refine ⟨h1.lt, fun cur t fr e => ?_⟩
  obtain ⟨es, clock, hb, _⟩ := h1
  rw [hb] at e
  cases e

theorem MapIs.look {w : World} {b n : Nat} {kn : List ByteArray} (h : MapIs w b n kn) (s : ByteArray) (hs : s.size ≤ maxLen) :
    ∃ c : Int, (Instr.lookup 116 (.map (some b)) (.string s) true).run Tryz.prog w = .ok (.tuple #[.int .i64 c, .bool (decide (ix kn s < kn.length))]) w ∧ (ix kn s < kn.length → c = (ix kn s : Nat)) := by
  obtain ⟨D, h1, h2, h3, h4⟩ := h
  obtain ⟨v, ps, hrun, hv⟩ := h1.look_ok mlaw Tryz.underlying116 (mzero w) (plainElem_int Tryz.underlying3 (by decide)) (keyOf_string_mk Tryz.underlying9 hs)
  obtain ⟨c, rfl, hc, _⟩ := plainElem_int_inv Tryz.underlying3 hv
  simp only [Prod.mk.injEq] at hc
  rw [h3] at hrun
  refine ⟨c, hrun, fun hi => ?_⟩
  have := (h4 s hi).symm.trans hc.1
  simpa using this.symm

theorem MapIs.len {w : World} {b n : Nat} {kn : List ByteArray} (h : MapIs w b n kn) (ty : TypeId) : (Builtin.len_ #[116] ty #[.map (some b)]).run Tryz.prog w = .ok (.int .i64 (kn.length : Nat)) w := by
  obtain ⟨D, h1, h2, h3, h4⟩ := h
  rw [← h2]
  exact h1.len Tryz.underlying116 ty

theorem MapIs.put {w : World} {b n : Nat} {kn : List ByteArray} (h : MapIs w b n kn) (s : ByteArray) (hs : s.size ≤ maxLen) (hn : n < 1000000) (hnew : ix kn s = kn.length) (hk : kn.length < 1000000) :
    ∃ w', (Instr.mapUpdate 116 (.map (some b)) (.string s) (.int .i64 (kn.length : Nat))).run Tryz.prog w = .ok () w' ∧ MapIs w' b (n + 1) (kn ++ [s]) ∧ w.grownBy w' (some b) := by
  obtain ⟨D, h1, h2, h3, h4⟩ := h
  obtain ⟨w', hrun, h5, h6⟩ := h1.update mlaw Tryz.underlying116 (by unfold maxLen; omega) (keyOf_string_mk Tryz.underlying9 hs) (plainElem_int Tryz.underlying3 (a := (kn.length : Nat)) (WalkArith.wf_i64 (by omega)))
  have hm := h1.isMap
  have hhas : Maps.has D (.string s.data.toList) = false := by rw [h3]; simp [hnew]
  refine ⟨w', hrun, ⟨_, h5, ?_, fun t => ?_, fun t ht => ?_⟩, h6⟩
  · rw [size_put (h1.tidy mlaw), hhas, h2]; simp
  · by_cases e : t = s
    · subst e
      rw [has_put_same hm (keyLit _), Num.ix_append_new hnew]; simp
    · rw [has_put_other (lit_ne e), h3]
      by_cases hi : ix kn t < kn.length
      · rw [Num.ix_append_of_mem hi]; simp [hi]; omega
      · have h0 : ix kn t = kn.length := by have := Num.ix_le kn t; omega
        rw [Num.ix_append_other h0 (fun e2 => e e2.symm)]; simp [hi]
  · by_cases e : t = s
    · subst e
      rw [atKey_put_same hm (keyLit _), Num.ix_append_new hnew]
    · rw [atKey_put_other (lit_ne e)]
      by_cases hi : ix kn t < kn.length
      · rw [Num.ix_append_of_mem hi]; exact h4 t hi
      · exfalso
        have h0 : ix kn t = kn.length := by have := Num.ix_le kn t; omega
        rw [Num.ix_append_other h0 (fun e2 => e e2.symm)] at ht
        omega

end Go.Proofs.YtiofhfcohhfihaaGreatDoor
