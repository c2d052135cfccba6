/- redlinenum.Long, Has, SameInts, SameTexts, walked; slices of strings and ints that came in. -/
import Derived.Test.YtlilamlolnkboaaSlice
import Derived.SliceStrings
namespace Go.Proofs.Ytlilamlolnkboaa
open Go.RowKit Go.ChangeShapes Go.WideShapes
set_option linter.unusedVariables false

theorem str_ne {a b : ByteArray} (h : a ≠ b) : (a.toList == b.toList) = false := by
  rw [Lib.toList_data, Lib.toList_data]
  rw [beq_eq_false_iff_ne]
  intro e
  apply h
  cases a; cases b
  simp only [ByteArray.mk.injEq] at *
  exact Array.toList_inj.1 e
theorem str_eq {a b : ByteArray} (h : a = b) : (a.toList == b.toList) = true := by rw [h]; simp

/-- is a text on a list? -/
def mem (ss : List ByteArray) (s : ByteArray) : Bool := ss.any fun x => decide (x = s)
theorem mem_iff {ss : List ByteArray} {s : ByteArray} : mem ss s = true ↔ s ∈ ss := by
  unfold mem
  rw [List.any_eq_true]
  constructor
  · rintro ⟨x, hx, e⟩; have : x = s := by simpa using e
    rw [← this]; exact hx
  · intro h; exact ⟨s, h, by simp⟩
theorem mem_no {ss : List ByteArray} {s : ByteArray} (h : ¬ s ∈ ss) : mem ss s = false := by
  cases e : mem ss s
  · rfl
  · exact absurd (mem_iff.1 e) h

theorem sizeStr (w : World) : (Go.sizeOf (Try.prog.elem 22)).run Try.prog w = .ok 1 w := by kernel_rfl

/-- a slice of strings that came in -/
theorem strs_in {H : Type} {enc : TypeId × Value → H} {P : Program} {w : World} {t e n c : Nat} {a : Option Addr} {d : DataW H} {ps : List MemPlace} {sp : Nat → Bool} {hd : Bool} (ht : P.underlying t = some (.slice e)) (he : P.underlying e = some .string) (ce : P.cellsOf e = 1)
    (h : DataW.Trod enc P w 0 sp hd t (.slice a n c) d ps) : ∃ ss : List ByteArray, ListV StrR (frag w) (.slice a n c) ss := by
  obtain ⟨fuel, hf⟩ := h
  rcases open_strings ht he ce hf with ⟨hcs, hx⟩ | ⟨x, l, cp, ss, hcs, _, hl, hm, hz, hx, hcell, hws⟩
  · simp [Value.cells] at hcs
    obtain ⟨rfl, rfl, rfl⟩ := hcs
    exact ⟨[], none, 0, [], rfl, Nat.le_refl _, Nat.zero_le _, fun _ => rfl, .inl rfl, rfl, fun i hv => by simp at hv⟩
  · simp [Value.cells] at hcs
    obtain ⟨rfl, rfl, rfl⟩ := hcs
    have hln : n ≤ ss.length := by rw [hz]; split <;> omega
    have htl : (ss.take n).length = n := by simp; omega
    refine ⟨ss.take n, some x, c, (ss.take n).map .string, by rw [htl], by rw [htl]; exact hl, hm, (fun e => by cases e), ?_, by simp, ?_⟩
    · refine HRow.of_cells fun i hi => ?_
      simp only [List.length_map] at hi
      rw [hcell i (by omega), List.getElem?_map, List.getElem?_take, if_pos (by omega), List.getD_eq_getElem?_getD, List.getElem?_eq_getElem (by omega)]
      rfl
    · intro i hv hx
      rw [List.getElem_map]
      exact ⟨rfl, hws _ (List.mem_of_mem_take (List.getElem_mem hx))⟩

/-- what Long answers: where it says no, the list is short and so is each text -/
def LongPost (ss : List ByteArray) (many most : Int) (w : World) (e : Ending) (w' : World) : Prop :=
  ∃ r, e = .returned (.bool r) ∧ (r = false → (ss.length : Int) ≤ many ∧ ∀ x ∈ ss, (x.size : Int) ≤ most) ∧ w = w'

set_option maxRecDepth 100000 in
set_option maxHeartbeats 1000000 in
theorem long_any (v : Value) (ss : List ByteArray) (many most : Int) (w : World) (hl : ListV StrR (frag w) v ss) :
    Calls Try.prog 5 #[v, .int .i64 many, .int .i64 most] w (LongPost ss many most w) := by
  obtain ⟨a, cap, rfl, hlc, hcm, hnil⟩ := hl.len
  unfold maxLen at hcm
  have HL := Lib.hid hl; clear hl
  generalize hn : ss.length = n at *
  have Hn := Lib.hid hn; clear hn hnil
  by_cases hbig : (n : Int) > many
  · go_enter Try.func5, Try.ntmps5
    go_wp2
    go_ret
    exact ⟨_, rfl, fun h => (by cases h), rfl⟩
  · go_enter Try.func5, Try.ntmps5
    go_wp2
    go_loop [15] (fun i => ∃ k : Nat, k ≤ n ∧ i = .int .i64 k ∧ Hid (∀ j (hj : j < ss.length), j < k → (ss[j].size : Int) ≤ most)) (fun i => n - (intOf i).toNat)
    case atStart => exact ⟨0, Nat.zero_le _, rfl, fun j hj h => by omega⟩
    case round =>
      obtain ⟨k, hk, rfl, Hall⟩ := hrel
      by_cases hlt : k < n
      · have hks : k < ss.length := by rw [Hn.out]; exact hlt
        obtain ⟨b0, o0, u, hb0, hidx, hcell, hu, husz⟩ := HL.out.at (i := k) hks Try.underlying22 sizeStr
        subst hu
        unfold maxLen at husz
        by_cases hm : (ss[k].size : Int) > most
        · go_wp2
          go_ret
          exact ⟨_, rfl, fun h => (by cases h), rfl⟩
        · go_wp2
          go_round
          case rel =>
            refine ⟨k + 1, by omega, by go_num, fun j hj h => ?_⟩
            by_cases e : j = k
            · subst e; omega
            · exact Hall.out j hj (by omega)
          case measure => simp [intOf]; omega
      · have hkn : k = n := by omega
        clear hk
        go_wp2
        go_ret
        exact ⟨_, rfl, fun _ => ⟨by rw [Hn.out]; omega, fun x hx => by
          obtain ⟨i, hi, e⟩ := List.getElem_of_mem hx
          rw [← e]; exact Hall.out i hi (by rw [hkn, ← Hn.out]; exact hi)⟩, rfl⟩

end Go.Proofs.Ytlilamlolnkboaa
