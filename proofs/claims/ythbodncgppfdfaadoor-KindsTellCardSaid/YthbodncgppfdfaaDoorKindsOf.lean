/- slices.Index over strings, and kinds.Of. -/
import Derived.Test.YthbodncgppfdfaaDoorKindsNames
namespace Go.Proofs.YthbodncgppfdfaaDoor
open Go.RowKit
set_option linter.unusedVariables false

theorem str_ne {a b : ByteArray} (h : a ≠ b) : (a.toList == b.toList) = false := by
  rw [Lib.toList_data, Lib.toList_data]
  rw [beq_eq_false_iff_ne]
  intro e
  apply h
  cases a; cases b
  simp only [ByteArray.mk.injEq] at *
  exact Array.toList_inj.1 e
theorem str_eq {a b : ByteArray} (h : a = b) : (a.toList == b.toList) = true := by rw [h]; simp

theorem size33 (w : World) : (sizeOf (Tryd.prog.elem 33)).run Tryd.prog w = .ok 1 w := by kernel_rfl

/-- what slices.Index answers -/
def IsIndex (ss : List ByteArray) (v : ByteArray) (r : Int) : Prop :=
  (r = -1 ∧ ∀ i (h : i < ss.length), ss[i] ≠ v) ∨ ∃ i, ∃ h : i < ss.length, r = i ∧ ss[i] = v ∧ ∀ j (hj : j < i), ss[j] ≠ v

set_option maxRecDepth 100000 in
set_option maxHeartbeats 1000000 in
theorem index_any (a : Option Addr) (n cap : Nat) (ss : List ByteArray) (v : ByteArray) (w : World) (hr : Row w a (ss.map .string)) (hn : ss.length = n) (hm : n ≤ maxLen) :
    Calls Tryd.prog 23 #[.slice a n cap, .string v] w fun e w' => ∃ r, e = .returned (.int .i64 r) ∧ IsIndex ss v r ∧ w = w' := by
  unfold maxLen at hm
  have Hr := Lib.hid hr; clear hr
  have Hn := Lib.hid hn; clear hn
  go_enter Tryd.func23, Tryd.ntmps23
  go_wp2
  go_loop [8] (fun i => ∃ k : Nat, k ≤ n ∧ i = .int .i64 k ∧ Hid (∀ j (hj : j < ss.length), j < k → ss[j] ≠ v)) (fun i => n - (intOf i).toNat)
  case atStart => exact ⟨0, Nat.zero_le _, rfl, fun j hj h => by omega⟩
  case round =>
    obtain ⟨k, hk, rfl, Hall⟩ := hrel
    by_cases hlt : k < n
    · have hks : k < ss.length := by rw [Hn.out]; exact hlt
      obtain ⟨b0, o0, hb0, hidx, hcell⟩ := idx (t := 33) (cap := cap) Hr.out hlt (by simp [Hn.out]) Tryd.underlying33 size33
      rw [List.getElem_map] at hcell
      by_cases he : ss[k] = v
      · have hb : (v.toList == ss[k].toList) = true := str_eq he.symm
        have He := Lib.hid he; clear he
        go_wp2
        go_ret
        exact ⟨_, rfl, .inr ⟨k, hks, rfl, He.out, fun j hj => Hall.out j (by omega) hj⟩, rfl⟩
      · have hb : (v.toList == ss[k].toList) = false := str_ne (fun e => he e.symm)
        have He := Lib.hid he; clear he
        go_wp2
        go_round
        case rel =>
          refine ⟨k + 1, by omega, by go_num, fun j hj h => ?_⟩
          by_cases e : j = k
          · subst e; exact He.out
          · exact Hall.out j hj (by omega)
        case measure => simp [intOf]; omega
    · have hkn : k = n := by omega
      clear hk
      go_wp2
      go_ret
      exact ⟨_, rfl, .inl ⟨rfl, fun i h => Hall.out i h (by rw [hkn, ← Hn.out]; exact h)⟩, rfl⟩

/-- the kind that a name has, of the first k kinds; 0: none -/
def wk (name : ByteArray) : Nat → Nat
  | 0 => 0
  | k + 1 => if nameOf (k + 1) = name then k + 1 else wk name k

def nms16 : List ByteArray := (List.range 16).map nameOf

theorem nameOf_inj : ∀ i, i < 18 → ∀ j, j < 18 → nameOf i = nameOf j → i = j := by decide +kernel

theorem wk_none {name : ByteArray} : ∀ k, (∀ j, 1 ≤ j → j ≤ k → nameOf j ≠ name) → wk name k = 0
  | 0, _ => rfl
  | k + 1, h => by
    unfold wk
    rw [if_neg (h (k + 1) (by omega) (Nat.le_refl _))]
    exact wk_none k (fun j h1 h2 => h j h1 (by omega))
theorem wk_some {name : ByteArray} {i : Nat} (hi : 1 ≤ i) (h : nameOf i = name) : ∀ k, i ≤ k → k < 18 → wk name k = i
  | 0, hk, _ => by omega
  | k + 1, hk, hk2 => by
    unfold wk
    by_cases e : i = k + 1
    · rw [if_pos (by rw [← e]; exact h), e]
    · rw [if_neg (fun e2 => e (nameOf_inj i (by omega) (k + 1) hk2 (by rw [h, e2])))]
      exact wk_some hi h k (by omega) (by omega)

theorem index_wk {name : ByteArray} {r : Int} (h : IsIndex nms16 name r) : (r < 1 ∧ wk name 15 = 0) ∨ (1 ≤ r ∧ r ≤ 15 ∧ (wk name 15 : Int) = r) := by
  have hl : nms16.length = 16 := by simp [nms16]
  have hg : ∀ i (hi : i < nms16.length), nms16[i] = nameOf i := fun i hi => by simp [nms16]
  rcases h with ⟨rfl, hall⟩ | ⟨i, hi, rfl, he, _⟩
  · left
    refine ⟨by omega, wk_none 15 fun j h1 h2 => ?_⟩
    have := hall j (by omega)
    rw [hg] at this
    exact this
  · rw [hg] at he
    by_cases h0 : i = 0
    · subst h0
      left
      refine ⟨by omega, wk_none 15 fun j h1 h2 e => ?_⟩
      have := nameOf_inj 0 (by omega) j (by omega) (by rw [he, e])
      omega
    · right
      exact ⟨by omega, by omega, by rw [wk_some (by omega) he 15 (by omega) (by omega)]⟩

set_option maxRecDepth 100000 in
set_option maxHeartbeats 1000000 in
theorem of_any (name : ByteArray) (w : World) (hL : Laid w) :
    Calls Tryd.prog 7 #[.string name] w fun e w' => e = .returned (.tuple #[.int .i64 (wk name 15 : Nat), .bool (decide (0 < wk name 15))]) ∧ w = w' := by
  have hrow : Row w (some ⟨0, 0, none⟩) (nms16.map .string) := by
    refine .inr ⟨_, 0, rfl, hL.1, fun i hi => ?_⟩
    have hl : i < 16 := by simpa [nms16] using hi
    rw [Nat.zero_add, hL.2 i (by omega)]
    simp [nms16, hl]
  have HI := Lib.hid (fun cap => index_any (some ⟨0, 0, none⟩) 16 cap nms16 name w hrow (by simp [nms16]) (by decide))
  clear hrow hL
  go_enter Tryd.func7, Tryd.ntmps7
  go_wp2_with fail
  refine (HI.out _).mono ?_
  rintro e w' ⟨r, rfl, hix, rfl⟩
  rcases index_wk hix with ⟨h1, h2⟩ | ⟨h1, h3, h2⟩
  · have H2 := Lib.hid h2; clear h2 hix
    go_wp2_with fail
    go_ret2
    exact ⟨by rw [H2.out]; rfl, rfl⟩
  · have H2 := Lib.hid h2; clear h2 hix
    go_wp2_with fail
    go_ret2
    have h4 : decide (0 < wk name 15) = true := by have := H2.out; simp; omega
    exact ⟨by rw [H2.out, h4]; rfl, rfl⟩

end Go.Proofs.YthbodncgppfdfaaDoor
