/- redlinenum.SameInts, walked. -/
import Derived.Test.YtgimlgipjjkmhaaStrs
namespace Go.Proofs.Ytgimlgipjjkmhaa
open Go.RowKit
set_option linter.unusedVariables false

theorem ints_eq {xs ys : List Int} (hl : xs.length = ys.length) (h : ∀ i (hx : i < xs.length) (hy : i < ys.length), xs[i] = ys[i]) : xs = ys := List.ext_getElem hl h

set_option maxRecDepth 100000 in
set_option maxHeartbeats 1000000 in
theorem sameints_any (v u : Value) (xs ys : List Int) (w : World) (hl : ListV IntR (frag w) v xs) (hl' : ListV IntR (frag w) u ys) :
    Calls Try.prog 10 #[v, u] w fun e w' => e = .returned (.bool (decide (xs = ys))) ∧ Below w.heap.size w w' := by
  obtain ⟨a, cap, rfl, hlc, hcm, hnil⟩ := hl.len
  obtain ⟨a', cap', rfl, hlc', hcm', hnil'⟩ := hl'.len
  unfold maxLen at hcm hcm'
  have HL := Lib.hid hl; clear hl
  have HL' := Lib.hid hl'; clear hl'
  clear hnil hnil'
  by_cases hne : xs.length = ys.length
  · rw [← hne] at HL' hlc' ⊢
    have Hne := Lib.hid hne; clear hne
    generalize hn : xs.length = n at HL HL' hlc hlc' ⊢
    have Hn := Lib.hid hn; clear hn
    go_enter Try.func10, Try.ntmps10
    go_wp2
    go_loopw [13] (fun i wr => ∃ k : Nat, k ≤ n ∧ i = .int .i64 k ∧ Hid (∀ j (hx : j < xs.length) (hy : j < ys.length), j < k → xs[j] = ys[j]) ∧ ∃ q, wr = w.drewN q) (fun i _ => n - (intOf i).toNat)
    case atStart => exact ⟨0, Nat.zero_le _, rfl, fun j _ _ h => by omega, 0, rfl⟩
    case round =>
      obtain ⟨k, hk, rfl, Hall, q, rfl⟩ := hrel
      by_cases hlt : k < n
      · have hks : k < xs.length := by rw [Hn.out]; exact hlt
        have hks' : k < ys.length := by rw [← Hne.out, Hn.out]; exact hlt
        obtain ⟨b0, o0, u0, hb0, hidx, hcell, hu⟩ := ListV.at (n := n) (cap := cap) (a := a) HL.out (i := k) hks Try.underlying31 sizeInt
        obtain ⟨b1, o1, u1, hb1, hidx1, hcell1, hu1⟩ := ListV.at (n := n) (cap := cap') (a := a') HL'.out (i := k) hks' Try.underlying31 sizeInt
        unfold IntR at hu hu1
        subst hu hu1
        by_cases he : xs[k] = ys[k]
        · have hb : (xs[k] != ys[k]) = false := by simpa using he
          have He := Lib.hid he; clear he
          go_wp2
          go_quiet (fail)
          go_wp2
          go_roundw
          case rel =>
            refine ⟨k + 1, by omega, by go_num, fun j hx hy h => ?_, _, rfl⟩
            by_cases e : j = k
            · subst e; exact He.out
            · exact Hall.out j hx hy (by omega)
          case measure => simp [intOf]; omega
        · have hb : (xs[k] != ys[k]) = true := by simpa using he
          have He := Lib.hid he; clear he
          go_wp2
          go_quiet (fail)
          go_wp2
          go_ret
          have : ¬ xs = ys := fun e => He.out (by simp only [e])
          exact ⟨ret_bool (by simp [this]), by first | exact Below.drewN (Below.refl _ _) _ | exact Below.drewN (Below.drewN (Below.refl _ _) _) _⟩
      · have hkn : k = n := by omega
        clear hk
        go_wp2
        go_ret
        have : xs = ys := ints_eq Hne.out fun i hx hy => Hall.out i hx hy (by rw [hkn, ← Hn.out]; exact hx)
        exact ⟨ret_bool (by simp [this]), by first | exact Below.drewN (Below.refl _ _) _ | exact Below.drewN (Below.drewN (Below.refl _ _) _) _⟩
  · have hb : ((xs.length : Int) != (ys.length : Int)) = true := by simp; omega
    have Hne := Lib.hid hne; clear hne
    go_enter Try.func10, Try.ntmps10
    go_wp2
    go_ret
    have : ¬ xs = ys := fun e => Hne.out (by rw [e])
    exact ⟨ret_bool (by simp [this]), Below.refl _ _⟩

end Go.Proofs.Ytgimlgipjjkmhaa
