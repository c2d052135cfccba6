/- code.Unlike and redlineref18.Unlike, walked. -/
import Derived.Test.YtgimlgipjjkmhaaNumRef
namespace Go.Proofs.Ytgimlgipjjkmhaa
open Go.RowKit Go.WideShapes
open Num (ix add rowOf rowsOf knownOf total NoTwo)
set_option linter.unusedVariables false

theorem Num.rowOf_get : ∀ (l kn : List ByteArray) (i : Nat) (h : i < (rowOf kn l).length) (h' : i < l.length), (rowOf kn l)[i] = (ix ((l.take i).foldl add kn) l[i] : Int)
  | [], _, i, h, h' => by simp at h'
  | x :: r, kn, 0, h, h' => by simp [rowOf]
  | x :: r, kn, i + 1, h, h' => by
    simp only [rowOf, List.getElem_cons_succ, List.take_succ_cons, List.foldl_cons]
    exact rowOf_get r (add kn x) i _ _

theorem sizeIntss (w : World) : (Go.sizeOf (Try.prog.elem 25)).run Try.prog w = .ok 1 w := by kernel_rfl

/-- a list that was just made -/
theorem ListV.made {α : Type} {R : Frag → Value → α → Prop} {w : World} {e : TypeId} (new : Array Value) (xs : List α) {n : Nat} (hn : new.size = n) (hx : xs.length = n) (hm : n ≤ maxLen)
    (hR : ∀ i (hv : i < new.toList.length) (hx : i < xs.length), R (frag (w.alloc (.cells new e))) new.toList[i] xs[i]) : ListV R (frag (w.alloc (.cells new e))) (.slice (some ⟨w.heap.size, 0, none⟩) n n) xs := by
  subst hx
  have h1 := World.ownsRow_lit (base := w.heap.size) (e := e) (size := 1) w new xs.length (Nat.le_refl _) hm (by simpa using hn)
  have := ListV.of_owns (R := R) (E := []) h1 (.inr (by simp)) (fun i hv hx => by rw [fragE_nil]; exact hR i hv hx)
  rw [fragE_nil] at this
  exact this

theorem ListV.take {α : Type} {R : Frag → Value → α → Prop} {h : Frag} {a : Option Addr} {n cap k : Nat} {xs : List α} (hl : ListV R h (.slice a n cap) xs) (hk : k ≤ n) : ListV R h (.slice a k cap) (xs.take k) := by
  obtain ⟨a', cap', vs, e, h1, h2, h0, h3, h4, h5⟩ := hl
  cases e
  have hlen : (xs.take k).length = k := by rw [List.length_take]; omega
  refine ⟨a, cap, vs.take k, by rw [hlen], by omega, h2, h0, h3.take k, by rw [List.length_take, List.length_take, h4], fun i hv hx => ?_⟩
  rw [List.getElem_take, List.getElem_take]
  exact h5 i (by rw [List.length_take] at hv; omega) (by rw [List.length_take] at hx; omega)

def UnlikePost (l : List ByteArray) (w : World) (e : Ending) (w' : World) : Prop := ∃ r, e = .returned (.bool r) ∧ (r = true ↔ NoTwo l) ∧ Below w.heap.size w w'

set_option maxRecDepth 100000 in
set_option maxHeartbeats 4000000 in
theorem unlike_any (v : Value) (l : List ByteArray) (w : World) (hl : ListV StrR (frag w) v l) (ht : l.length < 1000000) :
    Calls Try.prog 8 #[v] w (UnlikePost l w) := by
  obtain ⟨a, cap, rfl, hlc, hcm, hnil⟩ := hl.len
  have Hin : Hid (ListV (ListV StrR) (frag (w.alloc (.cells #[.slice a l.length cap] 22))) (.slice (some ⟨w.heap.size, 0, none⟩) 1 1) [l]) := by
    refine ListV.made #[_] [l] rfl rfl (by decide) (fun i hv hx => ?_)
    obtain rfl : i = 0 := by simpa using hx
    exact ListV.mono StrR.mono hl (alloc_le w _)
  have Hc := Lib.hid (number_any _ [l] (w.alloc (.cells #[.slice a l.length cap] 22)) Hin.out (by simpa [total] using ht) (by simp))
  clear hl
  generalize hn : l.length = n at *
  have Hn := Lib.hid hn; clear hn hnil
  go_enter Try.func8, Try.ntmps8
  go_wp2_with fail
  refine Hc.out.mono ?_
  rintro e w1 ⟨u, rfl, hu, hb1⟩
  obtain ⟨au, cu, rfl, huc, hum, _⟩ := hu.len
  obtain ⟨b0, o0, u0, hb0, hidx, hcell, hu0⟩ := ListV.at hu (i := 0) (by simp [rowsOf]) Try.underlying25 sizeIntss
  have hlen1 : (rowsOf [] [l]).length = 1 := rfl
  rw [hlen1] at huc hidx ⊢
  rw [show ((0 : Nat) : Int) = 0 from rfl] at hidx
  simp only [rowsOf, List.getElem_cons_zero] at hu0
  obtain ⟨ai, ci, rfl, hic, him, _⟩ := hu0.len
  rw [Num.rowOf_len, Hn.out] at hic hu0 hcell
  have Hu0 := Lib.hid hu0
  have Hb1 : Hid (Below w.heap.size w w1) := by
    show Below _ _ _
    exact ((Below.refl w.heap.size w).alloc (Nat.le_refl _) _).trans (hb1.mono (by simp))
  unfold maxLen at him
  clear hu hu0 hb1 huc hum
  go_wp2_with fail
  go_loop [3, 12] (fun most i => ∃ k : Nat, k ≤ n ∧ i = .int .i64 k ∧ most = .int .i64 ((k : Int) - 1) ∧ Hid (∀ j (h : j < l.length), j < k → ¬ l[j] ∈ l.take j)) (fun _ i => n - (intOf i).toNat)
  case atStart => exact ⟨0, Nat.zero_le _, rfl, rfl, fun j hx h => by omega⟩
  case round =>
    obtain ⟨k, hk, rfl, rfl, Hall⟩ := hrel
    by_cases hlt : k < n
    · have hks : k < l.length := by rw [Hn.out]; exact hlt
      have hks' : k < (rowOf [] l).length := by rw [Num.rowOf_len]; exact hks
      obtain ⟨b1, o1, u1, hb1, hidx1, hcell1, hu1⟩ := ListV.at (n := n) (cap := ci) (a := ai) Hu0.out (i := k) hks' Try.underlying31 sizeInt
      unfold IntR at hu1
      rw [Num.rowOf_get l [] k hks' hks, Num.ix_noTwo hks (fun i hi h => Hall.out i hi h)] at hu1
      subst hu1
      have hle := Num.ix_le (l.take k) l[k]
      have hmem := @Num.ix_mem (l.take k) l[k]
      have htl : (l.take k).length = k := by rw [List.length_take]; omega
      rw [htl] at hle hmem
      by_cases hin : ix (l.take k) l[k] < k
      · have Hbad := Lib.hid (hmem.1 hin)
        clear hmem htl hle
        generalize ix (l.take k) l[k] = z at *
        go_wp2_with fail
        go_ret
        exact ⟨_, rfl, by
          constructor
          · intro h; cases h
          · intro h; exact absurd Hbad.out (h k hks), Hb1.out⟩
      · have Hgood : Hid (¬ l[k] ∈ l.take k) := fun h => hin (hmem.2 h)
        have hz : ix (l.take k) l[k] = k := by omega
        clear hmem htl hle hin
        rw [hz] at hcell1
        clear hz
        go_wp2_with fail
        go_round
        case rel =>
          refine ⟨k + 1, by omega, by go_num, by go_num, fun j hx h => ?_⟩
          by_cases e : j = k
          · subst e; exact Hgood.out
          · exact Hall.out j hx (by omega)
        case measure => simp [intOf]; omega
    · have hkn : k = n := by omega
      clear hk
      go_wp2_with fail
      go_ret
      exact ⟨_, rfl, by
        constructor
        · intro _ i h; exact Hall.out i h (by rw [hkn, ← Hn.out]; exact h)
        · intro _; rfl, Hb1.out⟩

set_option maxRecDepth 100000 in
set_option maxHeartbeats 4000000 in
theorem refunlike_any (v : Value) (l : List ByteArray) (w : World) (hl : ListV StrR (frag w) v l) :
    Calls Try.prog 9 #[v] w (UnlikePost l w) := by
  obtain ⟨a, cap, rfl, hlc, hcm, hnil⟩ := hl.len
  unfold maxLen at hcm
  have HL := Lib.hid hl; clear hl
  generalize hn : l.length = n at *
  have Hn := Lib.hid hn; clear hn
  have Hto := Lib.hid (fun (i : Nat) (hi : i ≤ cap) => run_to (n := n) Try.underlying22 sizeStr hi hnil)
  have Hc := Lib.hid (fun (i : Nat) (hi : i ≤ n) (s : ByteArray) => has_any _ (l.take i) s w (HL.out.take hi))
  clear hnil
  go_enter Try.func9, Try.ntmps9
  go_wp2_with fail
  go_loop [7] (fun i => ∃ k : Nat, k ≤ n ∧ i = .int .i64 k ∧ Hid (∀ j (h : j < l.length), j < k → ¬ l[j] ∈ l.take j)) (fun i => n - (intOf i).toNat)
  case atStart => exact ⟨0, Nat.zero_le _, rfl, fun j hx h => by omega⟩
  case round =>
    obtain ⟨k, hk, rfl, Hall⟩ := hrel
    by_cases hlt : k < n
    · have hks : k < l.length := by rw [Hn.out]; exact hlt
      obtain ⟨b0, o0, u, hb0, hidx, hcell, hu, husz⟩ := HL.out.at (i := k) hks Try.underlying22 sizeStr
      subst hu
      have hto := Hto.out k (by omega)
      have hc := Lib.hid (Hc.out k (by omega) l[k])
      cases hm : mem (l.take k) l[k] with
      | true =>
        have Hbad := Lib.hid (mem_iff.1 hm)
        rw [hm] at hc
        clear hm
        generalize hs : l[k] = s at *
        have Hs := Lib.hid hs; clear hs
        go_wp2_with fail
        refine hc.out.mono ?_
        rintro e w1 ⟨rfl, rfl⟩
        go_wp2_with fail
        go_ret
        exact ⟨_, rfl, by
          constructor
          · intro h; cases h
          · intro h; exact absurd Hbad.out (by rw [← Hs.out]; exact h k hks), Below.refl _ _⟩
      | false =>
        have Hgood : Hid (¬ l[k] ∈ l.take k) := fun h => by rw [mem_iff.2 h] at hm; cases hm
        rw [hm] at hc
        clear hm
        generalize hs : l[k] = s at *
        have Hs := Lib.hid hs; clear hs
        go_wp2_with fail
        refine hc.out.mono ?_
        rintro e w1 ⟨rfl, rfl⟩
        go_wp2_with fail
        go_round
        case rel =>
          refine ⟨k + 1, by omega, by go_num, fun j hx h => ?_⟩
          by_cases e : j = k
          · subst e; rw [Hs.out]; exact Hgood.out
          · exact Hall.out j hx (by omega)
        case measure => simp [intOf]; omega
    · have hkn : k = n := by omega
      clear hk
      go_wp2_with fail
      go_ret
      exact ⟨_, rfl, by
        constructor
        · intro _ i h; exact Hall.out i h (by rw [hkn, ← Hn.out]; exact h)
        · intro _; rfl, Below.refl _ _⟩

end Go.Proofs.Ytgimlgipjjkmhaa
