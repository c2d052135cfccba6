/- The law CodeNumbers, walked: it returns true. -/
import Derived.Test.YtgimlgipjjkmhaaNumUnlike
namespace Go.Proofs.Ytgimlgipjjkmhaa
open Go.RowKit Go.WideShapes
open Num (ix add rowOf rowsOf knownOf total NoTwo)
set_option linter.unusedVariables false

theorem same_true (v u : Value) (xs : List Int) (w : World) (h1 : ListV IntR (frag w) v xs) (h2 : ListV IntR (frag w) u xs) :
    Calls Try.prog 10 #[v, u] w fun e w' => e = .returned (.bool true) ∧ Below w.heap.size w w' := by
  have := sameints_any v u xs xs w h1 h2
  simpa using this

theorem ListV.nil {α : Type} (R : Frag → Value → α → Prop) (h : Frag) : ListV R h (.slice none 0 0) [] := ⟨none, 0, [], rfl, Nat.le_refl _, Nat.zero_le _, fun _ => rfl, .inl rfl, rfl, fun i hv => by simp at hv⟩

def tA : ByteArray := ⟨#[97]⟩
def tB : ByteArray := ⟨#[98]⟩
def tC : ByteArray := ⟨#[99]⟩
theorem rows_alive : rowsOf [] [[tA, tB, tA], [tB, tC]] = [[0, 1, 0], [1, 2]] := by decide +kernel
theorem noTwo_alive : NoTwo [tA, tB] := by
  intro i h
  match i with
  | 0 => simp
  | 1 => simp [tA, tB]
  | i + 2 => simp at h; omega

theorem made_strs {w : World} (l : List ByteArray) {n : Nat} (hn : l.length = n) (hs : ∀ s ∈ l, s.size ≤ maxLen) (hm : n ≤ maxLen) : ListV StrR (frag (w.alloc (.cells (l.map Value.string).toArray 9))) (.slice (some ⟨w.heap.size, 0, none⟩) n n) l :=
  ListV.made _ l (by simpa using hn) hn hm (fun i hv hx => by simpa [StrR] using hs _ (List.getElem_mem _))
theorem made_ints {w : World} (l : List Int) {n : Nat} (hn : l.length = n) (hm : n ≤ maxLen) : ListV IntR (frag (w.alloc (.cells (l.map (Value.int .i64)).toArray 3))) (.slice (some ⟨w.heap.size, 0, none⟩) n n) l :=
  ListV.made _ l (by simpa using hn) hn hm (fun i hv hx => by simp [IntR])

set_option maxRecDepth 100000 in
set_option maxHeartbeats 4000000 in
theorem alive18 (w : World) : Calls Try.prog 4 #[] w fun e w' => e = .returned (.bool true) ∧ Below w.heap.size w w' := by
  have h1 := made_strs (w := w) [tA, tB, tA] (n := 3) rfl (by decide) (by decide)
  have h2 := made_strs (w := w.alloc (.cells #[.string tA, .string tB, .string tA] 9)) [tB, tC] (n := 2) rfl (by decide) (by decide)
  have Hc : Hid (Calls Try.prog 6 #[.slice (some ⟨w.heap.size + 1 + 1, 0, none⟩) 2 2] (((w.alloc (.cells #[.string tA, .string tB, .string tA] 9)).alloc (.cells #[.string tB, .string tC] 9)).alloc
      (.cells #[.slice (some ⟨w.heap.size, 0, none⟩) 3 3, .slice (some ⟨w.heap.size + 1, 0, none⟩) 2 2] 22)) (NumPost (((w.alloc (.cells #[.string tA, .string tB, .string tA] 9)).alloc (.cells #[.string tB, .string tC] 9)).alloc
      (.cells #[.slice (some ⟨w.heap.size, 0, none⟩) 3 3, .slice (some ⟨w.heap.size + 1, 0, none⟩) 2 2] 22)) [[tA, tB, tA], [tB, tC]])) := by
    refine number_any _ [[tA, tB, tA], [tB, tC]] _ ?_ (by decide) (by decide)
    have := ListV.made (R := ListV StrR) (w := (w.alloc (.cells #[.string tA, .string tB, .string tA] 9)).alloc (.cells #[.string tB, .string tC] 9)) (e := 22)
      #[.slice (some ⟨w.heap.size, 0, none⟩) 3 3, .slice (some ⟨w.heap.size + 1, 0, none⟩) 2 2] [[tA, tB, tA], [tB, tC]] (n := 2) rfl rfl (by decide) (fun i hv hx => ?_)
    · simpa using this
    · match i with
      | 0 => exact ListV.mono StrR.mono h1 ((alloc_le _ _).trans (alloc_le _ _))
      | 1 => exact ListV.mono StrR.mono (by simpa using h2) (alloc_le _ _)
      | i + 2 => simp at hx; omega
  clear h1 h2
  go_enter Try.func4, Try.ntmps4
  go_wp2_with fail
  refine Hc.out.mono ?_
  rintro e w1 ⟨u, rfl, hu, hb⟩
  have hb1 : Below w.heap.size w w1 := ((((Below.refl w.heap.size w).alloc (Nat.le_refl _) _).alloc (by simp) _).alloc (by simp; omega) _).trans (hb.mono (by simp; omega))
  clear hb Hc
  rw [rows_alive] at hu
  obtain ⟨a, c, rfl, hlc, hcm, _⟩ := hu.len
  obtain ⟨b0, o0, u0, hb0, hidx0, hcell0, hu0⟩ := ListV.at hu (i := 0) (by decide) Try.underlying25 sizeIntss
  obtain ⟨b1, o1, u1, hb1', hidx1, hcell1, hu1⟩ := ListV.at hu (i := 1) (by decide) Try.underlying25 sizeIntss
  simp only [List.getElem_cons_zero, List.getElem_cons_succ, List.length_cons, List.length_nil, Nat.zero_add, Nat.reduceAdd] at hu0 hu1 hidx0 hidx1 hlc ⊢
  rw [show ((0 : Nat) : Int) = 0 from rfl] at hidx0
  rw [show ((1 : Nat) : Int) = 1 from rfl] at hidx1
  have Hu0 := Lib.hid hu0; have Hu1 := Lib.hid hu1
  clear hu hu0 hu1
  go_wp2_with fail
  refine (same_true _ _ [0, 1, 0] _ (ListV.mono IntR.mono Hu0.out (alloc_le _ _)) (made_ints [0, 1, 0] rfl (by decide))).mono ?_
  rintro e w2 ⟨rfl, hb2⟩
  have hb12 : Below w1.heap.size w1 w2 := ((Below.refl w1.heap.size w1).alloc (Nat.le_refl _) _).trans (hb2.mono (by simp))
  have hcell1' := (hb12.cell (p := ⟨b1, o1, none⟩) hb1').trans hcell1
  clear hb2
  go_wp2_with fail
  refine (same_true _ _ [1, 2] _ (ListV.mono IntR.mono Hu1.out ((below_le hb12).trans (alloc_le _ _))) (made_ints [1, 2] rfl (by decide))).mono ?_
  rintro e w3 ⟨rfl, hb3⟩
  have hb13 : Below w1.heap.size w1 w3 := (hb12.alloc hb12.size _).trans (hb3.mono (by simp; have := hb12.size; omega))
  clear hb3
  go_wp2_with fail
  refine (unlike_any _ [tA, tB] _ (made_strs [tA, tB] rfl (by decide) (by decide)) (by decide)).mono ?_
  rintro e w4 ⟨r, rfl, hr, hb4⟩
  obtain rfl : r = true := hr.2 noTwo_alive
  have hb14 : Below w1.heap.size w1 w4 := (hb13.alloc hb13.size _).trans (hb4.mono (by simp; have := hb13.size; omega))
  clear hb4 hr
  go_wp2_with fail
  go_ret
  exact ⟨rfl, hb1.trans (hb14.mono hb1.size)⟩

/-- the loop at its head -/
def CmpRel (w : World) (w2 : World) (i : Value) (wr : World) : Prop := ∃ k : Nat, k ≤ 3 ∧ i = .int .i64 k ∧ Below w.heap.size w wr ∧ Below w2.heap.size w2 wr

theorem bool_same {P : Prop} {r s : Bool} (h1 : r = true ↔ P) (h2 : s = true ↔ P) : s = r := by
  cases r <;> cases s <;> simp_all

set_option maxRecDepth 100000 in
set_option maxHeartbeats 8000000 in
theorem codeNumbers_walk (w : World) (a0 : Option Addr) (n0 c0 : Nat) (s0 : List ByteArray) (h0 : ListV StrR (frag w) (.slice a0 n0 c0) s0)
    (a1 : Option Addr) (n1 c1 : Nat) (s1 : List ByteArray) (h1 : ListV StrR (frag w) (.slice a1 n1 c1) s1)
    (a2 : Option Addr) (n2 c2 : Nat) (s2 : List ByteArray) (h2 : ListV StrR (frag w) (.slice a2 n2 c2) s2) :
    Calls Try.prog 3 #[.slice a0 n0 c0, .slice a1 n1 c1, .slice a2 n2 c2] w fun e w' => e = .returned (.bool true) ∧ Below w.heap.size w w' := by
  have H0 := Lib.hid h0; have H1 := Lib.hid h1; have H2 := Lib.hid h2
  clear h0 h1 h2
  have HA := Lib.hid (alive18 w)
  go_enter Try.func3, Try.ntmps3
  go_wp2_with fail
  refine HA.out.mono ?_
  rintro e w1 ⟨rfl, hb1⟩
  have H0' := Lib.hid (ListV.mono StrR.mono H0.out (below_le hb1)); have H1' := Lib.hid (ListV.mono StrR.mono H1.out (below_le hb1)); have H2' := Lib.hid (ListV.mono StrR.mono H2.out (below_le hb1))
  clear H0 H1 H2 HA
  go_wp2_with fail
  refine (long_any _ s0 40 40 _ H0'.out).mono ?_
  rintro e w2 ⟨r, rfl, hr, rfl⟩
  have Hr0 := Lib.hid hr; clear hr
  cases r with
  | true =>
    go_wp2_with fail
    go_ret
    exact ⟨rfl, hb1⟩
  | false =>
    go_wp2_with fail
    refine (long_any _ s1 40 40 _ H1'.out).mono ?_
    rintro e w2 ⟨r, rfl, hr, rfl⟩
    have Hr1 := Lib.hid hr; clear hr
    cases r with
    | true =>
      go_wp2_with fail
      go_ret
      exact ⟨rfl, hb1⟩
    | false =>
      go_wp2_with fail
      refine (long_any _ s2 40 40 _ H2'.out).mono ?_
      rintro e w2 ⟨r, rfl, hr, rfl⟩
      have Hr2 := Lib.hid hr; clear hr
      cases r with
      | true =>
        go_wp2_with fail
        go_ret
        exact ⟨rfl, hb1⟩
      | false =>
        have ht : Hid (total [s0, s1, s2] < 1000000) := by
          show _ < _
          have e0 := (Hr0.out (by simp)).1; have e1 := (Hr1.out (by simp)).1; have e2 := (Hr2.out (by simp)).1
          simp [total]; omega
        have ht0 : Hid (s0.length < 1000000) := by
          show _ < _
          have e0 := (Hr0.out (by simp)).1
          omega
        clear Hr0 Hr1 Hr2
        have Hin : ∀ wk : World, Below w1.heap.size w1 wk → Hid (ListV (ListV StrR) (frag (wk.alloc (.cells #[.slice a0 n0 c0, .slice a1 n1 c1, .slice a2 n2 c2] 22))) (.slice (some ⟨wk.heap.size, 0, none⟩) 3 3) [s0, s1, s2]) := by
          intro wk hb
          refine ListV.made #[_, _, _] [s0, s1, s2] rfl rfl (by decide) (fun i hv hx => ?_)
          have hle := (below_le hb).trans (alloc_le wk (.cells #[.slice a0 n0 c0, .slice a1 n1 c1, .slice a2 n2 c2] 22))
          match i with
          | 0 => exact ListV.mono StrR.mono H0'.out hle
          | 1 => exact ListV.mono StrR.mono H1'.out hle
          | 2 => exact ListV.mono StrR.mono H2'.out hle
          | i + 3 => simp at hx; omega
        have HIn := Lib.hid Hin; clear Hin
        go_wp2_with fail
        refine (number_any _ [s0, s1, s2] _ (HIn.out w1 (Below.refl _ _)).out ht.out (by simp)).mono ?_
        rintro e w2 ⟨u, rfl, hu, hb2⟩
        have hb12 : Below w1.heap.size w1 w2 := ((Below.refl w1.heap.size w1).alloc (Nat.le_refl _) _).trans (hb2.mono (by simp))
        clear hb2
        obtain ⟨au, cu, rfl, huc, hum, _⟩ := hu.len
        have hl3 : (rowsOf [] [s0, s1, s2]).length = 3 := rfl
        rw [hl3] at hu huc ⊢
        have Hu := Lib.hid hu; clear hu
        go_wp2_with fail
        refine (refnumber_any _ [s0, s1, s2] _ (HIn.out w2 hb12).out ht.out (by simp)).mono ?_
        rintro e w3 ⟨v, rfl, hv, hb3⟩
        have hb23 : Below w2.heap.size w2 w3 := ((Below.refl w2.heap.size w2).alloc (Nat.le_refl _) _).trans (hb3.mono (by simp))
        clear hb3
        obtain ⟨av, cv, rfl, hvc, hvm, _⟩ := hv.len
        rw [hl3] at hv hvc ⊢
        have Hv := Lib.hid hv; clear hv
        clear HIn hum hvm
        go_wp2_with fail
        refine (number_any _ [] _ (ListV.nil _ _) (by decide) (by decide)).mono ?_
        rintro e w4 ⟨z, rfl, hz, hb34⟩
        obtain ⟨az, cz, rfl, _⟩ := hz.len
        have hl0 : (rowsOf [] []).length = 0 := rfl
        rw [hl0]
        clear hz
        have hb14 := (hb12.trans (hb23.mono hb12.size)).trans (hb34.mono (Nat.le_trans hb12.size hb23.size))
        go_wp2_with fail
        refine (unlike_any _ s0 _ (ListV.mono StrR.mono H0'.out (below_le hb14)) ht0.out).mono ?_
        rintro e w5 ⟨r, rfl, hr, hb45⟩
        have hb15 := hb14.trans (hb45.mono hb14.size)
        have Hr := Lib.hid hr; clear hr
        go_wp2_with fail
        refine (refunlike_any _ s0 _ (ListV.mono StrR.mono H0'.out (below_le hb15))).mono ?_
        rintro e w6 ⟨r', rfl, hr, hb56⟩
        obtain rfl := bool_same Hr.out hr
        clear hr Hr H0' H1' H2' ht ht0
        have hb16 := hb15.trans (hb56.mono hb15.size)
        have hb36 : Below w3.heap.size w3 w6 := (hb34.trans (hb45.mono hb34.size)).trans (hb56.mono (Nat.le_trans hb34.size hb45.size))
        have hb26 : Below w2.heap.size w2 w6 := hb23.trans (hb36.mono hb23.size)
        have hbw := hb1.trans (hb16.mono hb1.size)
        have hne : (r' != r') = false := by simp
        clear hb12 hb14 hb15 hb16 hb34 hb45 hb56
        go_wp2_with fail
        go_loopw [49] (CmpRel w w6) (fun i _ => 3 - (intOf i).toNat)
        case atStart => exact ⟨0, by omega, rfl, hbw, Below.refl _ _⟩
        case round =>
          obtain ⟨k, hk, rfl, hbr, hb6r⟩ := hrel
          by_cases hlt : k < 3
          · have hks : k < (rowsOf [] [s0, s1, s2]).length := by rw [hl3]; exact hlt
            have hb2r := hb26.trans (hb6r.mono hb26.size)
            have hb3r := hb36.trans (hb6r.mono hb36.size)
            obtain ⟨b0, o0, u0, hb0, hidx0, hcell0, hu0⟩ := ListV.at (n := 3) (cap := cu) (a := au) Hu.out (i := k) hks Try.underlying25 sizeIntss
            obtain ⟨b1, o1, u1, hb1', hidx1, hcell1, hu1⟩ := ListV.at (n := 3) (cap := cv) (a := av) Hv.out (i := k) hks Try.underlying25 sizeIntss
            have hc0 := (hb2r.cell (p := ⟨b0, o0, none⟩) hb0).trans hcell0
            have hc1 := (hb3r.cell (p := ⟨b1, o1, none⟩) hb1').trans hcell1
            have Hc := Lib.hid (fun wk (hk : Below wr.heap.size wr wk) => same_true u0 u1 (rowsOf [] [s0, s1, s2])[k] wk (ListV.mono IntR.mono hu0 ((below_le hb2r).trans (below_le hk))) (ListV.mono IntR.mono hu1 ((below_le hb3r).trans (below_le hk))))
            clear hcell0 hcell1 hu0 hu1
            go_wp2_with fail
            go_region_with (go_at_call 10; refine (Hc.out _ (by first | exact Below.refl _ _ | exact (Below.refl _ _).drew)).mono ?_; rintro e w7 ⟨rfl, hb7⟩)
            all_goals
              have hb7' : Below wr.heap.size wr w7 := ((Below.refl wr.heap.size wr).drew).trans hb7
              go_wp2_with fail
              go_roundw
              case rel => exact ⟨k + 1, by omega, by simp, hbr.trans (hb7'.mono hbr.size), hb6r.trans (hb7'.mono hb6r.size)⟩
              case measure => simp [intOf]; omega
          · go_wp2_with fail
            go_ret
            exact ⟨rfl, hbr⟩

end Go.Proofs.Ytgimlgipjjkmhaa
