/- The law AlignTexts, walked: it returns true. -/
import Derived.Test.YtlilamlolnkboaaAlAlive
namespace Go.Proofs.Ytlilamlolnkboaa
open Go.RowKit Go.WideShapes
open Num (ix add rowOf rowsOf knownOf total)
set_option linter.unusedVariables false

def ALRel (w w5 : World) (ks : List Nat) (x y kept i : Value) (wr : World) : Prop :=
  ∃ k : Nat, k ≤ ks.length ∧ i = .int .i64 k ∧ x = .int .i64 (endX 0 (ks.take k) : Nat) ∧ y = .int .i64 (endY 0 (ks.take k) : Nat) ∧ kept = .int .i64 (keeps (ks.take k) : Nat) ∧ Below w.heap.size w wr ∧ Below w5.heap.size w5 wr

theorem kindsOf_kinds (la lb : List ByteArray) : ∀ k ∈ kindsOf la lb, 1 ≤ k ∧ k ≤ 3 := tidyK_kinds _ 0 0
theorem kindsOf_len (la lb : List ByteArray) : (kindsOf la lb).length ≤ la.length + lb.length := by
  have h1 := (tidyK_len (My.steps (rowOf [] la) (rowOf (la.foldl add []) lb)) 0 0).1
  have h2 := (My.steps_kinds _ (rowOf [] la) (rowOf (la.foldl add []) lb) (Nat.le_refl _)).2
  rw [Num.rowOf_len, Num.rowOf_len] at h2
  unfold kindsOf; omega
theorem kindsOf_pd (la lb : List ByteArray) : NoPD (kindsOf la lb) := NoPD.tidy _ 0 0 (My.steps_kinds _ _ _ (Nat.le_refl _)).1

theorem step_cells {w : World} {ks : List Nat} {a : Option Addr} {n cap k : Nat} (hF : FlatV stepC (frag w) (.slice a n cap) (placed 0 0 ks)) (hk : k < ks.length) :
    ∃ b o, b < w.heap.size ∧ (∀ w', (Instr.indexAt 25 (.slice a n cap) (.int .i64 (k : Nat))).run Try.prog w' = .ok (.pointer (some ⟨b, o, none⟩)) w') ∧
      w.cell? ⟨b, o, none⟩ = some (.int .i64 ((if ks[k] = 1 then 1 else if ks[k] = 2 then 3 else 4 : Nat) : Int)) ∧ w.cell? ⟨b, o + 1, none⟩ = some (.int .i64 (endX 0 (ks.take k) : Nat)) ∧ w.cell? ⟨b, o + 2, none⟩ = some (.int .i64 (endY 0 (ks.take k) : Nat)) := by
  obtain ⟨b0, o0, hb0, hidx, hcell⟩ := FlatV.at hF stepC_len (by decide) (i := k) (by rw [placed_len]; exact hk) Try.underlying25 sizeStep
  rw [placed_at 0 0 hk] at hcell
  exact ⟨b0, o0, hb0, hidx, hcell 0 _ rfl, hcell 1 _ rfl, hcell 2 _ rfl⟩

set_option maxRecDepth 100000 in
set_option maxHeartbeats 8000000 in
theorem alignTexts_walk (w : World) (a0 : Option Addr) (n0 c0 : Nat) (s0 : List ByteArray) (h0 : ListV StrR (frag w) (.slice a0 n0 c0) s0)
    (a1 : Option Addr) (n1 c1 : Nat) (s1 : List ByteArray) (h1 : ListV StrR (frag w) (.slice a1 n1 c1) s1) :
    Calls Try.prog 3 #[.slice a0 n0 c0, .slice a1 n1 c1] w fun e w' => e = .returned (.bool true) ∧ Below w.heap.size w w' := by
  have hn0 : n0 = s0.length := by obtain ⟨a, c, e, _⟩ := h0.len; cases e; rfl
  have hn1 : n1 = s1.length := by obtain ⟨a, c, e, _⟩ := h1.len; cases e; rfl
  have H0 := Lib.hid h0; have H1 := Lib.hid h1
  have Hn0 := Lib.hid hn0; have Hn1 := Lib.hid hn1
  clear h0 h1 hn0 hn1
  have HA := Lib.hid (alive20 w)
  go_enter Try.func3, Try.ntmps3
  go_wp2_with fail
  refine HA.out.mono ?_
  rintro e w1 ⟨rfl, hb1⟩
  have H0' := Lib.hid (ListV.mono StrR.mono H0.out (below_le hb1)); have H1' := Lib.hid (ListV.mono StrR.mono H1.out (below_le hb1))
  clear HA
  go_wp2_with fail
  refine (long_any _ s0 60 40 _ H0'.out).mono ?_
  rintro e w2 ⟨r, rfl, hr, rfl⟩
  have Hr0 := Lib.hid hr; clear hr
  cases r with
  | true =>
    go_wp2_with fail
    go_ret
    exact ⟨rfl, hb1⟩
  | false =>
    go_wp2_with fail
    refine (long_any _ s1 60 40 _ H1'.out).mono ?_
    rintro e w2 ⟨r, rfl, hr, rfl⟩
    have Hr1 := Lib.hid hr; clear hr
    cases r with
    | true =>
      go_wp2_with fail
      go_ret
      exact ⟨rfl, hb1⟩
    | false =>
      have e0 := (Hr0.out (by simp)).1; have e1 := (Hr1.out (by simp)).1
      rw [← Hn0.out] at e0
      rw [← Hn1.out] at e1
      have HT := Lib.hid (texts_any _ _ s0 s1 w1 H0'.out H1'.out (by have := Hn0.out; omega) (by have := Hn1.out; omega))
      clear Hr0 Hr1
      go_wp2_with fail
      refine HT.out.mono ?_
      rintro e w2 ⟨u, rfl, hu, hb2⟩
      have hb12 := hb1.trans (hb2.mono hb1.size)
      have HT2 := Lib.hid (rtexts_any _ _ s0 s1 w2 (ListV.mono StrR.mono H0.out (below_le hb12)) (ListV.mono StrR.mono H1.out (below_le hb12)) (by have := Hn0.out; omega) (by have := Hn1.out; omega))
      have Hu := Lib.hid hu
      obtain ⟨au, cu, rfl, huc, hum, _⟩ := hu.len
      rw [placed_len] at huc Hu ⊢
      unfold maxLen at hum
      clear hu HT H0' H1'
      have Hkl := Lib.hid (kindsOf_len s0 s1); have Hkk := Lib.hid (kindsOf_kinds s0 s1); have Hpd := Lib.hid (kindsOf_pd s0 s1)
      have Hway := Lib.hid (show Way s0 s1 0 0 (kindsOf s0 s1) from way_texts s0 s1)
      have hkr : kindsOfR s0 s1 = kindsOf s0 s1 := rfl
      rw [hkr] at HT2
      clear hkr
      rw [← Hn0.out, ← Hn1.out] at Hkl
      generalize kindsOf s0 s1 = ks at *
      have hkl := Hkl.out
      generalize hn : ks.length = n at *
      have Hn := Lib.hid hn; clear hn
      go_wp2_with fail
      refine HT2.out.mono ?_
      rintro e w3 ⟨v, rfl, hv, hb3⟩
      have hb13 := hb12.trans (hb3.mono hb12.size)
      have Hu3 := Lib.hid (Hu.out.mono (below_le hb3))
      have HS := Lib.hid (samesteps_any _ _ _ w3 Hu3.out hv)
      clear hv HT2
      go_wp2_with fail
      refine HS.out.mono ?_
      rintro e w5 ⟨rfl, hb5⟩
      have hb15 := hb13.trans (hb5.mono hb13.size)
      have Hu5 := Lib.hid (Hu3.out.mono (below_le hb5))
      clear HS Hu3 Hu hb13 hb12 hb3 hb5 hb2
      go_wp2_with fail
      go_loopw [6, 7, 8, 30] (ALRel w w5 ks) (fun _ _ _ i _ => n - (intOf i).toNat)
      case atStart => exact ⟨0, Nat.zero_le _, rfl, rfl, rfl, rfl, hb15, Below.refl _ _⟩
      case round =>
        obtain ⟨k, hk, rfl, rfl, rfl, rfl, hbr, hb5r⟩ := hrel
        rw [Hn.out] at hk
        have hsz := hbr.size
        have hsz5 := hb5r.size
        have hwk := Hway.out.at (i := k)
        have hel := end_le (ks.take k) 0
        have hkp := keeps_le (ks.take k)
        have htl : (ks.take k).length ≤ k := List.length_take_le _ _
        by_cases hlt : k < n
        · have hks : k < ks.length := by rw [Hn.out]; exact hlt
          obtain ⟨b5, o5, hb5, hidx, hcA', hcB', hcC'⟩ := step_cells Hu5.out hks
          have hcA := (hb5r.cell (p := ⟨b5, o5, none⟩) hb5).trans hcA'
          have hcB := (hb5r.cell (p := ⟨b5, o5 + 1, none⟩) hb5).trans hcB'
          have hcC := (hb5r.cell (p := ⟨b5, o5 + 2, none⟩) hb5).trans hcC'
          clear hcA' hcB' hcC'
          have hkk := Hkk.out ks[k] (List.getElem_mem _)
          have Hsx : Hid (endX 0 (ks.take (k + 1)) = nextX ks[k] (endX 0 (ks.take k)) ∧ endY 0 (ks.take (k + 1)) = nextY ks[k] (endY 0 (ks.take k)) ∧ keeps (ks.take (k + 1)) = keeps (ks.take k) + (if ks[k] = 1 then 1 else 0)) := by
            show _ ∧ _
            rw [List.take_succ_eq_append_getElem hks, endX_snoc, endY_snoc, keeps_snoc]
            exact ⟨rfl, rfl, rfl⟩
          rw [List.drop_eq_getElem_cons hks, Way] at hwk
          have Hrel := Lib.hid (fun (wx : World) (x y kp : Nat) (hx : x = endX 0 (ks.take (k + 1))) (hy : y = endY 0 (ks.take (k + 1))) (hp : kp = keeps (ks.take (k + 1))) (h1 : Below w.heap.size w wx) (h2 : Below w5.heap.size w5 wx) =>
            (⟨k + 1, hks, rfl, by rw [hx], by rw [hy], by rw [hp], h1, h2⟩ : ALRel w w5 ks (.int .i64 (x : Nat)) (.int .i64 (y : Nat)) (.int .i64 (kp : Nat)) (.int .i64 ((k + 1 : Nat) : Int)) wx))
          have hprev : k = 0 ∨ ∃ j, k = j + 1 := by cases k with | zero => exact .inl rfl | succ j => exact .inr ⟨j, rfl⟩
          have Hprev : Hid (∀ j, k = j + 1 → ∃ (b o : Nat) (c : Int), b < w5.heap.size ∧ (∀ w', (Instr.indexAt 25 (.slice au n cu) (.int .i64 (j : Nat))).run Try.prog w' = .ok (.pointer (some ⟨b, o, none⟩)) w') ∧ w5.cell? ⟨b, o, none⟩ = some (.int .i64 c) ∧ (c = 4 → ks[k] ≠ 2)) := by
            rintro j rfl
            obtain ⟨b, o, h1, h2, h3, _⟩ := step_cells (k := j) Hu5.out (by omega)
            refine ⟨b, o, _, h1, h2, h3, fun hc h4 => ?_⟩
            have := Hpd.out.at (i := j) hks
            have h5 := Hkk.out ks[j] (List.getElem_mem _)
            refine this ⟨?_, h4⟩
            split at hc
            · omega
            · split at hc <;> omega
          clear Hway
          generalize ks[k] = kk at *
          generalize endX 0 (ks.take k) = X at *
          generalize endY 0 (ks.take k) = Y at *
          generalize keeps (ks.take k) = KP at *
          have hkk' : kk = 1 ∨ kk = 2 ∨ kk = 3 := by omega
          clear hkk
          have hbx : Below w.heap.size w wr ∧ Below w5.heap.size w5 wr := ⟨hbr, hb5r⟩
          have Hbx := Lib.hid hbx; clear hbx
          rcases hkk' with rfl | rfl | rfl
          · have gA : wr.cell? ⟨b5, o5, none⟩ = some (.int .i64 1) := hcA
            clear hcA
            have hway : ∃ (hx : X < s0.length) (hy : Y < s1.length), s0[X] = s1[Y] := by
              rcases hwk with ⟨_, h, _⟩ | ⟨h, _⟩ | ⟨h, _⟩
              · exact h
              · omega
              · omega
            clear hwk
            obtain ⟨hx, hy, he⟩ := hway
            obtain ⟨bs0, os0, us0, hbs0, hidx0, hcs0', hus0, _⟩ := ListV.at (n := n0) (cap := c0) (a := a0) H0.out (i := X) hx Try.underlying22 sizeStr
            obtain ⟨bs1, os1, us1, hbs1, hidx1, hcs1', hus1, _⟩ := ListV.at (n := n1) (cap := c1) (a := a1) H1.out (i := Y) hy Try.underlying22 sizeStr
            subst hus0 hus1
            rw [← he] at hcs1'
            rw [← Hn0.out] at hx
            rw [← Hn1.out] at hy
            have hbl : Below w.heap.size w (wr.alloc (.cells #[.int .i64 1, .int .i64 X, .int .i64 Y] 31)) := hbr.alloc hsz _
            have hcs0 := (hbl.cell (p := ⟨bs0, os0, none⟩) hbs0).trans hcs0'
            have hcs1 := (hbl.cell (p := ⟨bs1, os1, none⟩) hbs1).trans hcs1'
            clear hcs0' hcs1' he hbl
            generalize s0[X] = sX at *
            rcases hprev with hk0 | ⟨j, hj⟩
            · have g0 : decide ((0 : Int) < (k : Int)) = false := decide_eq_false (by omega)
              have g1 : ¬ ((0 : Int) < (k : Int)) := by omega
              clear hk0 Hprev
              go_wp2_with fail
              go_quiet (fail)
              go_wp2_with fail
              go_roundw
              case rel => exact Hrel.out _ (X + 1) (Y + 1) (KP + 1) (by rw [Hsx.out.1]; rfl) (by rw [Hsx.out.2.1]; rfl) (by rw [Hsx.out.2.2]; rfl) (Below.drewN (Hbx.out.1.alloc hsz _) _) (Below.drewN (Hbx.out.2.alloc hsz5 _) _)
              case measure => simp [intOf]; omega
            · obtain ⟨bp, op, c, hbp, hidxp, hcp', hc⟩ := Hprev.out j hj
              have hcp := ((hb5r.alloc hsz5 (.cells #[.int .i64 1, .int .i64 X, .int .i64 Y] 31)).cell (p := ⟨bp, op, none⟩) hbp).trans hcp'
              have hjk : (j : Int) = (k : Int) - 1 := by omega
              rw [hjk] at hidxp
              have g1 : (0 : Int) < (k : Int) := by omega
              have g3 : (k : Int) - 1 < (n : Int) := by omega
              clear hj hjk hcp' Hprev
              by_cases h4 : c = 4
              · subst h4
                clear hc
                go_wp2_with fail
                go_quiet (fail)
                go_wp2_with fail
                go_roundw
                case rel => exact Hrel.out _ (X + 1) (Y + 1) (KP + 1) (by rw [Hsx.out.1]; rfl) (by rw [Hsx.out.2.1]; rfl) (by rw [Hsx.out.2.2]; rfl) (Below.drewN (Hbx.out.1.alloc hsz _) _) (Below.drewN (Hbx.out.2.alloc hsz5 _) _)
                case measure => simp [intOf]; omega
              · have g4 : (c == 4) = false := by simpa using h4
                clear hc h4
                go_wp2_with fail
                go_quiet (fail)
                go_wp2_with fail
                go_roundw
                case rel => exact Hrel.out _ (X + 1) (Y + 1) (KP + 1) (by rw [Hsx.out.1]; rfl) (by rw [Hsx.out.2.1]; rfl) (by rw [Hsx.out.2.2]; rfl) (Below.drewN (Hbx.out.1.alloc hsz _) _) (Below.drewN (Hbx.out.2.alloc hsz5 _) _)
                case measure => simp [intOf]; omega
          · have gA : wr.cell? ⟨b5, o5, none⟩ = some (.int .i64 3) := hcA
            clear hcA
            clear hwk
            rcases hprev with hk0 | ⟨j, hj⟩
            · have g0 : decide ((0 : Int) < (k : Int)) = false := decide_eq_false (by omega)
              have g1 : ¬ ((0 : Int) < (k : Int)) := by omega
              clear hk0 Hprev
              go_wp2_with fail
              go_roundw
              case rel => exact Hrel.out _ (X + 1) (Y) (KP) (by rw [Hsx.out.1]; rfl) (by rw [Hsx.out.2.1]; rfl) (by rw [Hsx.out.2.2]; rfl) (Hbx.out.1.alloc hsz _) (Hbx.out.2.alloc hsz5 _)
              case measure => simp [intOf]; omega
            · obtain ⟨bp, op, c, hbp, hidxp, hcp', hc⟩ := Hprev.out j hj
              have hcp := ((hb5r.alloc hsz5 (.cells #[.int .i64 3, .int .i64 X, .int .i64 Y] 31)).cell (p := ⟨bp, op, none⟩) hbp).trans hcp'
              have hjk : (j : Int) = (k : Int) - 1 := by omega
              rw [hjk] at hidxp
              have g1 : (0 : Int) < (k : Int) := by omega
              have g3 : (k : Int) - 1 < (n : Int) := by omega
              clear hj hjk hcp' Hprev
              by_cases h4 : c = 4
              · exact absurd rfl (hc h4)
              · have g4 : (c == 4) = false := by simpa using h4
                clear hc h4
                go_wp2_with fail
                go_roundw
                case rel => exact Hrel.out _ (X + 1) (Y) (KP) (by rw [Hsx.out.1]; rfl) (by rw [Hsx.out.2.1]; rfl) (by rw [Hsx.out.2.2]; rfl) (Hbx.out.1.alloc hsz _) (Hbx.out.2.alloc hsz5 _)
                case measure => simp [intOf]; omega
          · have gA : wr.cell? ⟨b5, o5, none⟩ = some (.int .i64 4) := hcA
            clear hcA
            clear hwk
            rcases hprev with hk0 | ⟨j, hj⟩
            · have g0 : decide ((0 : Int) < (k : Int)) = false := decide_eq_false (by omega)
              have g1 : ¬ ((0 : Int) < (k : Int)) := by omega
              clear hk0 Hprev
              go_wp2_with fail
              go_roundw
              case rel => exact Hrel.out _ (X) (Y + 1) (KP) (by rw [Hsx.out.1]; rfl) (by rw [Hsx.out.2.1]; rfl) (by rw [Hsx.out.2.2]; rfl) (Hbx.out.1.alloc hsz _) (Hbx.out.2.alloc hsz5 _)
              case measure => simp [intOf]; omega
            · obtain ⟨bp, op, c, hbp, hidxp, hcp', hc⟩ := Hprev.out j hj
              have hcp := ((hb5r.alloc hsz5 (.cells #[.int .i64 4, .int .i64 X, .int .i64 Y] 31)).cell (p := ⟨bp, op, none⟩) hbp).trans hcp'
              have hjk : (j : Int) = (k : Int) - 1 := by omega
              rw [hjk] at hidxp
              have g1 : (0 : Int) < (k : Int) := by omega
              have g3 : (k : Int) - 1 < (n : Int) := by omega
              clear hj hjk hcp' Hprev
              by_cases h4 : c = 4
              · subst h4
                clear hc
                go_wp2_with fail
                go_roundw
                case rel => exact Hrel.out _ (X) (Y + 1) (KP) (by rw [Hsx.out.1]; rfl) (by rw [Hsx.out.2.1]; rfl) (by rw [Hsx.out.2.2]; rfl) (Hbx.out.1.alloc hsz _) (Hbx.out.2.alloc hsz5 _)
                case measure => simp [intOf]; omega
              · have g4 : (c == 4) = false := by simpa using h4
                clear hc h4
                go_wp2_with fail
                go_roundw
                case rel => exact Hrel.out _ (X) (Y + 1) (KP) (by rw [Hsx.out.1]; rfl) (by rw [Hsx.out.2.1]; rfl) (by rw [Hsx.out.2.2]; rfl) (Hbx.out.1.alloc hsz _) (Hbx.out.2.alloc hsz5 _)
                case measure => simp [intOf]; omega
        · obtain rfl : k = n := by omega
          have ht : ks.take k = ks := by rw [← Hn.out, List.take_length]
          have hd : ks.drop k = [] := by rw [← Hn.out, List.drop_length]
          rw [ht, hd, Way] at hwk
          rw [ht]
          clear ht hd
          obtain ⟨hx, hy⟩ := hwk
          rw [← Hn0.out] at hx
          rw [← Hn1.out] at hy
          rw [hx, hy]
          have HK := Lib.hid (kept_any ks _ wr (Hu5.out.mono (below_le hb5r)) Hkk.out)
          clear hx hy hel hkp htl
          generalize keeps ks = KP at *
          go_wp2_with fail
          with_reducible refine HK.out.mono ?_
          rintro e w6 ⟨rfl, hb6⟩
          go_wp2_with fail
          go_ret
          exact ⟨rfl, hbr.trans (hb6.mono hsz)⟩

end Go.Proofs.Ytlilamlolnkboaa
